/- Plain laws of marks: what is written into rows, and found there. No conditions but those that each states. -/
import Derived.Test.YtdfjdbpklbehoaaPGraph
namespace Go.Proofs.Ytdfjdbpklbehoaa.Ev
open Go
set_option linter.unusedVariables false
set_option linter.unusedSimpArgs false

/-- k, k + 1, .. -/
def upI (k : Int) (n : Nat) : List Int := (List.range n).map fun (i : Nat) => k + (i : Int)
theorem upI_len (k : Int) (n : Nat) : (upI k n).length = n := by simp [upI]
theorem upI_at (k : Int) (n : Nat) {i : Nat} (h : i < (upI k n).length) : (upI k n)[i] = k + (i : Int) := by simp [upI]
theorem wi_up {k : Int} {i : Nat} (h0 : -1000000 ≤ k) (h : k + (i : Int) < 4611686018427387905) : wi (k + (i : Int) + 1) = k + ((i + 1 : Nat) : Int) := by
  rw [wi_id (by omega) (by omega)]; omega

theorem markIntS_ok (L N : Nat) (xs : List Int) (k : Int) (hL : xs.length < L) (h0 : -1000000 ≤ k) (hk : k + (xs.length : Int) ≤ 4611686018427387904) (hl : xs.length ≤ 4611686018427387904) :
    f26 L N xs k = some (k + (xs.length : Int), upI k xs.length) := by
  show f26.b L N xs.length _ xs k = _
  unfold f26.b f26.b'
  have key : ∀ (n i : Nat) (ys : List Int), ys.length = xs.length → i ≤ xs.length → xs.length - i < n → ys.take i = upI k i →
      f26.l0 L N xs.length (fun z3 z4 => f26.p0_e0 L N xs.length (fun a0 a1 => some (a0, a1)) z3 z4) n (k + (i : Int)) (i : Int) ys = some (k + (xs.length : Int), upI k xs.length) := by
    intro n
    induction n with
    | zero => intro i ys _ _ h; omega
    | succ n ih =>
      intro i ys hy hi hn ht
      show f26.s0 L N xs.length _ (f26.l0 L N xs.length _ n) (k + (i : Int)) (i : Int) ys = _
      unfold f26.s0 f26.s0'
      by_cases hlt : i < ys.length
      · simp only [lt_cast hlt, le0, cond_true, Bool.and_true, Int.toNat_natCast]
        rw [wi_up h0 (by omega), wi_nat (by omega)]
        refine ih (i + 1) _ (by simp [hy]) (by omega) (by omega) ?_
        apply List.ext_getElem?
        intro j
        rw [List.getElem?_take]
        by_cases hj : j < i + 1
        · rw [if_pos hj]
          by_cases he : j = i
          · subst he
            rw [List.getElem?_set_self hlt]
            simp [upI]
          · rw [List.getElem?_set_ne (Ne.symm he)]
            have := congrArg (fun l => l[j]?) ht
            simp only [List.getElem?_take, if_pos (show j < i by omega)] at this
            rw [this]
            simp [upI, show j < i by omega, show j < i + 1 by omega]
        · rw [if_neg hj, List.getElem?_eq_none (by rw [upI_len]; omega)]
      · simp only [ge_cast hlt, cond_false]
        have hi' : i = xs.length := by omega
        subst hi'
        unfold f26.p0_e0 f26.p0_e0'
        rw [hy, Nat.beq_refl, cond_true]
        rw [List.take_of_length_le (by omega)] at ht
        rw [ht]
  have := key L 0 xs rfl (by omega) (by omega) (by simp [upI])
  rw [show k + ((0 : Nat) : Int) = k by omega] at this
  exact this

theorem heldIntS_ok (L N : Nat) (k : Int) (m : Nat) (hL : m < L) (h0 : -1000000 ≤ k) (hk : k + (m : Int) ≤ 4611686018427387904) (hl : m ≤ 4611686018427387904) :
    f27 L N (upI k m) k = some (k + (m : Int)) := by
  show f27.b L N _ (upI k m) k = _
  unfold f27.b f27.b'
  have key : ∀ (n i : Nat), i ≤ m → m - i < n →
      f27.l0 L N (fun z3 => f27.p0_e0 L N some z3) (fun z4 z5 => f27.p0_r L N some z4 z5) n (upI k m) (k + (i : Int)) (i : Int) = some (k + (m : Int)) := by
    intro n
    induction n with
    | zero => intro i _ h; omega
    | succ n ih =>
      intro i hi hn
      show f27.s0 L N _ _ (f27.l0 L N _ _ n) (upI k m) (k + (i : Int)) (i : Int) = _
      unfold f27.s0 f27.s0'
      by_cases hlt : i < (upI k m).length
      · have hm := upI_len k m
        simp only [lt_cast hlt, le0, cond_true, Bool.and_true, Int.toNat_natCast, at_lt hlt, upI_at k m hlt, bne_self_eq_false, cond_false]
        rw [wi_up h0 (by omega), wi_nat (by omega)]
        exact ih (i + 1) (by omega) (by omega)
      · simp only [ge_cast hlt, cond_false]
        rw [upI_len] at hlt
        have hi' : i = m := by omega
        subst hi'
        rfl
  have := key L 0 (by omega) (by omega)
  rw [show k + ((0 : Nat) : Int) = k by omega] at this
  exact this

theorem markMoveS_ok (L N : Nat) (xs : List Move) (k : Int) (hL : xs.length < L) (h0 : 0 ≤ k) (hk : k + 2 * (xs.length : Int) ≤ 4611686018427387904) (hl : xs.length ≤ 4611686018427387904) :
    ∃ ys, f102 L N xs k = some (k + 2 * (xs.length : Int), ys) := by
  show ∃ ys, f102.b L N xs.length _ xs k = _
  unfold f102.b f102.b'
  have key : ∀ (n i : Nat) (ys : List Move), ys.length = xs.length → i ≤ xs.length → xs.length - i < n →
      ∃ zs, f102.l0 L N xs.length (fun z3 z4 => f102.p0_e0 L N xs.length (fun a0 a1 => some (a0, a1)) z3 z4) n (k + 2 * (i : Int)) (i : Int) ys = some (k + 2 * (xs.length : Int), zs) := by
    intro n
    induction n with
    | zero => intro i ys _ _ h; omega
    | succ n ih =>
      intro i ys hy hi hn
      show ∃ zs, f102.s0 L N xs.length _ (f102.l0 L N xs.length _ n) (k + 2 * (i : Int)) (i : Int) ys = _
      unfold f102.s0 f102.s0'
      by_cases hlt : i < ys.length
      · simp only [lt_cast hlt, le0, cond_true, Bool.and_true, Int.toNat_natCast, List.length_set]
        rw [show wi (wi (k + 2 * (i : Int) + 1) + 1) = k + 2 * ((i + 1 : Nat) : Int) by rw [wi_id (n := k + 2 * (i : Int) + 1) (by omega) (by omega), wi_id (by omega) (by omega)]; omega, wi_nat (show i < 9223372036854775807 by omega)]
        exact ih (i + 1) _ (by simp [hy]) (by omega) (by omega)
      · simp only [ge_cast hlt, cond_false]
        have hi' : i = xs.length := by omega
        subst hi'
        unfold f102.p0_e0 f102.p0_e0'
        rw [hy, Nat.beq_refl, cond_true]
        exact ⟨_, rfl⟩
  obtain ⟨zs, h⟩ := key L 0 xs rfl (by omega) (by omega)
  rw [show k + 2 * ((0 : Nat) : Int) = k by omega] at h
  exact ⟨zs, h⟩

/-- marks in a graph: the number behind the last one -/
theorem markMoveSS_ok (L N : Nat) (xs : List (List Move)) (k : Int) (hL : xs.length < L) (hr : ∀ r ∈ xs, r.length < L ∧ r.length ≤ 1048576) (hl : xs.length ≤ 1048576) (h0 : 0 ≤ k) (hk : k ≤ 1048576) :
    ∃ (j : Int) (ys : List (List Move)), f66 L N xs k = some (j, ys) ∧ 0 ≤ j ∧ j ≤ k + 2097152 * (xs.length : Int) := by
  show ∃ j ys, f66.b L N xs.length _ xs k = _ ∧ _
  unfold f66.b f66.b'
  have key : ∀ (n i : Nat) (s : Int) (ys : List (List Move)), ys.length = xs.length → i ≤ xs.length → xs.length - i < n → (∀ r ∈ ys.drop i, r.length < L ∧ r.length ≤ 1048576) → 0 ≤ s → s ≤ k + 2097152 * (i : Int) →
      ∃ (j : Int) (zs : List (List Move)), f66.l0 L N xs.length (fun z3 z4 => f66.p0_e0 L N xs.length (fun a0 a1 => some (a0, a1)) z3 z4) n s (i : Int) ys = some (j, zs) ∧ 0 ≤ j ∧ j ≤ k + 2097152 * (xs.length : Int) := by
    intro n
    induction n with
    | zero => intro i s ys _ _ h; omega
    | succ n ih =>
      intro i s ys hy hi hn hro hs0 hs1
      show ∃ j zs, f66.s0 L N xs.length _ (f66.l0 L N xs.length _ n) s (i : Int) ys = _ ∧ _
      unfold f66.s0 f66.s0'
      by_cases hlt : i < ys.length
      · have hri := hro ys[i] (by rw [List.drop_eq_getElem_cons hlt]; exact .head _)
        obtain ⟨zs, hz⟩ := markMoveS_ok L N ys[i] s hri.1 hs0 (by omega) (by omega)
        simp only [lt_cast hlt, le0, cond_true, Bool.and_true, Int.toNat_natCast, at_lt hlt, hz, Option.bind_some]
        rw [wi_nat (by omega)]
        refine ih (i + 1) _ _ (by simp [hy]) (by omega) (by omega) (fun r hr => ?_) (by omega) (by omega)
        rw [List.drop_set_of_lt (by omega)] at hr
        refine hro r ?_
        rw [List.drop_eq_getElem_cons hlt]
        exact .tail _ hr
      · simp only [ge_cast hlt, cond_false]
        have hi' : i = xs.length := by omega
        subst hi'
        unfold f66.p0_e0 f66.p0_e0'
        rw [hy, Nat.beq_refl, cond_true]
        exact ⟨_, _, rfl, hs0, hs1⟩
  exact key L 0 k xs rfl (by omega) (by omega) (by rw [List.drop_zero]; exact hr) h0 (by omega)

end Go.Proofs.Ytdfjdbpklbehoaa.Ev
