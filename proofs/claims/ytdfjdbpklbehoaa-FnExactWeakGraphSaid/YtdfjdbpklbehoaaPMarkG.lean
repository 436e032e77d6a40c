/- Plain laws of marks in graphs: what is written into the rows, and found there. No conditions but those that each states. -/
import Derived.Test.YtdfjdbpklbehoaaPGraph
namespace Go.Proofs.Ytdfjdbpklbehoaa.Ev
open Go
set_option linter.unusedVariables false
set_option linter.unusedSimpArgs false

def upM (k : Int) (n : Nat) : List Move := (List.range n).map fun (i : Nat) => Move.mk (k + 2 * (i : Int)) (k + 2 * (i : Int) + 1)
theorem upM_len (k : Int) (n : Nat) : (upM k n).length = n := by simp [upM]
theorem upM_at (k : Int) (n : Nat) {i : Nat} (h : i < (upM k n).length) : (upM k n)[i] = Move.mk (k + 2 * (i : Int)) (k + 2 * (i : Int) + 1) := by simp [upM]

theorem markMoveS_eq (L N : Nat) (xs : List Move) (k : Int) (hL : xs.length < L) (h0 : 0 ≤ k) (hk : k + 2 * (xs.length : Int) ≤ 4611686018427387904) (hl : xs.length ≤ 4611686018427387904) :
    f102 L N xs k = some (k + 2 * (xs.length : Int), upM k xs.length) := by
  show f102.b L N xs.length _ xs k = _
  unfold f102.b f102.b'
  have key : ∀ (n i : Nat) (ys : List Move), ys.length = xs.length → i ≤ xs.length → xs.length - i < n → (∀ t, t < i → ys[t]? = some (Move.mk (k + 2 * (t : Int)) (k + 2 * (t : Int) + 1))) →
      f102.l0 L N xs.length (fun z3 z4 => f102.p0_e0 L N xs.length (fun a0 a1 => some (a0, a1)) z3 z4) n (k + 2 * (i : Int)) (i : Int) ys = some (k + 2 * (xs.length : Int), upM k xs.length) := by
    intro n
    induction n with
    | zero => intro i ys _ _ h; omega
    | succ n ih =>
      intro i ys hy hi hn hp
      show f102.s0 L N xs.length _ (f102.l0 L N xs.length _ n) (k + 2 * (i : Int)) (i : Int) ys = _
      unfold f102.s0 f102.s0'
      by_cases hlt : i < ys.length
      · simp only [lt_cast hlt, le0, cond_true, Bool.and_true, Int.toNat_natCast, List.length_set]
        rw [show wi (wi (k + 2 * (i : Int) + 1) + 1) = k + 2 * ((i + 1 : Nat) : Int) by rw [wi_id (n := k + 2 * (i : Int) + 1) (by omega) (by omega), wi_id (by omega) (by omega)]; omega, wi_nat (show i < 9223372036854775807 by omega), wi_id (n := k + 2 * (i : Int) + 1) (by omega) (by omega)]
        refine ih (i + 1) _ (by simp [hy]) (by omega) (by omega) (fun t ht => ?_)
        by_cases e : t = i
        · subst e
          simp [hlt, atD, List.getD, List.getElem?_set, List.getElem?_eq_getElem]
        · rw [List.getElem?_set_ne (by omega)]
          try rw [List.getElem?_set_ne (by omega)]
          exact hp t (by omega)
      · simp only [ge_cast hlt, cond_false]
        have hi' : i = xs.length := by omega
        subst hi'
        have hys : ys = upM k xs.length := by
          apply List.ext_getElem?
          intro t
          by_cases ht : t < xs.length
          · rw [hp t ht, List.getElem?_eq_getElem (by rw [upM_len]; exact ht), upM_at]
          · rw [List.getElem?_eq_none (by omega), List.getElem?_eq_none (by rw [upM_len]; omega)]
        unfold f102.p0_e0 f102.p0_e0'
        rw [hy, Nat.beq_refl, cond_true, hys]
  have := key L 0 xs rfl (by omega) (by omega) (fun t ht => by omega)
  rw [show k + 2 * ((0 : Nat) : Int) = k by omega] at this
  exact this

theorem heldMoveS_ok (L N : Nat) (k : Int) (m : Nat) (hL : m < L) (h0 : 0 ≤ k) (hk : k + 2 * (m : Int) ≤ 4611686018427387904) (hl : m ≤ 4611686018427387904) :
    f125 L N (upM k m) k = some (k + 2 * (m : Int)) := by
  show f125.b L N _ (upM k m) k = _
  unfold f125.b f125.b'
  have key : ∀ (n i : Nat), i ≤ m → m - i < n →
      f125.l0 L N (fun z3 => f125.p0_e0 L N some z3) (fun z4 z5 => f125.p0_r L N some z4 z5) n (upM k m) (k + 2 * (i : Int)) (i : Int) = some (k + 2 * (m : Int)) := by
    intro n
    induction n with
    | zero => intro i _ h; omega
    | succ n ih =>
      intro i hi hn
      show f125.s0 L N _ _ (f125.l0 L N _ _ n) (upM k m) (k + 2 * (i : Int)) (i : Int) = _
      unfold f125.s0 f125.s0'
      by_cases hlt : i < (upM k m).length
      · have hm := upM_len k m
        have e1 : wi (k + 2 * (i : Int) + 1) = k + 2 * (i : Int) + 1 := wi_id (by omega) (by omega)
        have e2 : wi (k + 2 * (i : Int) + 1 + 1) = k + 2 * ((i + 1 : Nat) : Int) := by rw [wi_id (by omega) (by omega)]; omega
        simp only [lt_cast hlt, le0, cond_true, Bool.and_true, Int.toNat_natCast, at_lt hlt, upM_at k m hlt, bne_self_eq_false, cond_false, e1, e2]
        rw [wi_nat (by omega)]
        exact ih (i + 1) (by omega) (by omega)
      · simp only [ge_cast hlt, cond_false]
        rw [upM_len] at hlt
        have hi' : i = m := by omega
        subst hi'
        rfl
  have := key L 0 (by omega) (by omega)
  rw [show k + 2 * ((0 : Nat) : Int) = k by omega] at this
  exact this

/-- the rows bear the marks k, k + 1, .. up to j -/
def Mk : Int → List (List Move) → Int → Prop
  | k, [], j => j = k
  | k, r :: rs, j => r = upM k r.length ∧ Mk (k + 2 * (r.length : Int)) rs j
theorem Mk.le : ∀ {k j : Int} {rs : List (List Move)}, Mk k rs j → k ≤ j
  | k, j, [], h => by have h : j = k := h; omega
  | k, j, r :: rs, h => by have := Mk.le h.2; omega
theorem Mk.snoc : ∀ {k j : Int} {rs : List (List Move)} (n : Nat), Mk k rs j → Mk k (rs ++ [upM j n]) (j + 2 * (n : Int))
  | k, j, [], n, h => by
    have h : j = k := h
    subst h
    exact ⟨by rw [upM_len], by rw [upM_len]; exact rfl⟩
  | k, j, r :: rs, n, h => ⟨h.1, Mk.snoc n h.2⟩

theorem markMoveSS_eq (L N : Nat) (xs : List (List Move)) (k : Int) (hL : xs.length < L) (hr : ∀ r ∈ xs, r.length < L ∧ r.length ≤ 1048576) (hl : xs.length ≤ 1048576) (h0 : 0 ≤ k) (hk : k ≤ 1048576) :
    ∃ (j : Int) (ys : List (List Move)), f66 L N xs k = some (j, ys) ∧ Mk k ys j ∧ 0 ≤ j ∧ j ≤ k + 2097152 * (xs.length : Int) ∧ ys.length = xs.length ∧ ∀ r ∈ ys, r.length < L ∧ r.length ≤ 1048576 := by
  show ∃ j ys, f66.b L N xs.length _ xs k = _ ∧ _
  unfold f66.b f66.b'
  have key : ∀ (n i : Nat) (s : Int) (ys : List (List Move)), ys.length = xs.length → i ≤ xs.length → xs.length - i < n → (∀ r ∈ ys, r.length < L ∧ r.length ≤ 1048576) → 0 ≤ s → s ≤ k + 2097152 * (i : Int) → Mk k (ys.take i) s →
      ∃ (j : Int) (zs : List (List Move)), f66.l0 L N xs.length (fun z3 z4 => f66.p0_e0 L N xs.length (fun a0 a1 => some (a0, a1)) z3 z4) n s (i : Int) ys = some (j, zs) ∧ Mk k zs j ∧ 0 ≤ j ∧ j ≤ k + 2097152 * (xs.length : Int) ∧ zs.length = xs.length ∧ ∀ r ∈ zs, r.length < L ∧ r.length ≤ 1048576 := by
    intro n
    induction n with
    | zero => intro i s ys _ _ h; omega
    | succ n ih =>
      intro i s ys hy hi hn hro hs0 hs1 hmk
      show ∃ j zs, f66.s0 L N xs.length _ (f66.l0 L N xs.length _ n) s (i : Int) ys = _ ∧ _
      unfold f66.s0 f66.s0'
      by_cases hlt : i < ys.length
      · have hri := hro ys[i] (List.getElem_mem hlt)
        have hz := markMoveS_eq L N ys[i] s hri.1 hs0 (by omega) (by omega)
        simp only [lt_cast hlt, le0, cond_true, Bool.and_true, Int.toNat_natCast, at_lt hlt, hz, Option.bind_some]
        rw [wi_nat (by omega)]
        refine ih (i + 1) _ _ (by simp [hy]) (by omega) (by omega) (fun r hr => ?_) (by omega) (by omega) ?_
        · rcases List.mem_or_eq_of_mem_set hr with q | q
          · exact hro r q
          · rw [q, upM_len]; exact hri
        · rw [List.take_add_one, List.getElem?_set_self hlt, List.take_set_of_le (Nat.le_refl i)]
          exact hmk.snoc _
      · simp only [ge_cast hlt, cond_false]
        have hi' : i = xs.length := by omega
        subst hi'
        unfold f66.p0_e0 f66.p0_e0'
        rw [hy, Nat.beq_refl, cond_true]
        rw [List.take_of_length_le (by omega)] at hmk
        exact ⟨_, _, rfl, hmk, hs0, hs1, hy, hro⟩
  exact key L 0 k xs rfl (by omega) (by omega) hr h0 (by omega) rfl

theorem heldMoveSS_ok (L N : Nat) (ys : List (List Move)) (k j : Int) (hL : ys.length < L) (hr : ∀ r ∈ ys, r.length < L ∧ r.length ≤ 1048576) (hl : ys.length ≤ 1048576) (h0 : 0 ≤ k) (hj : j ≤ 4611686018427387904) (hm : Mk k ys j) :
    f89 L N ys k = some j := by
  show f89.b L N _ ys k = _
  unfold f89.b f89.b'
  have key : ∀ (n i : Nat) (s : Int), i ≤ ys.length → ys.length - i < n → 0 ≤ s → Mk s (ys.drop i) j →
      f89.l0 L N (fun z3 => f89.p0_e0 L N some z3) (fun z4 z5 => f89.p0_r L N some z4 z5) n ys s (i : Int) = some j := by
    intro n
    induction n with
    | zero => intro i s _ h; omega
    | succ n ih =>
      intro i s hi hn hs hmk
      show f89.s0 L N _ _ (f89.l0 L N _ _ n) ys s (i : Int) = _
      unfold f89.s0 f89.s0'
      by_cases hlt : i < ys.length
      · rw [List.drop_eq_getElem_cons hlt] at hmk
        obtain ⟨e, hmk⟩ := hmk
        have hri := hr ys[i] (List.getElem_mem hlt)
        have hle := hmk.le
        have hz := heldMoveS_ok L N s ys[i].length hri.1 hs (by omega) (by omega)
        rw [← e] at hz
        simp only [lt_cast hlt, le0, cond_true, Bool.and_true, Int.toNat_natCast, at_lt hlt, hz, Option.bind_some]
        rw [show decide (s + 2 * (ys[i].length : Int) < 0) = false from decide_eq_false (by omega), cond_false, wi_nat (by omega)]
        exact ih (i + 1) _ (by omega) (by omega) (by omega) hmk
      · simp only [ge_cast hlt, cond_false]
        rw [List.drop_eq_nil_of_le (by omega)] at hmk
        have hmk : j = s := hmk
        subst hmk
        rfl
  exact key L 0 k (by omega) (by omega) h0 hm
theorem heldGraph_ok (L N : Nat) (ys : List (List Move)) (k j : Int) (hL : ys.length < L) (hr : ∀ r ∈ ys, r.length < L ∧ r.length ≤ 1048576) (hl : ys.length ≤ 1048576) (h0 : 0 ≤ k) (hj : j ≤ 4611686018427387904) (hm : Mk k ys j) :
    f48 L N (Graph.mk ys) k = some j := by
  show f48.b' L N some (Graph.mk ys) k = _
  unfold f48.b'
  have h := heldMoveSS_ok L N ys k j hL hr hl h0 hj hm
  have hle := hm.le
  simp only [h, Option.bind_some]
  rw [show decide (j < 0) = false from decide_eq_false (by omega), cond_false]
end Go.Proofs.Ytdfjdbpklbehoaa.Ev
