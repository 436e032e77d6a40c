/- Plain laws, in one text. -/
import Derived.Test.YtffkhhblppfbfaaGreatDoorGS4b
import Derived.Test.YtffkhhblppfbfaaGreatDoorEvZ
import Derived.Test.YtffkhhblppfbfaaGreatDoorEvSort
import Derived.Lib.ItoaNum
namespace Go.Proofs.YtffkhhblppfbfaaGreatDoor.Ev
open Go
set_option linter.unusedVariables false
set_option linter.unusedSimpArgs false
theorem act1_ok (L N : Nat) (n : Int) : f30 L N n = some (decide (-4 ≤ n ∧ n ≤ 4)) := by
  show f30.b L N some n = _
  unfold f30.b f30.b'
  by_cases h : n ≥ -4
  · rw [dt h, cond_true]; congr 1; by_cases h2 : n ≤ 4
    · rw [dt h2, dt (by omega)]
    · rw [df h2, df (by omega)]
  · rw [df h, cond_false, df (by omega)]
theorem in_ok (L N : Nat) (n a b : Int) : f32 L N n a b = some (decide (a ≤ n ∧ n ≤ b)) := by
  show f32.b L N some n a b = _
  unfold f32.b f32.b'
  by_cases h : n ≥ a
  · rw [dt h, cond_true]; congr 1; by_cases h2 : n ≤ b
    · rw [dt h2, dt (by omega)]
    · rw [df h2, df (by omega)]
  · rw [df h, cond_false, df (by omega)]
theorem act2_ok (L N : Nat) (n : Int) : f33 L N n = some (decide (-4 ≤ n ∧ n ≤ 4)) := by
  show f33.b L N some n = _
  unfold f33.b f33.b'
  rw [in_ok]; rfl
def gsize (ms : List (List Move)) : Nat := (ms.map List.length).sum
theorem gsize_row {ms : List (List Move)} : ∀ r ∈ ms, r.length ≤ gsize ms := by
  intro r hr
  unfold gsize
  induction ms with
  | nil => cases hr
  | cons a ms ih =>
    rw [List.map_cons, List.sum_cons]
    rcases List.mem_cons.1 hr with rfl | hr
    · omega
    · have := ih hr; omega
theorem allN_true (k i : Nat) : allN (fun _ => true) k i = true := by
  induction k generalizing i with
  | zero => rfl
  | succ k ih => exact ih (i + 1)
def lessM (a b : Move) : Bool := decide (a.act < b.act ∨ (a.act = b.act ∧ a.to < b.to))
def mvOk (n : Nat) (m : Move) : Bool := decide (-4 ≤ m.act ∧ m.act ≤ 4) && decide (0 ≤ m.to ∧ m.to < (n : Int))
def atOk (n : Nat) (r : List Move) (k : Nat) : Bool := mvOk n (r.getD k ⟨0, 0⟩) && (decide (k = 0) || lessM (r.getD (k - 1) ⟨0, 0⟩) (r.getD k ⟨0, 0⟩))
def rowOk (n : Nat) (r : List Move) : Bool := allN (atOk n r) r.length 0
def graphOk (g : Graph) : Bool := decide (1 ≤ g.moves.length ∧ g.moves.length ≤ 60) && allN (fun i => rowOk g.moves.length (g.moves.getD i [])) g.moves.length 0
theorem atD {α : Type} (x : List α) (d : α) (i : Nat) : listAt x d i = x.getD i d := rfl
theorem less2_ok (L N : Nat) (a b : Move) : f34 L N a b = some (lessM a b) := by
  show f34.b L N some a b = _
  unfold f34.b f34.b' lessM
  by_cases h : a.act < b.act
  · rw [dt h, cond_true, dt (by omega)]
  · rw [df h, cond_false]
    by_cases h2 : a.act = b.act
    · have : (a.act == b.act) = true := by simpa using h2
      rw [this, cond_true]
      by_cases h3 : a.to < b.to
      · rw [dt h3, dt (by omega)]
      · rw [df h3, df (by omega)]
    · have : (a.act == b.act) = false := by simpa using h2
      rw [this, cond_false, df (by omega)]
theorem cmp_ok (L N : Nat) (a b : Int) : f70 L N a b = some (if a < b then -1 else if a > b then 1 else 0) := by
  show f70.b L N some a b = _
  unfold f70.b f70.b'
  have h0 : ∀ a, f102 L N a = some false := fun a => by
    show f102.b L N some a = _
    unfold f102.b f102.b'
    simp
  simp only [h0, Option.bind_some, cond_false]
  by_cases h : a < b
  · rw [dt h, cond_true, if_pos h]
  · rw [df h, cond_false, if_neg h]
    by_cases h2 : a > b
    · rw [dt h2, cond_true, if_pos h2]
    · rw [df h2, cond_false, if_neg h2]
theorem byMove_ok (L N : Nat) (a b : Move) : ∃ r : Int, f31 L N a b = some r ∧ decide (r ≥ 0) = !lessM a b := by
  show ∃ r, f31.b L N some a b = some r ∧ _
  unfold f31.b f31.b' lessM
  simp only [cmp_ok, Option.bind_some]
  by_cases h : a.act < b.act
  · rw [if_pos h]
    exact ⟨-1, rfl, by rw [dt (show a.act < b.act ∨ _ from .inl h)]; rfl⟩
  · rw [if_neg h]
    by_cases h2 : a.act > b.act
    · rw [if_pos h2]
      exact ⟨1, rfl, by rw [df (show ¬ (a.act < b.act ∨ a.act = b.act ∧ a.to < b.to) by omega)]; rfl⟩
    · rw [if_neg h2]
      refine ⟨_, rfl, ?_⟩
      by_cases h3 : a.to < b.to
      · rw [if_pos h3, dt (show a.act < b.act ∨ a.act = b.act ∧ a.to < b.to by omega)]; rfl
      · rw [if_neg h3, df (show ¬ (a.act < b.act ∨ a.act = b.act ∧ a.to < b.to) by omega)]
        by_cases h4 : a.to > b.to
        · rw [if_pos h4]; rfl
        · rw [if_neg h4]; rfl
end Go.Proofs.YtffkhhblppfbfaaGreatDoor.Ev
namespace Go.Proofs.YtffkhhblppfbfaaGreatDoor.Ev
open Go
set_option linter.unusedVariables false
set_option linter.unusedSimpArgs false
theorem getD_lt {α : Type} {x : List α} {d : α} {i : Nat} (h : i < x.length) : x.getD i d = x[i] := by
  rw [List.getD_eq_getElem?_getD, List.getElem?_eq_getElem h]; rfl
theorem pred_cast {k : Nat} (h : 0 < k) (h2 : k < 9223372036854775807) : wi ((k : Int) - 1) = ((k - 1 : Nat) : Int) := by
  rw [wi_id (by omega) (by omega)]; omega
theorem mv_eta (m : Move) : Move.mk m.act m.to = m := by cases m; rfl
theorem gok2_ok (L N : Nat) (g : Graph) (hL : 1048576 < L) (hs : g.moves.length + gsize g.moves ≤ 1048576) : f9 L N g = some (graphOk g) := by
  show f9.b L N some g = _
  unfold f9.b f9.b' graphOk
  generalize hms : g.moves = ms
  rw [hms] at hs
  rw [in_ok]
  simp only [Option.bind_some]
  by_cases hr : 1 ≤ (ms.length : Int) ∧ (ms.length : Int) ≤ 60
  · rw [dt hr, dt (show 1 ≤ ms.length ∧ ms.length ≤ 60 by omega)]
    simp only [Bool.not_true, cond_false, Bool.true_and]
    refine (all_loop (l := fun n i => f9.l0 L N (f9.p0_e0 L N some) (fun z => f9.p0_r L N some z) n i ms) (len := ms.length) (q := fun i => rowOk ms.length (ms.getD i [])) (rt := some true) (rf := some false) (fun n i hi => ?_) (fun n => ?_) L 0 (by omega) (by omega)).trans ?_
    · show f9.s0 L N _ _ (f9.l0 L N _ _ n) i ms = _
      unfold f9.s0 f9.s0'
      simp only [lt_cast hi, cond_true, getD_lt hi]
      have hrow := gsize_row _ (List.getElem_mem hi)
      refine (all_loop (l := fun n k => f9.l1 L N (fun z6 z7 => f9.p1_e2 L N (f9.p0_e0 L N some) (fun z => f9.p0_r L N some z) (f9.l0 L N (f9.p0_e0 L N some) (fun z => f9.p0_r L N some z) _) z6 z7) (fun z15 z16 z17 => f9.p1_r L N (f9.p0_e0 L N some) (fun z => f9.p0_r L N some z) (f9.l0 L N (f9.p0_e0 L N some) (fun z => f9.p0_r L N some z) _) z15 z16 z17) n i k ms) (len := (ms[i]).length) (q := atOk ms.length ms[i]) (rt := f9.l0 L N (f9.p0_e0 L N some) (fun z => f9.p0_r L N some z) n ((i + 1 : Nat) : Int) ms) (rf := some false) (fun n' k hk => ?_) (fun n' => ?_) L 0 (by omega) (by omega)).trans (by rw [Nat.sub_zero]; rfl)
      · show f9.s1 L N _ _ (f9.l1 L N _ _ n') i k ms = _
        unfold f9.s1 f9.s1'
        have hw : wi ((ms.length : Int) - 1) = (ms.length : Int) - 1 := wi_id (by omega) (by omega)
        simp only [lt_cast hi, le0, cond_true, Bool.and_true, Bool.true_and, Int.toNat_natCast, at_lt hi, lt_cast hk, at_lt hk, act2_ok, in_ok, Option.bind_some, less2_ok, hw, mv_eta, wi_nat (show k < 9223372036854775807 by omega)]
        unfold atOk mvOk
        rw [getD_lt hk]
        by_cases hA : -4 ≤ (ms[i])[k].act ∧ (ms[i])[k].act ≤ 4
        · by_cases hB : 0 ≤ (ms[i])[k].to ∧ (ms[i])[k].to < (ms.length : Int)
          · rw [dt hA, dt hB, dt (show 0 ≤ (ms[i])[k].to ∧ (ms[i])[k].to ≤ (ms.length : Int) - 1 by omega)]
            simp only [Bool.not_true, cond_false, Bool.true_and]
            by_cases hk0 : k = 0
            · subst hk0
              rfl
            · have hp : k - 1 < (ms[i]).length := by omega
              rw [dt (show (k : Int) > 0 by omega), cond_true, pred_cast (by omega) (by omega)]
              simp only [le0, lt_cast hp, Bool.and_true, cond_true, Int.toNat_natCast, at_lt hp, Option.bind_some, df hk0, Bool.false_or, getD_lt hp]
              cases lessM (ms[i])[k - 1] (ms[i])[k] <;> rfl
          · rw [dt hA, df hB, df (show ¬ (0 ≤ (ms[i])[k].to ∧ (ms[i])[k].to ≤ (ms.length : Int) - 1) by omega)]
            rfl
        · rw [df hA]
          rfl
      · show f9.s1 L N _ _ (f9.l1 L N _ _ n') i (ms[i]).length ms = _
        unfold f9.s1 f9.s1'
        simp only [lt_cast hi, le0, cond_true, Bool.and_true, Bool.true_and, Int.toNat_natCast, at_lt hi, ge_cast (Nat.lt_irrefl _), cond_false]
        show f9.l0 L N _ _ n (wi ((i : Int) + 1)) ms = _
        rw [wi_nat (by omega)]
    · show f9.s0 L N _ _ (f9.l0 L N _ _ n) ms.length ms = _
      unfold f9.s0 f9.s0'
      simp only [ge_cast (Nat.lt_irrefl _), cond_false]
      rfl
    · rw [Nat.sub_zero]
      cases allN (fun i => rowOk ms.length (ms.getD i [])) ms.length 0 <;> rfl
  · rw [df hr, df (show ¬ (1 ≤ ms.length ∧ ms.length ≤ 60) by omega)]
    rfl
theorem gok1_ok (L N : Nat) (g : Graph) (hL : 1048576 < L) (hs : g.moves.length + gsize g.moves ≤ 1048576) : f8 L N g = some (graphOk g) := by
  show f8.b L N some g = _
  unfold f8.b f8.b' graphOk
  generalize hms : g.moves = ms
  rw [hms] at hs
  by_cases h1 : (ms.length : Int) < 1
  · rw [dt h1, cond_true, df (show ¬ (1 ≤ ms.length ∧ ms.length ≤ 60) by omega)]; rfl
  · rw [df h1, cond_false]
    by_cases h2 : (ms.length : Int) > 60
    · rw [dt h2, cond_true, df (show ¬ (1 ≤ ms.length ∧ ms.length ≤ 60) by omega)]; rfl
    · rw [df h2, cond_false, dt (show 1 ≤ ms.length ∧ ms.length ≤ 60 by omega)]
      simp only [Bool.true_and]
      unfold f8.j0'
      refine (all_loop (l := fun n i => f8.l0 L N (f8.p0_e0 L N some) (fun z => f8.p0_r L N some z) n ms (ms.length : Int) i ms) (len := ms.length) (q := fun i => rowOk ms.length (ms.getD i [])) (rt := some true) (rf := some false) (fun n i hi => ?_) (fun n => ?_) L 0 (by omega) (by omega)).trans ?_
      · show f8.s0 L N _ _ (f8.l0 L N _ _ n) ms (ms.length : Int) i ms = _
        unfold f8.s0 f8.s0'
        simp only [lt_cast hi, le0, Bool.and_true, cond_true, Int.toNat_natCast, at_lt hi, getD_lt hi]
        have hrow := gsize_row _ (List.getElem_mem hi)
        refine (all_loop (l := fun n k => f8.l1 L N (fun z15 z16 z17 z18 => f8.p1_e2 L N (f8.p0_e0 L N some) (fun z => f8.p0_r L N some z) (f8.l0 L N (f8.p0_e0 L N some) (fun z => f8.p0_r L N some z) _) z15 z16 z17 z18) (fun z30 z31 z32 z33 z34 => f8.p1_r L N (f8.p0_e0 L N some) (fun z => f8.p0_r L N some z) (f8.l0 L N (f8.p0_e0 L N some) (fun z => f8.p0_r L N some z) _) z30 z31 z32 z33 z34) n ms[i] ms (ms.length : Int) i ms[i] ((ms[i]).length : Int) k ms) (len := (ms[i]).length) (q := atOk ms.length ms[i]) (rt := f8.l0 L N (f8.p0_e0 L N some) (fun z => f8.p0_r L N some z) n ms (ms.length : Int) ((i + 1 : Nat) : Int) ms) (rf := some false) (fun n' k hk => ?_) (fun n' => ?_) L 0 (by omega) (by omega)).trans (by rw [Nat.sub_zero]; rfl)
        · show f8.s1 L N _ _ (f8.l1 L N _ _ n') ms[i] ms (ms.length : Int) i ms[i] ((ms[i]).length : Int) k ms = _
          unfold f8.s1 f8.s1'
          simp only [le0, cond_true, Bool.and_true, Bool.true_and, Int.toNat_natCast, lt_cast hk, at_lt hk, act1_ok, Option.bind_some, mv_eta, wi_nat (show k < 9223372036854775807 by omega)]
          unfold atOk mvOk
          rw [getD_lt hk]
          by_cases hA : -4 ≤ (ms[i])[k].act ∧ (ms[i])[k].act ≤ 4
          · rw [dt hA]
            simp only [Bool.not_true, cond_false, Bool.true_and]
            by_cases hB0 : (ms[i])[k].to < 0
            · rw [dt hB0, df (show ¬ (0 ≤ (ms[i])[k].to ∧ (ms[i])[k].to < (ms.length : Int)) by omega)]; rfl
            · rw [df hB0, cond_false]
              by_cases hB1 : (ms[i])[k].to ≥ (ms.length : Int)
              · rw [dt hB1, df (show ¬ (0 ≤ (ms[i])[k].to ∧ (ms[i])[k].to < (ms.length : Int)) by omega)]; rfl
              · rw [df hB1, cond_false, dt (show 0 ≤ (ms[i])[k].to ∧ (ms[i])[k].to < (ms.length : Int) by omega)]
                by_cases hk0 : k = 0
                · subst hk0
                  rfl
                · have hp : k - 1 < (ms[i]).length := by omega
                  rw [dt (show (k : Int) > 0 by omega), cond_true, pred_cast (by omega) (by omega)]
                  obtain ⟨r, hr, hd⟩ := byMove_ok L N (ms[i])[k - 1] (ms[i])[k]
                  simp only [le0, lt_cast hp, Bool.and_true, cond_true, Int.toNat_natCast, at_lt hp, hr, Option.bind_some, hd, df hk0, Bool.false_or, Bool.true_and, getD_lt hp]
                  cases lessM (ms[i])[k - 1] (ms[i])[k] <;> rfl
          · rw [df hA]
            rfl
        · show f8.s1 L N _ _ (f8.l1 L N _ _ n') ms[i] ms (ms.length : Int) i ms[i] ((ms[i]).length : Int) (ms[i]).length ms = _
          unfold f8.s1 f8.s1'
          simp only [ge_cast (Nat.lt_irrefl _), cond_false]
          show f8.l0 L N _ _ n ms (ms.length : Int) (wi ((i : Int) + 1)) ms = _
          rw [wi_nat (by omega)]
      · show f8.s0 L N _ _ (f8.l0 L N _ _ n) ms (ms.length : Int) ms.length ms = _
        unfold f8.s0 f8.s0'
        simp only [ge_cast (Nat.lt_irrefl _), cond_false]
        rfl
      · rw [Nat.sub_zero]
        cases allN (fun i => rowOk ms.length (ms.getD i [])) ms.length 0 <;> rfl
theorem graphOk_mv {g : Graph} (h : graphOk g = true) : 1 ≤ g.moves.length ∧ g.moves.length ≤ 60 ∧ ∀ (i : Nat) (hi : i < g.moves.length) (k : Nat) (hk : k < (g.moves[i]).length), -4 ≤ (g.moves[i])[k].act ∧ (g.moves[i])[k].act ≤ 4 ∧ 0 ≤ (g.moves[i])[k].to ∧ (g.moves[i])[k].to < (g.moves.length : Int) := by
  unfold graphOk at h
  simp only [Bool.and_eq_true, decide_eq_true_eq] at h
  refine ⟨h.1.1, h.1.2, fun i hi k hk => ?_⟩
  have h1 := allN_get _ 0 h.2 i (by omega) (by omega)
  simp only [getD_lt hi] at h1
  have h2 := allN_get _ 0 h1 k (by omega) (by omega)
  unfold atOk mvOk at h2
  rw [getD_lt hk] at h2
  simp only [Bool.and_eq_true, decide_eq_true_eq] at h2
  exact ⟨h2.1.1.1, h2.1.1.2, h2.1.2.1, h2.1.2.2⟩
end Go.Proofs.YtffkhhblppfbfaaGreatDoor.Ev
namespace Go.Proofs.YtffkhhblppfbfaaGreatDoor.Ev
open Go
set_option linter.unusedVariables false
def BOk (c : List Int) : Prop := c.length ≤ 2000 ∧ ∀ b ∈ c, 0 ≤ b ∧ b ≤ 255
theorem BOk.at {c : List Int} (h : BOk c) (i : Nat) : 0 ≤ listAt c (0 : Int) i ∧ listAt c (0 : Int) i ≤ 255 := by
  by_cases hi : i < c.length
  · rw [at_lt hi]; exact h.2 _ (List.getElem_mem hi)
  · have : listAt c (0 : Int) i = 0 := by
      unfold listAt
      rw [List.getD_eq_getElem?_getD, List.getElem?_eq_none (by omega)]; rfl
    omega
theorem xor_nonneg {a b : Int} (a0 : 0 ≤ a) (a1 : a < 9223372036854775808) (b0 : 0 ≤ b) (b1 : b < 9223372036854775808) :
    0 ≤ IntKind.wrap .i64 ((BitVec.ofInt (IntKind.bits .i64) a ^^^ BitVec.ofInt (IntKind.bits .i64) b).toNat) := by
  have key : ((BitVec.ofInt (IntKind.bits .i64) a ^^^ BitVec.ofInt (IntKind.bits .i64) b).toNat) < 9223372036854775808 := by
    rw [BitVec.toNat_xor]
    have h1 : (BitVec.ofInt (IntKind.bits .i64) a).toNat < 2 ^ 63 := by
      rw [BitVec.toNat_ofInt]
      have : ((2 ^ IntKind.bits .i64 : Nat) : Int) = 18446744073709551616 := by decide
      rw [this]; omega
    have h2 : (BitVec.ofInt (IntKind.bits .i64) b).toNat < 2 ^ 63 := by
      rw [BitVec.toNat_ofInt]
      have : ((2 ^ IntKind.bits .i64 : Nat) : Int) = 18446744073709551616 := by decide
      rw [this]; omega
    have := Nat.xor_lt_two_pow h1 h2
    omega
  have := wi_id (n := ((BitVec.ofInt (IntKind.bits .i64) a ^^^ BitVec.ofInt (IntKind.bits .i64) b).toNat : Int)) (by omega) (by omega)
  unfold wi at this
  rw [this]; omega
theorem tmod_range {x n : Int} (h0 : 0 ≤ x) (h1 : 1 ≤ n) : 0 ≤ Int.tmod x n ∧ Int.tmod x n < n :=
  ⟨Int.tmod_nonneg n h0, Int.tmod_lt_of_pos x (by omega)⟩
theorem pick_ok (L N : Nat) {c : List Int} (hb : BOk c) {p n : Int} (p0 : 0 ≤ p) (p1 : p ≤ 1099511627776) (n1 : 1 ≤ n) : ∃ r, f85 L N c p n = some (r, c, p + 1) ∧ 0 ≤ r ∧ r < n := by
  show ∃ r, f85.b L N (fun a0 a1 a2 => some (a0, a1, a2)) c p n = _ ∧ _
  unfold f85.b f85.b' f85.j0'
  have hw : wi (p + 1) = p + 1 := wi_id (by omega) (by omega)
  have hw1 : wi (p + 1 - 1) = p := by
    have h1 : p + 1 - 1 = p := by omega
    rw [h1]; exact wi_id (by omega) (by omega)
  rw [df (show ¬ n < 1 by omega), cond_false, hw, hw1]
  have hl := hb.1
  by_cases he : c.length = 0
  · have : ((c.length : Int) == 0) = true := by rw [beq_iff_eq]; omega
    rw [this, cond_true]
    exact ⟨0, rfl, by omega, by omega⟩
  · have : ((c.length : Int) == 0) = false := by simp; intro h; simp [h] at he
    rw [this, cond_false]
    by_cases hlt : p < (c.length : Int)
    · rw [dt hlt, cond_true, dt p0, Bool.true_and, cond_true, df (show ¬ n = 0 by omega), cond_false]
      have := hb.at p.toNat
      rw [wi_id (by omega) (by omega)]
      have := tmod_range this.1 n1
      exact ⟨_, rfl, this.1, this.2⟩
    · rw [df hlt, cond_false]
      have hq := tmod_range (n := (c.length : Int)) p0 (by omega)
      have h7 : wi (wi (p * 7) + 3) = p * 7 + 3 := by rw [wi_id (n := p * 7) (by omega) (by omega), wi_id (by omega) (by omega)]
      have hr := tmod_range (x := p * 7 + 3) (n := (c.length : Int)) (by omega) (by omega)
      rw [df (show ¬ (c.length : Int) = 0 by omega), cond_false, dt hq.1, dt hq.2, Bool.true_and, cond_true, h7, dt hr.1, dt hr.2, Bool.true_and, cond_true, df (show ¬ n = 0 by omega)]
      simp only [cond_false, show decide ((64 : Int) = 0) = false from rfl]
      have b1 := hb.at (Int.tmod p (c.length : Int)).toNat
      have b2 := hb.at (Int.tmod (p * 7 + 3) (c.length : Int)).toNat
      generalize listAt c (0 : Int) (Int.tmod p (c.length : Int)).toNat = x1 at b1 ⊢
      generalize listAt c (0 : Int) (Int.tmod (p * 7 + 3) (c.length : Int)).toNat = x2 at b2 ⊢
      have hd0 : 0 ≤ Int.tdiv p (c.length : Int) := Int.tdiv_nonneg p0 (by omega)
      have hd1 : Int.tdiv p (c.length : Int) ≤ p := Int.tdiv_le_self _ p0
      generalize Int.tdiv p (c.length : Int) = q at hd0 hd1 ⊢
      rw [wi_id (n := x1) (by omega) (by omega), wi_id (n := x2) (by omega) (by omega), wi_id (n := x1 * 131) (by omega) (by omega), wi_id (n := x2 * 1117) (by omega) (by omega), wi_id (n := x1 * 131 + x2 * 1117) (by omega) (by omega),
        wi_id (n := p * 29) (by omega) (by omega), wi_id (n := x1 * 131 + x2 * 1117 + p * 29) (by omega) (by omega), wi_id (n := q) (by omega) (by omega), wi_id (n := q * 53) (by omega) (by omega), wi_id (n := x1 * 131 + x2 * 1117 + p * 29 + q * 53) (by omega) (by omega)]
      have ha0 : 0 ≤ x1 * 131 + x2 * 1117 + p * 29 + q * 53 := by omega
      have ha1 : x1 * 131 + x2 * 1117 + p * 29 + q * 53 < 1000000000000000 := by omega
      generalize x1 * 131 + x2 * 1117 + p * 29 + q * 53 = a at ha0 ha1 ⊢
      have hs0 : 0 ≤ Int.tdiv a 64 := Int.tdiv_nonneg ha0 (by omega)
      have hs1 : Int.tdiv a 64 ≤ a := Int.tdiv_le_self _ ha0
      generalize Int.tdiv a 64 = s at hs0 hs1 ⊢
      rw [wi_id (n := s) (by omega) (by omega)]
      have := tmod_range (xor_nonneg ha0 (by omega) hs0 (by omega)) n1
      exact ⟨_, rfl, this.1, this.2⟩
theorem open_ok (L N : Nat) {x : List Int} (hx : DatOk (.sl (.int .u8)) x) : ∃ c, f57 L N x = some (c, 0) ∧ BOk c := by
  have hb : ∀ b ∈ x, 0 ≤ b ∧ b ≤ 255 := by
    intro b hb
    have h1 := hx (.sl (x.map fun n => [.int .u8 n])) (by simp only [enc, List.mem_cons, List.not_mem_nil, or_false])
    cases h1 with | sl _ h1 h2 =>
    have h3 := h2 [.int .u8 b] (List.mem_map.2 ⟨b, hb, rfl⟩) (.int .u8 b) (.head _)
    cases h3 with | int _ _ h3 =>
    simp only [Lit.wf, Bool.and_eq_true, decide_eq_true_eq] at h3
    exact h3
  show ∃ c, f57.b L N (fun a0 a1 => some (a0, a1)) x = _ ∧ _
  unfold f57.b f57.b'
  by_cases h : (x.length : Int) > 2000
  · rw [dt h, cond_true]
    have hs : slB (0 : Int) (2000 : Int) x.length = true := by
      unfold slB
      rw [dt (show (0 : Int) ≤ 0 by omega), dt (show (0 : Int) ≤ 2000 by omega), dt (show (2000 : Int) ≤ (x.length : Int) by omega)]; rfl
    rw [hs, cond_true]
    refine ⟨_, rfl, ?_, fun b hb' => ?_⟩
    · unfold slX
      rw [List.length_take]
      have : (2000 : Int).toNat - (0 : Int).toNat = 2000 := rfl
      rw [this]; omega
    · unfold slX at hb'
      exact hb b (List.mem_of_mem_drop (List.mem_of_mem_take hb'))
  · rw [df h, cond_false]
    exact ⟨x, rfl, by omega, hb⟩
theorem do_ok (L N : Nat) {c : List Int} (hb : BOk c) {p : Int} (p0 : 0 ≤ p) (p1 : p ≤ 1099511600000) : ∃ r, f113 L N c p = some (r, c, p + 2) ∧ -4 ≤ r ∧ r ≤ 4 := by
  show ∃ r, f113.b L N (fun a0 a1 a2 => some (a0, a1, a2)) c p = _ ∧ _
  unfold f113.b f113.b'
  obtain ⟨r, hr, r0, r1⟩ := pick_ok L N hb p0 (by omega) (show (1 : Int) ≤ 3 by omega)
  rw [hr]
  simp only [Option.bind_some]
  by_cases h : r > 0
  · rw [dt h, cond_true]
    obtain ⟨s, hs, s0, s1⟩ := pick_ok L N hb (p := p + 1) (by omega) (by omega) (show (1 : Int) ≤ 5 by omega)
    rw [hs]
    simp only [Option.bind_some]
    rw [wi_id (by omega) (by omega)]
    exact ⟨_, by rw [show p + 1 + 1 = p + 2 by omega], by omega, by omega⟩
  · rw [df h, cond_false]
    obtain ⟨s, hs, s0, s1⟩ := pick_ok L N hb (p := p + 1) (by omega) (by omega) (show (1 : Int) ≤ 9 by omega)
    rw [hs]
    simp only [Option.bind_some]
    rw [wi_id (by omega) (by omega)]
    exact ⟨_, by rw [show p + 1 + 1 = p + 2 by omega], by omega, by omega⟩
end Go.Proofs.YtffkhhblppfbfaaGreatDoor.Ev
namespace Go.Proofs.YtffkhhblppfbfaaGreatDoor.Ev
open Go
set_option linter.unusedVariables false
mutual
def nodes : Tree → Nat
  | .mk _ _ ps => 1 + nodess ps
def nodess : List Tree → Nat
  | [] => 0
  | p :: r => nodes p + nodess r
end
theorem nodes_pos (t : Tree) : 1 ≤ nodes t := by cases t; simp [nodes]
theorem nodess_len : ∀ ps : List Tree, ps.length ≤ nodess ps
  | [] => by simp
  | p :: r => by have := nodess_len r; have := nodes_pos p; simp [nodess]; omega
theorem nodess_drop {ps : List Tree} {i : Nat} (h : i < ps.length) : nodess (ps.drop i) = nodes ps[i] + nodess (ps.drop (i + 1)) := by
  rw [List.drop_eq_getElem_cons h]; rfl
theorem nodess_drop_le : ∀ (ps : List Tree) (i : Nat), nodess (ps.drop i) ≤ nodess ps
  | [], i => by simp
  | p :: r, 0 => by simp
  | p :: r, i + 1 => by have := nodess_drop_le r i; simp [nodess]; omega
theorem nodes_get {ps : List Tree} {i : Nat} (h : i < ps.length) : nodes ps[i] ≤ nodess ps := by
  have h1 := nodess_drop h
  have h2 := nodess_drop_le ps i
  omega
end Go.Proofs.YtffkhhblppfbfaaGreatDoor.Ev
namespace Go.Proofs.YtffkhhblppfbfaaGreatDoor.Ev
open Go
set_option linter.unusedVariables false
set_option linter.unusedSimpArgs false
theorem tree_eta (t : Tree) : Tree.mk t.op t.n t.parts = t := by cases t; rfl
theorem nodes_mk (o n : Int) (t : Tree) : nodes (Tree.mk o n t.parts) = nodes t := by cases t; simp [nodes, Tree.parts]
theorem pow3_pos (d : Nat) : 1 ≤ 3 ^ d := Nat.one_le_pow _ _ (by omega)
theorem pow2_pos (d : Nat) : 1 ≤ 2 ^ d := Nat.one_le_pow _ _ (by omega)
theorem good_draw (L N : Nat) {c : List Int} (hb : BOk c) : ∀ (m d : Nat) (p n : Int) (b : Bool), d < m → d ≤ 6 → 0 ≤ p → p + 20 * ((3 ^ d : Nat) : Int) ≤ 1099511000000 → 0 ≤ n →
    ∃ t p', f138 L N m c p (d : Int) n b = some (t, c, p') ∧ p ≤ p' ∧ p' ≤ p + 20 * ((3 ^ d : Nat) : Int) ∧ nodes t + 1 ≤ 3 * 2 ^ d := by
  intro m
  induction m with
  | zero => intro d p n b h; omega
  | succ m ih =>
    intro d p n b hdm hd p0 pb n0
    have h3 := pow3_pos d
    have h2 := pow2_pos d
    show ∃ t p', f138.b L N (f138 L N m) (fun a0 a1 a2 => some (a0, a1, a2)) c p (d : Int) n b = _ ∧ _
    unfold f138.b f138.b'
  
    have tail : ∀ (v q : Int) (call : Bool), 0 ≤ v → (d = 0 → v < 2) → p ≤ q → q ≤ p + 2 → (call = true → 0 < n) → (v = 0 ∨ 1 ≤ v) →
        ∃ t p', f138.j0' L N (f138 L N m) (fun a0 a1 a2 => some (a0, a1, a2)) (d : Int) n b v call c q (0 : Int) (0 : Int) = some (t, c, p') ∧ p ≤ p' ∧ p' ≤ p + 20 * ((3 ^ d : Nat) : Int) ∧ nodes t + 1 ≤ 3 * 2 ^ d := by
      intro v q call v0 vd hq0 hq1 hcall _
      unfold f138.j0'
      cases call with
      | true =>
        rw [cond_true]
        obtain ⟨r, hr, r0, r1⟩ := pick_ok L N hb (p := q) (n := n) (by omega) (by omega) (by have := hcall rfl; omega)
        rw [hr]
        simp only [Option.bind_some]
        exact ⟨_, _, rfl, by omega, by omega, by simp only [nodes, nodess]; omega⟩
      | false =>
        rw [cond_false]
        by_cases hv0 : v = 0
        · rw [show (v == 0) = true by simpa using hv0, cond_true]
          exact ⟨_, _, rfl, by omega, by omega, by simp only [nodes, nodess]; omega⟩
        · rw [show (v == 0) = false by simpa using hv0, cond_false]
          by_cases hv5 : v < 5
          · rw [dt hv5, cond_true]
            obtain ⟨r, hr, r0, r1⟩ := do_ok L N hb (p := q) (by omega) (by omega)
            rw [hr]
            simp only [Option.bind_some]
            by_cases hdz : d = 0
            · subst hdz
              rw [show (((0 : Nat) : Int) == 0) = true from rfl, cond_true]
              exact ⟨_, _, rfl, by omega, by omega, by simp [nodes, nodess]⟩
            · obtain ⟨d', rfl⟩ : ∃ d', d = d' + 1 := ⟨d - 1, by omega⟩
              have hpw : ((3 ^ (d' + 1) : Nat) : Int) = 3 * ((3 ^ d' : Nat) : Int) := by rw [Nat.pow_succ]; omega
              have hpw2 : 2 ^ (d' + 1) = 2 * 2 ^ d' := by rw [Nat.pow_succ]; omega
              have hw : wi (((d' + 1 : Nat) : Int) - 1) = (d' : Int) := by rw [wi_id (by omega) (by omega)]; omega
              have h3' := pow3_pos d'
              rw [show ((((d' + 1 : Nat) : Int)) == 0) = false by simp; omega, cond_false, hw]
              have hmax : (bif decide ((d' : Int) > 0) then (d' : Int) else 0) = (d' : Int) := by
                by_cases h : (d' : Int) > 0
                · rw [dt h, cond_true]
                · rw [df h, cond_false]; omega
              rw [hmax]
              obtain ⟨t, p', e, e1, e2, e3⟩ := ih d' (q + 2) n true (by omega) (by omega) (by omega) (by omega) n0
              rw [e]
              simp only [Option.bind_some]
              exact ⟨_, _, rfl, by omega, by omega, by simp only [nodes, nodess]; omega⟩
          · rw [df hv5, cond_false]
            have hdz : d ≠ 0 := fun h => by have := vd h; omega
            obtain ⟨d', rfl⟩ : ∃ d', d = d' + 1 := ⟨d - 1, by omega⟩
            have hpw : ((3 ^ (d' + 1) : Nat) : Int) = 3 * ((3 ^ d' : Nat) : Int) := by rw [Nat.pow_succ]; omega
            have hpw2 : 2 ^ (d' + 1) = 2 * 2 ^ d' := by rw [Nat.pow_succ]; omega
            have hw : wi (((d' + 1 : Nat) : Int) - 1) = (d' : Int) := by rw [wi_id (by omega) (by omega)]; omega
            have h3' := pow3_pos d'
            by_cases hv5' : v = 5
            · rw [show (v == 5) = true by simpa using hv5', cond_true]
              obtain ⟨r, hr, r0, r1⟩ := pick_ok L N hb (p := q) (n := 4) (by omega) (by omega) (by omega)
              rw [hr]
              simp only [Option.bind_some, hw]
              obtain ⟨t, p', e, e1, e2, e3⟩ := ih d' (q + 1) n b (by omega) (by omega) (by omega) (by omega) n0
              rw [e]
              simp only [Option.bind_some]
              exact ⟨_, _, rfl, by omega, by omega, by simp only [nodes, nodess]; omega⟩
            · rw [show (v == 5) = false by simpa using hv5', cond_false, hw]
              obtain ⟨t, p', e, e1, e2, e3⟩ := ih d' q n b (by omega) (by omega) (by omega) (by omega) n0
              obtain ⟨t2, p2, f, f1, f2, f3⟩ := ih d' p' n b (by omega) (by omega) (by omega) (by omega) n0
              rw [e]
              simp only [Option.bind_some, f, tree_eta]
              cases hv8 : (v == 8) with
              | true =>
                rw [cond_true]
                exact ⟨_, _, rfl, by omega, by omega, by simp only [nodes, nodess]; omega⟩
              | false =>
                rw [cond_false]
                exact ⟨_, _, rfl, by omega, by omega, by simp only [nodes, nodess]; omega⟩
    have mid : ∀ (v q : Int), 0 ≤ v → (d = 0 → v < 2) → p ≤ q → q ≤ p + 2 →
        ∃ t p', f138.j1' L N (f138 L N m) (fun a0 a1 a2 => some (a0, a1, a2)) (d : Int) n b v c q (0 : Int) (0 : Int) = some (t, c, p') ∧ p ≤ p' ∧ p' ≤ p + 20 * ((3 ^ d : Nat) : Int) ∧ nodes t + 1 ≤ 3 * 2 ^ d := by
      intro v q v0 vd hq0 hq1
      unfold f138.j1'
      by_cases h2' : v < 2
      · rw [dt h2', cond_true]
        by_cases hn : n > 0
        · rw [dt hn, cond_true]
          exact tail v q b v0 vd hq0 hq1 (fun _ => by omega) (by omega)
        · rw [df hn, cond_false]
          exact tail v q false v0 vd hq0 hq1 (fun h => by cases h) (by omega)
      · rw [df h2', cond_false]
        exact tail v q false v0 vd hq0 hq1 (fun h => by cases h) (by omega)
    obtain ⟨r, hr, r0, r1⟩ := pick_ok L N hb (p := p) (n := 9) p0 (by omega) (by omega)
    rw [hr]
    simp only [Option.bind_some]
    by_cases hdz : d = 0
    · subst hdz
      obtain ⟨s, hs, s0, s1⟩ := pick_ok L N hb (p := p + 1) (n := 2) (by omega) (by omega) (by omega)
      rw [show (((0 : Nat) : Int) == 0) = true from rfl, cond_true, hs]
      simp only [Option.bind_some]
      exact mid s (p + 1 + 1) s0 (fun _ => s1) (by omega) (by omega)
    · rw [show ((d : Int) == 0) = false by simp; omega, cond_false]
      exact mid r (p + 1) r0 (fun h => absurd h hdz) (by omega) (by omega)
theorem term_draw (L N : Nat) (hN : 8 ≤ N) {c : List Int} (hb : BOk c) {p n : Int} (p0 : 0 ≤ p) (pb : p ≤ 1000000000) (n0 : 0 ≤ n) :
    ∃ t p', f110 L N c p n = some (t, c, p') ∧ p ≤ p' ∧ p' ≤ p + 10000 ∧ nodes t ≤ 50 := by
  show ∃ t p', f110.b' L N (fun a0 a1 a2 => some (a0, a1, a2)) c p n = _ ∧ _
  unfold f110.b'
  obtain ⟨r, hr, r0, r1⟩ := pick_ok L N hb (p := p) (n := 4) p0 (by omega) (by omega)
  obtain ⟨k, rfl⟩ := Int.eq_ofNat_of_zero_le r0
  have hw : wi (1 + (k : Int)) = ((k + 1 : Nat) : Int) := by rw [wi_id (by omega) (by omega)]; omega
  have h3 : ((3 ^ (k + 1) : Nat) : Int) ≤ 81 := by have := Nat.pow_le_pow_right (n := 3) (by omega) (show k + 1 ≤ 4 by omega); omega
  have h2 : 2 ^ (k + 1) ≤ 16 := by have := Nat.pow_le_pow_right (n := 2) (by omega) (show k + 1 ≤ 4 by omega); omega
  obtain ⟨t, p', e, e1, e2, e3⟩ := good_draw L N hb N (k + 1) (p + 1) n false (by omega) (by omega) (by omega) (by omega) n0
  obtain ⟨s, hs, s0, s1⟩ := pick_ok L N hb (p := p') (n := 24) (by omega) (by omega) (by omega)
  rw [hr]
  simp only [Option.bind_some, hw, e, hs, tree_eta]
  by_cases q0 : s = 0
  · rw [show (s == 0) = true by simpa using q0, cond_true]
    exact ⟨_, _, rfl, by omega, by omega, by rw [nodes_mk]; omega⟩
  · rw [show (s == 0) = false by simpa using q0, cond_false]
    by_cases q1 : s = 1
    · obtain ⟨u, hu, u0, u1⟩ := pick_ok L N hb (p := p' + 1) (n := 8) (by omega) (by omega) (by omega)
      rw [show (s == 1) = true by simpa using q1, cond_true, hu]
      simp only [Option.bind_some]
      exact ⟨_, _, rfl, by omega, by omega, by rw [nodes_mk]; omega⟩
    · rw [show (s == 1) = false by simpa using q1, cond_false]
      by_cases q2 : s = 2
      · rw [show (s == 2) = true by simpa using q2, cond_true]
        have hlen := nodess_len t.parts
        have hnt : nodes t = 1 + nodess t.parts := by cases t; rfl
        have hlim := lim_eq
        have hle : decide (([(Tree.mk (0 : Int) (0 : Int) [])] : (List Tree)).length + t.parts.length ≤ lim) = true := dt (by simp only [List.length_cons, List.length_nil]; omega)
        rw [hle, cond_true]
        refine ⟨_, _, rfl, by omega, by omega, ?_⟩
        show 1 + (nodes (Tree.mk 0 0 []) + nodess t.parts) ≤ 50
        simp only [nodes, nodess]
        omega
      · rw [show (s == 2) = false by simpa using q2, cond_false]
        exact ⟨_, _, rfl, by omega, by omega, by omega⟩
theorem defs_draw (L N : Nat) (hN : 8 ≤ N) (hL : 8 ≤ L) {c : List Int} (hb : BOk c) {p : Int} (p0 : 0 ≤ p) (pb : p ≤ 1000000000) :
    ∃ ds p', f109 L N c p = some (ds, c, p') ∧ p ≤ p' ∧ p' ≤ p + 10000 ∧ ds.length ≤ 3 ∧ ∀ d ∈ ds, nodes d ≤ 50 := by
  have hlim := lim_eq
  show ∃ ds p', f109.b L N (fun a0 a1 a2 => some (a0, a1, a2)) c p = _ ∧ _
  unfold f109.b f109.b'
  obtain ⟨r, hr, r0, r1⟩ := pick_ok L N hb (p := p) (n := 4) p0 (by omega) (by omega)
  obtain ⟨k, rfl⟩ := Int.eq_ofNat_of_zero_le r0
  rw [hr]
  simp only [Option.bind_some]
  have fin : ∀ (q : Int) (ds : List Tree), p ≤ q → q ≤ p + 9000 → ds.length = k → (∀ d ∈ ds, nodes d ≤ 50) → ∃ ds' p', f109.p0_e0' L N (fun a0 a1 a2 => some (a0, a1, a2)) (k : Int) c q ds = some (ds', c, p') ∧ p ≤ p' ∧ p' ≤ p + 10000 ∧ ds'.length ≤ 3 ∧ ∀ d ∈ ds', nodes d ≤ 50 := by
    intro q ds hq0 hq1 hl hd
    unfold f109.p0_e0'
    have plain : ∀ q', p ≤ q' → q' ≤ p + 10000 → ∃ ds' p', f109.j0' L N (fun a0 a1 a2 => some (a0, a1, a2)) (k : Int) false c q' ds = some (ds', c, p') ∧ p ≤ p' ∧ p' ≤ p + 10000 ∧ ds'.length ≤ 3 ∧ ∀ d ∈ ds', nodes d ≤ 50 := fun q' h1 h2 => by
      unfold f109.j0'
      rw [cond_false]
      exact ⟨_, _, rfl, h1, h2, by omega, hd⟩
    by_cases hk : (k : Int) > 0
    · rw [dt hk, cond_true]
      obtain ⟨s, hs, s0, s1⟩ := pick_ok L N hb (p := q) (n := 20) (by omega) (by omega) (by omega)
      rw [hs]
      simp only [Option.bind_some]
      cases hs0 : (s == 0) with
      | false => exact plain _ (by omega) (by omega)
      | true =>
        unfold f109.j0'
        rw [cond_true]
        obtain ⟨u, hu, u0, u1⟩ := pick_ok L N hb (p := q + 1) (n := (k : Int)) (by omega) (by omega) (by omega)
        obtain ⟨k1, rfl⟩ := Int.eq_ofNat_of_zero_le u0
        have hw : wi ((k : Int) + 1) = ((k + 1 : Nat) : Int) := wi_nat (by omega)
        obtain ⟨v, hv, v0, v1⟩ := pick_ok L N hb (p := q + 1 + 1) (n := ((k + 1 : Nat) : Int)) (by omega) (by omega) (by omega)
        have hkl : k1 < ds.length := by omega
        simp only [hu, Option.bind_some, hw, hv, le0, lt_cast hkl, Bool.and_true, cond_true, Int.toNat_natCast]
        refine ⟨_, _, rfl, by omega, by omega, by simp [hl]; omega, fun d hdm => ?_⟩
        rcases List.mem_or_eq_of_mem_set hdm with h | h
        · exact hd d h
        · rw [h]; simp [nodes, nodess]
    · rw [df hk, cond_false]
      exact plain q hq0 (by omega)
  have key : ∀ (n i : Nat) (q : Int) (ds : List Tree), i ≤ k → k - i < n → ds.length = i → (∀ d ∈ ds, nodes d ≤ 50) → p ≤ q → q ≤ p + 1 + 2000 * (i : Int) →
      ∃ ds' p', f109.l0 L N (fun z6 z7 z8 z9 => f109.p0_e0 L N (fun a0 a1 a2 => some (a0, a1, a2)) z6 z7 z8 z9) n (k : Int) (i : Int) c q ds = some (ds', c, p') ∧ p ≤ p' ∧ p' ≤ p + 10000 ∧ ds'.length ≤ 3 ∧ ∀ d ∈ ds', nodes d ≤ 50 := by
    intro n
    induction n with
    | zero => intro i q ds _ h; omega
    | succ n ih =>
      intro i q ds hi hn hl hd hq0 hq1
      show ∃ ds' p', f109.s0 L N _ (f109.l0 L N _ n) (k : Int) (i : Int) c q ds = _ ∧ _
      unfold f109.s0 f109.s0'
      by_cases hlt : i < k
      · obtain ⟨s, hs, s0, s1⟩ := pick_ok L N hb (p := q) (n := 3) (by omega) (by omega) (by omega)
        obtain ⟨k2, rfl⟩ := Int.eq_ofNat_of_zero_le s0
        have hw : wi (1 + (k2 : Int)) = ((k2 + 1 : Nat) : Int) := by rw [wi_id (by omega) (by omega)]; omega
        have h3 : ((3 ^ (k2 + 1) : Nat) : Int) ≤ 81 := by have := Nat.pow_le_pow_right (n := 3) (by omega) (show k2 + 1 ≤ 4 by omega); omega
        have h2 : 2 ^ (k2 + 1) ≤ 16 := by have := Nat.pow_le_pow_right (n := 2) (by omega) (show k2 + 1 ≤ 4 by omega); omega
        obtain ⟨t, p', e, e1, e2, e3⟩ := good_draw L N hb N (k2 + 1) (q + 1) (k : Int) false (by omega) (by omega) (by omega) (by omega) (by omega)
        have hle : decide (ds.length + ([t] : List Tree).length ≤ lim) = true := dt (by simp only [List.length_cons, List.length_nil]; omega)
        simp only [lt_cast hlt, cond_true, hs, Option.bind_some, hw, e, hle]
        rw [wi_nat (by omega)]
        refine ih (i + 1) p' _ (by omega) (by omega) (by simp [hl]) (fun d hdm => ?_) (by omega) (by omega)
        rcases List.mem_append.1 hdm with h | h
        · exact hd d h
        · rw [List.mem_singleton.1 h]; omega
      · simp only [ge_cast hlt, cond_false]
        have hi' : i = k := by omega
        subst hi'
        exact fin q ds hq0 (by omega) hl hd
  exact key L 0 (p + 1) [] (by omega) (by omega) rfl (fun d h => by cases h) (by omega) (by omega)
theorem called_draw (L N : Nat) (hN : 8 ≤ N) (hL : 8 ≤ L) {c : List Int} (hb : BOk c) {p : Int} (p0 : 0 ≤ p) (pb : p ≤ 100000000) :
    ∃ t ds p', f86 L N c p = some (t, ds, c, p') ∧ p ≤ p' ∧ p' ≤ p + 30000 ∧ nodes t ≤ 50 ∧ ds.length ≤ 3 ∧ ∀ d ∈ ds, nodes d ≤ 50 := by
  show ∃ t ds p', f86.b' L N (fun a0 a1 a2 a3 => some (a0, a1, a2, a3)) c p = _ ∧ _
  unfold f86.b'
  obtain ⟨ds, p1, e, e1, e2, e3, e4⟩ := defs_draw L N hN hL hb p0 (by omega)
  obtain ⟨t, p2, f, f1, f2, f3⟩ := term_draw L N hN hb (p := p1) (n := (ds.length : Int)) (by omega) (by omega) (by omega)
  rw [e]
  simp only [Option.bind_some, f]
  have plain : ∀ q, p ≤ q → q ≤ p + 30000 → ∃ t' ds' p', f86.j0' L N (fun a0 a1 a2 a3 => some (a0, a1, a2, a3)) ds false c q (0 : Int) (0 : Int) t.op t.n t.parts = some (t', ds', c, p') ∧ p ≤ p' ∧ p' ≤ p + 30000 ∧ nodes t' ≤ 50 ∧ ds'.length ≤ 3 ∧ ∀ d ∈ ds', nodes d ≤ 50 := fun q h1 h2 => by
    unfold f86.j0'
    rw [cond_false]
    exact ⟨_, _, _, rfl, h1, h2, by show nodes (Tree.mk t.op t.n t.parts) ≤ 50; rw [tree_eta]; exact f3, e3, e4⟩
  by_cases hk : (ds.length : Int) > 0
  · rw [dt hk, cond_true]
    obtain ⟨s, hs, s0, s1⟩ := pick_ok L N hb (p := p2) (n := 3) (by omega) (by omega) (by omega)
    rw [hs]
    simp only [Option.bind_some]
    cases hs0 : (s == 0) with
    | false => exact plain _ (by omega) (by omega)
    | true =>
      unfold f86.j0'
      rw [cond_true]
      obtain ⟨u, hu, u0, u1⟩ := pick_ok L N hb (p := p2 + 1) (n := (ds.length : Int)) (by omega) (by omega) (by omega)
      rw [hu]
      simp only [Option.bind_some]
      exact ⟨_, _, _, rfl, by omega, by omega, by simp [nodes, nodess], e3, e4⟩
  · rw [df hk, cond_false]
    exact plain p2 (by omega) (by omega)
end Go.Proofs.YtffkhhblppfbfaaGreatDoor.Ev
namespace Go.Proofs.YtffkhhblppfbfaaGreatDoor.Ev
open Go
set_option linter.unusedVariables false
set_option linter.unusedSimpArgs false
inductive WT : Tree → Nat → Prop
  | nil : WT (.mk 0 0 []) 1
  | act (n : Int) (t : Tree) (k : Nat) (hn : -4 ≤ n ∧ n ≤ 4) (h : WT t k) : WT (.mk 1 n [t]) (k + 1)
  | sum (a b : Tree) (i j : Nat) (ha : WT a i) (hb : WT b j) : WT (.mk 2 0 [a, b]) (i + j + 1)
  | par (a b : Tree) (i j : Nat) (ha : WT a i) (hb : WT b j) : WT (.mk 3 0 [a, b]) (i + j + 1)
  | hide (n : Int) (t : Tree) (k : Nat) (hn : 0 ≤ n ∧ n ≤ 3) (h : WT t k) : WT (.mk 4 n [t]) (k + 1)
  | call (n : Int) (hn : 0 ≤ n ∧ n ≤ 2) : WT (.mk 5 n []) 1
theorem WT.pos {t : Tree} {k : Nat} (h : WT t k) : 1 ≤ k := by cases h <;> omega
theorem WT.nodes_eq {t : Tree} {k : Nat} (h : WT t k) : nodes t = k := by
  induction h with
  | nil => simp [nodes, nodess]
  | act n t k hn h ih => simp only [nodes, nodess]; omega
  | sum a b i j ha hb iha ihb => simp only [nodes, nodess]; omega
  | par a b i j ha hb iha ihb => simp only [nodes, nodess]; omega
  | hide n t k hn h ih => simp only [nodes, nodess]; omega
  | call n hn => simp [nodes, nodess]
inductive CL (n : Int) : Bool → Tree → Prop
  | call (b : Bool) (x : Int) (ps : List Tree) (h : x < n) : CL n b (.mk 5 x ps)
  | stop (x : Int) (ps : List Tree) : CL n true (.mk 1 x ps)
  | node (b : Bool) (o x : Int) (ps : List Tree) (ho : o ≠ 5) (h : ∀ p ∈ ps, CL n b p) : CL n b (.mk o x ps)
theorem CL.sub {n : Int} {o x : Int} {ps : List Tree} (h : CL n false (.mk o x ps)) (ho : o ≠ 5) : ∀ p ∈ ps, CL n false p := by
  cases h with
  | call b x ps h => exact absurd rfl ho
  | node b o x ps ho h => exact h
theorem CL.sub2 {n : Int} {o x : Int} {ps : List Tree} (h : CL n true (.mk o x ps)) (ho : o ≠ 5) (h1 : o ≠ 1) : ∀ p ∈ ps, CL n true p := by
  cases h with
  | call b x ps h => exact absurd rfl ho
  | stop x ps => exact absurd rfl h1
  | node b o x ps ho h => exact h
theorem CL.lt {n : Int} {b : Bool} {x : Int} {ps : List Tree} (h : CL n b (.mk 5 x ps)) : x < n := by
  cases h with
  | call b x ps h => exact h
  | node b o x ps ho h => exact absurd rfl ho
theorem l2Nodes_ok (L N : Nat) : ∀ (m : Nat) (t : Tree), nodes t ≤ m → nodes t < L → ∃ r : Int, f143 L N m t = some r ∧ 0 ≤ r ∧ r ≤ 1000 ∧ (1 ≤ r → r < 1000 → WT t r.toNat) := by
  intro m
  induction m with
  | zero => intro t h; have := nodes_pos t; omega
  | succ m ih =>
    intro t ht hL
    obtain ⟨o, x, ps⟩ := t
    simp only [nodes] at ht hL
    have hpl := nodess_len ps
    show ∃ r, f143.b L N (f143 L N m) some (.mk o x ps) = some r ∧ _
    unfold f143.b f143.b'
    simp only [Tree.op, Tree.n, Tree.parts]
  
    have sub : ∀ p ∈ ps, ∃ r : Int, f143 L N m p = some r ∧ 0 ≤ r ∧ r ≤ 1000 ∧ (1 ≤ r → r < 1000 → WT p r.toNat) := fun p hp => by
      obtain ⟨i, hi, rfl⟩ := List.mem_iff_getElem.1 hp
      have := nodes_get hi
      exact ih _ (by omega) (by omega)
    obtain ⟨L', rfl⟩ : ∃ L', L = L' + 1 := ⟨L - 1, by omega⟩
    have fin : ∀ (c : Nat) (ok : Bool) (P : Prop), c ≤ 2 → (ok = true → P) →
        (P → (c = 0 → ps = [] → WT (.mk o x ps) 1) ∧ (∀ a k, c = 1 → ps = [a] → WT a k → WT (.mk o x ps) (k + 1)) ∧ (∀ a b i j, c = 2 → ps = [a, b] → WT a i → WT b j → WT (.mk o x ps) (i + j + 1))) →
        ∃ r : Int, f143.j2' (L' + 1) N (f143 (L' + 1) N m) some (fun s24 s25 s26 s27 s28 s29 => f143.l0 (L' + 1) N (f143 (L' + 1) N m) (fun z30 => f143.p0_e1 (L' + 1) N (f143 (L' + 1) N m) some z30) (fun z32 z33 => f143.p0_r (L' + 1) N (f143 (L' + 1) N m) some z32 z33) (L' + 1) s24 s25 s26 s27 s28 s29) (c : Int) ok o x ps = some r ∧ 0 ≤ r ∧ r ≤ 1000 ∧ (1 ≤ r → r < 1000 → WT (.mk o x ps) r.toNat) := by
      intro c ok P hc2 hok hP
      unfold f143.j2'
      cases ok with
      | false => rw [Bool.not_false, cond_true]; exact ⟨0, rfl, by omega, by omega, fun h => by omega⟩
      | true =>
        obtain ⟨w0, w1, w2⟩ := hP (hok rfl)
        rw [Bool.not_true, cond_false]
        by_cases hlen : ps.length = c
        · rw [show ((ps.length : Int) != (c : Int)) = false by simp [hlen], cond_false]
          unfold f143.j1'
          match ps, hlen, sub, hpl with
          | [], hlen, sub, hpl =>
            have hc : c = 0 := by simpa using hlen.symm
            subst hc
            show ∃ r, f143.s0 _ N _ _ _ _ _ _ _ _ _ [] = some r ∧ _
            unfold f143.s0 f143.s0'
            rw [show decide ((0 : Int) < ((0 : Nat) : Int)) = false from rfl, cond_false]
            exact ⟨1, rfl, by omega, by omega, fun _ _ => w0 rfl rfl⟩
          | [a], hlen, sub, hpl =>
            have hc : c = 1 := by simpa using hlen.symm
            subst hc
            obtain ⟨r1, a1, a2, a3, a4⟩ := sub a (.head _)
            obtain ⟨L2, rfl⟩ : ∃ L2, L' = L2 + 1 := ⟨L' - 1, by simp only [List.length_cons, List.length_nil] at hpl; omega⟩
            show ∃ r, f143.s0 _ N _ _ _ _ _ _ _ _ _ [a] = some r ∧ _
            unfold f143.s0 f143.s0'
            rw [show decide ((0 : Int) < ((1 : Nat) : Int)) = true from rfl, cond_true]
            simp only [show (decide ((0 : Int) ≤ 0) && decide ((0 : Int) < (([a] : List Tree).length : Int))) = true from rfl, cond_true, show listAt [a] (Ty.dflt (.st 1)) (0 : Int).toNat = a from rfl, a1, Option.bind_some]
            by_cases hr : r1 = 0
            · rw [show (r1 == 0) = true by simpa using hr, cond_true]
              exact ⟨0, rfl, by omega, by omega, fun h => by omega⟩
            · rw [show (r1 == 0) = false by simpa using hr, cond_false]
              have hw : wi (1 + r1) = 1 + r1 := wi_id (by omega) (by omega)
              show ∃ r, f143.s0 _ N _ _ _ _ _ _ _ _ _ [a] = some r ∧ _
              unfold f143.s0 f143.s0'
              rw [show decide (wi ((0 : Int) + 1) < ((1 : Nat) : Int)) = false from rfl, cond_false, hw]
              refine ⟨_, rfl, ?_⟩
              by_cases hb : 1 + r1 < 1000
              · rw [dt hb, cond_true]
                refine ⟨by omega, by omega, fun _ _ => ?_⟩
                have := w1 a r1.toNat rfl rfl (a4 (by omega) (by omega))
                rw [show (1 + r1).toNat = r1.toNat + 1 by omega]; exact this
              · rw [df hb, cond_false]; exact ⟨by omega, by omega, fun _ h => by omega⟩
          | [a, b], hlen, sub, hpl =>
            have hc : c = 2 := by simpa using hlen.symm
            subst hc
            obtain ⟨r1, a1, a2, a3, a4⟩ := sub a (.head _)
            obtain ⟨r2, b1, b2, b3, b4⟩ := sub b (.tail _ (.head _))
            obtain ⟨L2, rfl⟩ : ∃ L2, L' = L2 + 2 := ⟨L' - 2, by simp only [List.length_cons, List.length_nil] at hpl; omega⟩
            show ∃ r, f143.s0 _ N _ _ _ _ _ _ _ _ _ [a, b] = some r ∧ _
            unfold f143.s0 f143.s0'
            rw [show decide ((0 : Int) < ((2 : Nat) : Int)) = true from rfl, cond_true]
            simp only [show (decide ((0 : Int) ≤ 0) && decide ((0 : Int) < (([a, b] : List Tree).length : Int))) = true from rfl, cond_true, show listAt [a, b] (Ty.dflt (.st 1)) (0 : Int).toNat = a from rfl, a1, Option.bind_some]
            by_cases hr : r1 = 0
            · rw [show (r1 == 0) = true by simpa using hr, cond_true]
              exact ⟨0, rfl, by omega, by omega, fun h => by omega⟩
            · rw [show (r1 == 0) = false by simpa using hr, cond_false]
              have hw : wi (1 + r1) = 1 + r1 := wi_id (by omega) (by omega)
              show ∃ r, f143.s0 _ N _ _ _ _ _ _ _ _ _ [a, b] = some r ∧ _
              unfold f143.s0 f143.s0'
              rw [show decide (wi ((0 : Int) + 1) < ((2 : Nat) : Int)) = true from rfl, cond_true, hw]
              simp only [show (decide ((0 : Int) ≤ wi ((0 : Int) + 1)) && decide (wi ((0 : Int) + 1) < (([a, b] : List Tree).length : Int))) = true from rfl, cond_true, show listAt [a, b] (Ty.dflt (.st 1)) (wi ((0 : Int) + 1)).toNat = b from rfl, b1, Option.bind_some]
              by_cases hr2 : r2 = 0
              · rw [show (r2 == 0) = true by simpa using hr2, cond_true]
                exact ⟨0, rfl, by omega, by omega, fun h => by omega⟩
              · rw [show (r2 == 0) = false by simpa using hr2, cond_false]
                show ∃ r, f143.s0 _ N _ _ _ _ _ _ _ _ _ [a, b] = some r ∧ _
                unfold f143.s0 f143.s0'
                rw [show decide (wi (wi ((0 : Int) + 1) + 1) < ((2 : Nat) : Int)) = false from rfl, cond_false]
                refine ⟨_, rfl, ?_⟩
                by_cases hb : 1 + r1 < 1000
                · rw [dt hb, cond_true, show wi (1 + r1 + r2) = 1 + r1 + r2 from wi_id (by omega) (by omega)]
                  by_cases hb2 : 1 + r1 + r2 < 1000
                  · rw [dt hb2, cond_true]
                    refine ⟨by omega, by omega, fun _ _ => ?_⟩
                    have := w2 a b r1.toNat r2.toNat rfl rfl (a4 (by omega) (by omega)) (b4 (by omega) (by omega))
                    rw [show (1 + r1 + r2).toNat = r1.toNat + r2.toNat + 1 by omega]; exact this
                  · rw [df hb2, cond_false]; exact ⟨by omega, by omega, fun _ h => by omega⟩
                · rw [df hb, cond_false, show wi (1000 + r2) = 1000 + r2 from wi_id (by omega) (by omega), df (by omega), cond_false]
                  exact ⟨by omega, by omega, fun _ h => by omega⟩
          | _ :: _ :: _ :: _, hlen, sub, hpl => simp at hlen; omega
        · rw [show ((ps.length : Int) != (c : Int)) = true by simp; omega, cond_true]
          exact ⟨0, rfl, by omega, by omega, fun h => by omega⟩
    by_cases h0 : o = 0
    · subst h0
      rw [show ((0 : Int) == 0) = true from rfl, cond_true]
      exact fin 0 (x == 0) (x = 0) (by omega) (by simp) fun hx => ⟨fun _ hp => by rw [hx, hp]; exact .nil, fun _ _ h => by omega, fun _ _ _ _ h => by omega⟩
    · rw [show (o == 0) = false by simpa using h0, cond_false]
      by_cases h1 : o = 1
      · subst h1
        rw [show ((1 : Int) == 1) = true from rfl, cond_true, act2_ok, Option.bind_some]
        exact fin 1 _ (-4 ≤ x ∧ x ≤ 4) (by omega) (fun h => of_decide_eq_true h) fun hx => ⟨fun h => by omega, fun a k _ hp hw => by rw [hp]; exact .act x a k hx hw, fun _ _ _ _ h => by omega⟩
      · rw [show (o == 1) = false by simpa using h1, cond_false]
        by_cases h2 : o = 2
        · subst h2
          rw [show ((2 : Int) == 2) = true from rfl, cond_true]
          unfold f143.j0'
          rw [cond_true]
          exact fin 2 (x == 0) (x = 0) (by omega) (by simp) fun hx => ⟨fun h => by omega, fun _ _ h => by omega, fun a b i j _ hp hi hj => by rw [hx, hp]; exact .sum a b i j hi hj⟩
        · rw [show (o == 2) = false by simpa using h2, cond_false]
          unfold f143.j0'
          by_cases h3 : o = 3
          · subst h3
            rw [show ((3 : Int) == 3) = true from rfl, cond_true]
            exact fin 2 (x == 0) (x = 0) (by omega) (by simp) fun hx => ⟨fun h => by omega, fun _ _ h => by omega, fun a b i j _ hp hi hj => by rw [hx, hp]; exact .par a b i j hi hj⟩
          · rw [show (o == 3) = false by simpa using h3, cond_false]
            by_cases h4 : o = 4
            · subst h4
              rw [show ((4 : Int) == 4) = true from rfl, cond_true, in_ok, Option.bind_some]
              exact fin 1 _ (0 ≤ x ∧ x ≤ 3) (by omega) (fun h => of_decide_eq_true h) fun hx => ⟨fun h => by omega, fun a k _ hp hw => by rw [hp]; exact .hide x a k hx hw, fun _ _ _ _ h => by omega⟩
            · rw [show (o == 4) = false by simpa using h4, cond_false]
              by_cases h5 : o = 5
              · subst h5
                rw [show ((5 : Int) == 5) = true from rfl, cond_true, in_ok, Option.bind_some]
                exact fin 0 _ (0 ≤ x ∧ x ≤ 2) (by omega) (fun h => of_decide_eq_true h) fun hx => ⟨fun _ hp => by rw [hp]; exact .call x hx, fun _ _ h => by omega, fun _ _ _ _ h => by omega⟩
              · rw [show (o == 5) = false by simpa using h5, cond_false]
                exact fin 0 false False (by omega) (fun h => by cases h) fun h => h.elim
end Go.Proofs.YtffkhhblppfbfaaGreatDoor.Ev
namespace Go.Proofs.YtffkhhblppfbfaaGreatDoor.Ev
open Go
set_option linter.unusedVariables false
set_option linter.unusedSimpArgs false
theorem bif_y {c : Bool} {α : Type} {a b : α} (h : c = true) : (bif c then a else b) = a := by rw [h]; rfl
theorem l2Calls_ok (L N : Nat) : ∀ (m : Nat) (t : Tree) (b : Bool), nodes t ≤ m → nodes t < L → nodes t ≤ 1048576 → ∃ c : Int, f158 L N m t b = some c ∧ ∀ n : Int, c < n → CL n b t := by
  intro m
  induction m with
  | zero => intro t b h; have := nodes_pos t; omega
  | succ m ih =>
    intro t b ht hL hsz
    obtain ⟨o, x, ps⟩ := t
    simp only [nodes] at ht hL hsz
    have hpl := nodess_len ps
    show ∃ c, f158.b L N (f158 L N m) some (.mk o x ps) b = some c ∧ _
    unfold f158.b f158.b'
    simp only [Tree.op, Tree.n, Tree.parts]
    by_cases h5 : o = 5
    · subst h5
      rw [show ((5 : Int) == 5) = true from rfl, cond_true]
      exact ⟨x, rfl, fun n h => .call b x ps h⟩
    · rw [show (o == 5) = false by simpa using h5, cond_false]
      by_cases hb : b = true ∧ o = 1
      · obtain ⟨rfl, rfl⟩ := hb
        refine ⟨-1, ?_, fun n _ => .stop x ps⟩
        obtain ⟨L', rfl⟩ : ∃ L', L = L' + 1 := ⟨L - 1, by omega⟩
        show f158.s0 _ N _ _ _ _ _ _ _ _ ps = _
        unfold f158.s0 f158.s0'
        by_cases h0 : (0 : Int) < (ps.length : Int)
        · rw [dt h0]; rfl
        · rw [df h0]; rfl
      · have key : ∀ (n i : Nat) (c : Int), i ≤ ps.length → ps.length - i < n → (∀ (j : Nat) (hj : j < ps.length), j < i → ∀ q : Int, c < q → CL q b ps[j]) →
            ∃ c' : Int, f158.l0 L N (f158 L N m) (fun z13 => f158.p0_e0 L N (f158 L N m) some z13) n b c (i : Int) o x ps = some c' ∧ ∀ q : Int, c' < q → ∀ p ∈ ps, CL q b p := by
          intro n
          induction n with
          | zero => intro i c _ h; omega
          | succ n ihn =>
            intro i c hi hn hc
            show ∃ c', f158.s0 L N _ _ (f158.l0 L N _ _ n) b c (i : Int) o x ps = some c' ∧ _
            unfold f158.s0 f158.s0'
            by_cases hlt : i < ps.length
            · have hg := nodes_get hlt
              obtain ⟨c2, e, hc2⟩ := ih ps[i] b (by omega) (by omega) (by omega)
              have go : ∃ c', f158.j0' L N (f158 L N m) (fun z13 => f158.p0_e0 L N (f158 L N m) some z13) (f158.l0 L N (f158 L N m) (fun z13 => f158.p0_e0 L N (f158 L N m) some z13) n) b c (i : Int) o x ps = some c' ∧ ∀ q : Int, c' < q → ∀ p ∈ ps, CL q b p := by
                unfold f158.j0'
                simp only [le0, lt_cast hlt, Bool.and_true, cond_true, Int.toNat_natCast, at_lt hlt, e, Option.bind_some]
                rw [wi_nat (by omega)]
                refine ihn (i + 1) _ (by omega) (by omega) fun j hj hji q hq => ?_
                by_cases hgt : c2 > c
                · rw [dt hgt, cond_true] at hq
                  by_cases e : j = i
                  · subst e; exact hc2 q hq
                  · exact hc j hj (by omega) q (by omega)
                · rw [df hgt, cond_false] at hq
                  by_cases e : j = i
                  · subst e; exact hc2 q (by omega)
                  · exact hc j hj (by omega) q hq
              rw [lt_cast hlt, cond_true]
              cases b with
              | true =>
                have h1 : o ≠ 1 := fun h => hb ⟨rfl, h⟩
                rw [cond_true, show (o == 1) = false by simpa using h1, Bool.not_false, cond_true]
                exact go
              | false => exact go
            · rw [ge_cast hlt, cond_false]
              exact ⟨c, rfl, fun q hq p hp => by
                obtain ⟨j, hj, rfl⟩ := List.mem_iff_getElem.1 hp
                exact hc j hj (by omega) q hq⟩
        obtain ⟨c, e, hc⟩ := key L 0 (-1) (by omega) (by omega) (fun j hj h => by omega)
        exact ⟨c, e, fun n hn => .node b o x ps h5 (hc n hn)⟩
theorem fits_ok (L N : Nat) (t : Tree) (n : Int) (h : nodes t ≤ 1000) (hN : 1000 ≤ N) (hL : 1000 < L) : ∃ r, f140 L N t n = some r ∧ (r = true → ∃ k, k ≤ 24 ∧ WT t k ∧ (0 ≤ n ∧ n ≤ 3) ∧ CL n false t) := by
  obtain ⟨r, e, r0, r1, hw⟩ := l2Nodes_ok L N N t (by omega) (by omega)
  obtain ⟨c, f, hc⟩ := l2Calls_ok L N N t false (by omega) (by omega) (by omega)
  have hok : f159 L N t = some (decide (1 ≤ r ∧ r ≤ 24)) := by
    show f159.b' L N some t = _
    unfold f159.b'
    rw [tree_eta, e, Option.bind_some, in_ok, Option.bind_some]
  show ∃ r, f140.b' L N some t n = some r ∧ _
  unfold f140.b'
  rw [tree_eta, hok, Option.bind_some]
  by_cases h1 : 1 ≤ r ∧ r ≤ 24
  · rw [dt h1, cond_true, in_ok, Option.bind_some]
    by_cases h2 : 0 ≤ n ∧ n ≤ 3
    · rw [dt h2, cond_true, f, Option.bind_some]
      refine ⟨_, rfl, fun h3 => ⟨r.toNat, by omega, hw (by omega) (by omega), h2, hc n (of_decide_eq_true h3)⟩⟩
    · rw [df h2, cond_false]
      exact ⟨false, rfl, fun h => by cases h⟩
  · rw [df h1, cond_false]
    exact ⟨false, rfl, fun h => by cases h⟩
def DefsW (ds : List Tree) : Prop := ds.length ≤ 3 ∧ ∀ d ∈ ds, ∃ k, k ≤ 24 ∧ WT d k ∧ CL (ds.length : Int) false d ∧ CL 0 true d
theorem defsOk_ok (L N : Nat) (ds : List Tree) (h : ∀ d ∈ ds, nodes d ≤ 1000) (hl : ds.length ≤ 1000) (hN : 1000 ≤ N) (hL : 1001 < L) : ∃ r, f139 L N ds = some r ∧ (r = true → DefsW ds) := by
  show ∃ r, f139.b L N some ds = some r ∧ _
  unfold f139.b f139.b'
  have key : ∀ (n i : Nat), i ≤ ds.length → ds.length - i < n → (∀ (j : Nat) (hj : j < ds.length), j < i → ∃ k, k ≤ 24 ∧ WT ds[j] k ∧ CL (ds.length : Int) false ds[j] ∧ CL 0 true ds[j]) →
      ∃ r, f139.l0 L N (fun z2 => f139.p0_e0 L N some z2) (fun z8 z9 => f139.p0_r L N some z8 z9) n ds (i : Int) = some r ∧ (r = true → DefsW ds) := by
    intro n
    induction n with
    | zero => intro i _ h; omega
    | succ n ih =>
      intro i hi hn hd
      show ∃ r, f139.s0 L N _ _ (f139.l0 L N _ _ n) ds (i : Int) = some r ∧ _
      unfold f139.s0 f139.s0'
      by_cases hlt : i < ds.length
      · have hdn := h ds[i] (List.getElem_mem hlt)
        obtain ⟨r, e, hr⟩ := fits_ok L N ds[i] (ds.length : Int) hdn hN (by omega)
        obtain ⟨c, f, hc⟩ := l2Calls_ok L N N ds[i] true (by omega) (by omega) (by omega)
        simp only [lt_cast hlt, le0, Bool.and_true, cond_true, Int.toNat_natCast, at_lt hlt, e, f, Option.bind_some]
        cases r with
        | false => exact ⟨false, rfl, fun h => by cases h⟩
        | true =>
          rw [Bool.not_true, cond_false]
          by_cases h0 : c ≥ 0
          · rw [dt h0, cond_true]; exact ⟨false, rfl, fun h => by cases h⟩
          · rw [df h0, cond_false, wi_nat (by omega)]
            refine ih (i + 1) (by omega) (by omega) fun j hj hji => ?_
            by_cases e : j = i
            · subst e
              obtain ⟨k, a1, a2, a3, a4⟩ := hr rfl
              exact ⟨k, a1, a2, a4, hc 0 (by omega)⟩
            · exact hd j hj (by omega)
      · rw [ge_cast hlt, cond_false]
        refine ⟨_, rfl, fun h3 => ⟨?_, fun d hd' => ?_⟩⟩
        · have h3 : ((ds.length : Int) ≤ 3) := of_decide_eq_true h3
          omega
        · obtain ⟨j, hj, rfl⟩ := List.mem_iff_getElem.1 hd'
          exact hd j hj (by omega)
  exact key L 0 (by omega) (by omega) (fun j hj h => by omega)
theorem l1t_ok (L N : Nat) {n : Int} (h : -4 ≤ n ∧ n ≤ 4) : ∃ s, f162 L N n = some s ∧ s.size ≤ 3 := by
  have hc : n = -4 ∨ n = -3 ∨ n = -2 ∨ n = -1 ∨ n = 0 ∨ n = 1 ∨ n = 2 ∨ n = 3 ∨ n = 4 := by omega
  rcases hc with rfl | rfl | rfl | rfl | rfl | rfl | rfl | rfl | rfl <;> exact ⟨_, rfl, by decide⟩
theorem l6dec_ok (L N m : Nat) {n : Int} (h : 0 ≤ n ∧ n ≤ 2) : ∃ s, f160 L N (m + 1) n = some s ∧ s.size ≤ 3 := by
  have hc : n = 0 ∨ n = 1 ∨ n = 2 := by omega
  rcases hc with rfl | rfl | rfl <;> exact ⟨_, rfl, by decide⟩
theorem text1 (L' N' m : Nat) (a : Tree) (s : ByteArray) (e : f141 (L' + 3) (N' + 1) m a = some s) (b0 : ByteArray) (o n : Int) (k : Nat) (hb : b0.size ≤ 9) (hs : s.size ≤ 20 * k) (hk : k ≤ 100000) :
    ∃ r, f141.l0 (L' + 3) (N' + 1) (f141 (L' + 3) (N' + 1) m) (fun z17 => f141.p0_e1 (L' + 3) (N' + 1) (f141 (L' + 3) (N' + 1) m) some z17) (L' + 3) b0 (0 : Int) o n [a] = some r ∧ r.size ≤ 20 * (k + 1) := by
  have hsz : ∀ a b : ByteArray, (a ++ b).size = a.size + b.size := fun a b => ByteArray.size_append
  have z1 : (ByteArray.mk #[32]).size = 1 := rfl
  have z2 : (ByteArray.mk #[41]).size = 1 := rfl
  show ∃ r, f141.s0 _ _ _ _ _ b0 (0 : Int) o n [a] = some r ∧ _
  unfold f141.s0 f141.s0'
  rw [show decide ((0 : Int) < (([a] : List Tree).length : Int)) = true from rfl, cond_true, bif_y (dt (by omega)), show (decide ((0 : Int) ≤ 0) && true) = true from rfl, cond_true, show listAt [a] (Ty.dflt (.st 1)) (0 : Int).toNat = a from rfl, e, Option.bind_some, bif_y (dt (by rw [hsz]; omega))]
  show ∃ r, f141.s0 _ _ _ _ _ ((b0 ++ ByteArray.mk #[32]) ++ s) (wi ((0 : Int) + 1)) o n [a] = some r ∧ _
  unfold f141.s0 f141.s0'
  rw [show decide (wi ((0 : Int) + 1) < (([a] : List Tree).length : Int)) = false from rfl, cond_false]
  show ∃ r, f141.p0_e1' _ _ _ some ((b0 ++ ByteArray.mk #[32]) ++ s) = some r ∧ _
  unfold f141.p0_e1'
  rw [bif_y (dt (by rw [hsz, hsz]; omega))]
  exact ⟨_, rfl, by rw [hsz, hsz, hsz]; omega⟩
theorem text2 (L' N' m : Nat) (a b : Tree) (s u : ByteArray) (e : f141 (L' + 3) (N' + 1) m a = some s) (f : f141 (L' + 3) (N' + 1) m b = some u) (b0 : ByteArray) (o n : Int) (i j : Nat) (hb : b0.size ≤ 9) (hs : s.size ≤ 20 * i) (hu : u.size ≤ 20 * j) (hk : i + j ≤ 100000) :
    ∃ r, f141.l0 (L' + 3) (N' + 1) (f141 (L' + 3) (N' + 1) m) (fun z17 => f141.p0_e1 (L' + 3) (N' + 1) (f141 (L' + 3) (N' + 1) m) some z17) (L' + 3) b0 (0 : Int) o n [a, b] = some r ∧ r.size ≤ 20 * (i + j + 1) := by
  have hsz : ∀ a b : ByteArray, (a ++ b).size = a.size + b.size := fun a b => ByteArray.size_append
  have z1 : (ByteArray.mk #[32]).size = 1 := rfl
  have z2 : (ByteArray.mk #[41]).size = 1 := rfl
  show ∃ r, f141.s0 _ _ _ _ _ b0 (0 : Int) o n [a, b] = some r ∧ _
  unfold f141.s0 f141.s0'
  rw [show decide ((0 : Int) < (([a, b] : List Tree).length : Int)) = true from rfl, cond_true, bif_y (dt (by omega)), show (decide ((0 : Int) ≤ 0) && true) = true from rfl, cond_true, show listAt [a, b] (Ty.dflt (.st 1)) (0 : Int).toNat = a from rfl, e, Option.bind_some, bif_y (dt (by rw [hsz]; omega))]
  show ∃ r, f141.s0 _ _ _ _ _ ((b0 ++ ByteArray.mk #[32]) ++ s) (wi ((0 : Int) + 1)) o n [a, b] = some r ∧ _
  unfold f141.s0 f141.s0'
  rw [show decide (wi ((0 : Int) + 1) < (([a, b] : List Tree).length : Int)) = true from rfl, cond_true, bif_y (dt (by rw [hsz, hsz]; omega)), show (decide ((0 : Int) ≤ wi ((0 : Int) + 1)) && true) = true from rfl, cond_true, show listAt [a, b] (Ty.dflt (.st 1)) (wi ((0 : Int) + 1)).toNat = b from rfl, f, Option.bind_some, bif_y (dt (by rw [hsz, hsz, hsz]; omega))]
  show ∃ r, f141.s0 _ _ _ _ _ _ (wi (wi ((0 : Int) + 1) + 1)) o n [a, b] = some r ∧ _
  unfold f141.s0 f141.s0'
  rw [show decide (wi (wi ((0 : Int) + 1) + 1) < (([a, b] : List Tree).length : Int)) = false from rfl, cond_false]
  show ∃ r, f141.p0_e1' _ _ _ some _ = some r ∧ _
  unfold f141.p0_e1'
  rw [bif_y (dt (by rw [hsz, hsz, hsz, hsz]; omega))]
  exact ⟨_, rfl, by rw [hsz, hsz, hsz, hsz, hsz]; omega⟩
theorem l2Text_ok (L N : Nat) (hN : 1 ≤ N) (hL : 8 ≤ L) : ∀ (t : Tree) (k : Nat), WT t k → k ≤ 100000 → ∀ m, k ≤ m → ∃ s, f141 L N m t = some s ∧ s.size ≤ 20 * k := by
  obtain ⟨N', rfl⟩ : ∃ N', N = N' + 1 := ⟨N - 1, by omega⟩
  obtain ⟨L', rfl⟩ : ∃ L', L = L' + 3 := ⟨L - 3, by omega⟩
  have hsz : ∀ a b : ByteArray, (a ++ b).size = a.size + b.size := fun a b => ByteArray.size_append
  intro t k h
  induction h with
  | nil =>
    intro _ m hm
    obtain ⟨m, rfl⟩ : ∃ m', m = m' + 1 := ⟨m - 1, by omega⟩
    exact ⟨_, rfl, by decide⟩
  | call n hn =>
    intro _ m hm
    obtain ⟨m, rfl⟩ : ∃ m', m = m' + 1 := ⟨m - 1, by omega⟩
    obtain ⟨s, e, hs⟩ := l6dec_ok (L' + 3) (N' + 1) N' hn
    show ∃ s, f141.b _ _ (f141 (L' + 3) (N' + 1) m) some (.mk 5 n []) = some s ∧ _
    unfold f141.b f141.b'
    simp only [Tree.op, Tree.n, Tree.parts]
    rw [show ((5 : Int) == 0) = false from rfl, cond_false, show ((5 : Int) == 5) = true from rfl, cond_true, e, Option.bind_some]
    rw [dt (show (ByteArray.mk #[88]).size + s.size ≤ 4611686018427387904 by have : (ByteArray.mk #[88]).size = 1 := rfl; omega), cond_true]
    exact ⟨_, rfl, by rw [hsz]; have : (ByteArray.mk #[88]).size = 1 := rfl; omega⟩
  | act n a k hn ha ih =>
    intro hk m hm
    obtain ⟨m, rfl⟩ : ∃ m', m = m' + 1 := ⟨m - 1, by omega⟩
    obtain ⟨s, e, hs⟩ := ih (by omega) m (by omega)
    obtain ⟨u, f, hu⟩ := l1t_ok (L' + 3) (N' + 1) hn
    show ∃ s, f141.b _ _ (f141 (L' + 3) (N' + 1) m) some (.mk 1 n [a]) = some s ∧ _
    unfold f141.b f141.b'
    have z1 : ((ByteArray.mk #[40]) ++ (ByteArray.mk #[97, 99, 116])).size = 4 := rfl
    have z2 : (ByteArray.mk #[32]).size = 1 := rfl
    have z3 : (ByteArray.mk #[41]).size = 1 := rfl
    have z4 : (((ByteArray.mk #[40]) ++ (ByteArray.mk #[97, 99, 116])) ++ (ByteArray.mk #[32])).size = 5 := rfl
    have w : f161 (L' + 3) (N' + 1) = some [(ByteArray.mk #[]), (ByteArray.mk #[97, 99, 116]), (ByteArray.mk #[115, 117, 109]), (ByteArray.mk #[112, 97, 114]), (ByteArray.mk #[104, 105, 100, 101])] := rfl
    simp only [Tree.op, Tree.n, Tree.parts, w, Option.bind_some]
    rw [show ((1 : Int) == 0) = false from rfl, cond_false, show ((1 : Int) == 5) = false from rfl, cond_false, show ((1 : Int) == 1) = true from rfl]
    simp only [show listAt [(ByteArray.mk #[]), (ByteArray.mk #[97, 99, 116]), (ByteArray.mk #[115, 117, 109]), (ByteArray.mk #[112, 97, 114]), (ByteArray.mk #[104, 105, 100, 101])] ByteArray.empty (1 : Int).toNat = ByteArray.mk #[97, 99, 116] from rfl, f, Option.bind_some, cond_true]
    rw [bif_y (by rfl), bif_y (by rfl), bif_y (by rw [z1, z2]; rfl), bif_y (by rw [z4]; exact dt (by omega))]
    unfold f141.j1' f141.j0'
    rw [show ((1 : Int) == 4) = false from rfl, cond_false]
    generalize hb0 : (((ByteArray.mk #[40]) ++ (ByteArray.mk #[97, 99, 116])) ++ (ByteArray.mk #[32])) ++ u = b0
    have hb0s : b0.size ≤ 8 := by rw [← hb0, hsz, z4]; omega
    exact text1 L' N' m a s e b0 1 n k (by omega) hs (by omega)
  | hide n a k hn ha ih =>
    intro hk m hm
    obtain ⟨m, rfl⟩ : ∃ m', m = m' + 1 := ⟨m - 1, by omega⟩
    obtain ⟨s, e, hs⟩ := ih (by omega) m (by omega)
    have hw : wi (n + 1) = n + 1 := wi_id (by omega) (by omega)
    obtain ⟨u, f, hu⟩ := l1t_ok (L' + 3) (N' + 1) (n := n + 1) (by omega)
    show ∃ s, f141.b _ _ (f141 (L' + 3) (N' + 1) m) some (.mk 4 n [a]) = some s ∧ _
    unfold f141.b f141.b'
    have z1 : ((ByteArray.mk #[40]) ++ (ByteArray.mk #[104, 105, 100, 101])).size = 5 := rfl
    have z2 : (ByteArray.mk #[32]).size = 1 := rfl
    have z4 : (((ByteArray.mk #[40]) ++ (ByteArray.mk #[104, 105, 100, 101])) ++ (ByteArray.mk #[32])).size = 6 := rfl
    have w : f161 (L' + 3) (N' + 1) = some [(ByteArray.mk #[]), (ByteArray.mk #[97, 99, 116]), (ByteArray.mk #[115, 117, 109]), (ByteArray.mk #[112, 97, 114]), (ByteArray.mk #[104, 105, 100, 101])] := rfl
    simp only [Tree.op, Tree.n, Tree.parts, w, Option.bind_some]
    rw [show ((4 : Int) == 0) = false from rfl, cond_false, show ((4 : Int) == 5) = false from rfl, cond_false, show ((4 : Int) == 1) = false from rfl]
    simp only [show listAt [(ByteArray.mk #[]), (ByteArray.mk #[97, 99, 116]), (ByteArray.mk #[115, 117, 109]), (ByteArray.mk #[112, 97, 114]), (ByteArray.mk #[104, 105, 100, 101])] ByteArray.empty (4 : Int).toNat = ByteArray.mk #[104, 105, 100, 101] from rfl, cond_false]
    rw [bif_y (by rfl), bif_y (by rfl)]
    unfold f141.j1' f141.j0'
    rw [show ((4 : Int) == 4) = true from rfl, cond_true, bif_y (by rw [z1, z2]; rfl), hw, f, Option.bind_some, bif_y (by rw [z4]; exact dt (by omega))]
    generalize hb0 : (((ByteArray.mk #[40]) ++ (ByteArray.mk #[104, 105, 100, 101])) ++ (ByteArray.mk #[32])) ++ u = b0
    have hb0s : b0.size ≤ 9 := by rw [← hb0, hsz, z4]; omega
    exact text1 L' N' m a s e b0 4 n k (by omega) hs (by omega)
  | sum a b i j ha hb iha ihb =>
    intro hk m hm
    obtain ⟨m, rfl⟩ : ∃ m', m = m' + 1 := ⟨m - 1, by omega⟩
    obtain ⟨s, e, hs⟩ := iha (by omega) m (by omega)
    obtain ⟨u, f, hu⟩ := ihb (by omega) m (by omega)
    show ∃ s, f141.b _ _ (f141 (L' + 3) (N' + 1) m) some (.mk 2 0 [a, b]) = some s ∧ _
    unfold f141.b f141.b'
    have w : f161 (L' + 3) (N' + 1) = some [(ByteArray.mk #[]), (ByteArray.mk #[97, 99, 116]), (ByteArray.mk #[115, 117, 109]), (ByteArray.mk #[112, 97, 114]), (ByteArray.mk #[104, 105, 100, 101])] := rfl
    simp only [Tree.op, Tree.n, Tree.parts, w, Option.bind_some]
    rw [show ((2 : Int) == 0) = false from rfl, cond_false, show ((2 : Int) == 5) = false from rfl, cond_false, show ((2 : Int) == 1) = false from rfl]
    simp only [show listAt [(ByteArray.mk #[]), (ByteArray.mk #[97, 99, 116]), (ByteArray.mk #[115, 117, 109]), (ByteArray.mk #[112, 97, 114]), (ByteArray.mk #[104, 105, 100, 101])] ByteArray.empty (2 : Int).toNat = ByteArray.mk #[115, 117, 109] from rfl, cond_false]
    rw [bif_y (by rfl), bif_y (by rfl)]
    unfold f141.j1' f141.j0'
    rw [show ((2 : Int) == 4) = false from rfl, cond_false]
    exact text2 L' N' m a b s u e f _ 2 0 i j (by decide) hs hu (by omega)
  | par a b i j ha hb iha ihb =>
    intro hk m hm
    obtain ⟨m, rfl⟩ : ∃ m', m = m' + 1 := ⟨m - 1, by omega⟩
    obtain ⟨s, e, hs⟩ := iha (by omega) m (by omega)
    obtain ⟨u, f, hu⟩ := ihb (by omega) m (by omega)
    show ∃ s, f141.b _ _ (f141 (L' + 3) (N' + 1) m) some (.mk 3 0 [a, b]) = some s ∧ _
    unfold f141.b f141.b'
    have w : f161 (L' + 3) (N' + 1) = some [(ByteArray.mk #[]), (ByteArray.mk #[97, 99, 116]), (ByteArray.mk #[115, 117, 109]), (ByteArray.mk #[112, 97, 114]), (ByteArray.mk #[104, 105, 100, 101])] := rfl
    simp only [Tree.op, Tree.n, Tree.parts, w, Option.bind_some]
    rw [show ((3 : Int) == 0) = false from rfl, cond_false, show ((3 : Int) == 5) = false from rfl, cond_false, show ((3 : Int) == 1) = false from rfl]
    simp only [show listAt [(ByteArray.mk #[]), (ByteArray.mk #[97, 99, 116]), (ByteArray.mk #[115, 117, 109]), (ByteArray.mk #[112, 97, 114]), (ByteArray.mk #[104, 105, 100, 101])] ByteArray.empty (3 : Int).toNat = ByteArray.mk #[112, 97, 114] from rfl, cond_false]
    rw [bif_y (by rfl), bif_y (by rfl)]
    unfold f141.j1' f141.j0'
    rw [show ((3 : Int) == 4) = false from rfl, cond_false]
    exact text2 L' N' m a b s u e f _ 3 0 i j (by decide) hs hu (by omega)
end Go.Proofs.YtffkhhblppfbfaaGreatDoor.Ev
namespace Go.Proofs.YtffkhhblppfbfaaGreatDoor.Ev
open Go
set_option linter.unusedVariables false
set_option linter.unusedSimpArgs false
theorem bif_n {c : Bool} {α : Type} {a b : α} (h : c = false) : (bif c then a else b) = b := by rw [h]; rfl
def visS (l : List Step) : Nat := (l.filter fun s => s.act != 0).length
def tauS (l : List Step) : Nat := (l.filter fun s => s.act == 0).length
theorem len_vt : ∀ l : List Step, l.length = visS l + tauS l
  | [] => rfl
  | s :: l => by
    have ih := len_vt l
    unfold visS tauS at *
    by_cases h : s.act = 0
    · simp [h]; omega
    · simp [h]; omega
theorem visS_app (a b : List Step) : visS (a ++ b) = visS a + visS b := by unfold visS; rw [List.filter_append, List.length_append]
theorem tauS_app (a b : List Step) : tauS (a ++ b) = tauS a + tauS b := by unfold tauS; rw [List.filter_append, List.length_append]
theorem visS_map {f : Step → Step} (h : ∀ s, (f s).act = s.act) : ∀ l : List Step, visS (l.map f) = visS l
  | [] => rfl
  | s :: l => by
    have ih := visS_map h l
    unfold visS at *
    rw [List.map_cons, List.filter_cons, List.filter_cons, h s]
    split <;> simp [ih]
theorem tauS_map {f : Step → Step} (h : ∀ s, (f s).act = s.act) : ∀ l : List Step, tauS (l.map f) = tauS l
  | [] => rfl
  | s :: l => by
    have ih := tauS_map h l
    unfold tauS at *
    rw [List.map_cons, List.filter_cons, List.filter_cons, h s]
    split <;> simp [ih]
theorem visS_sub {p : Step → Bool} (l : List Step) : visS (l.filter p) ≤ visS l := by
  unfold visS
  rw [List.filter_filter]
  have h := List.length_filter_le p (l.filter fun s => s.act != 0)
  rw [List.filter_filter] at h
  refine Nat.le_trans (Nat.le_of_eq ?_) h
  congr 1
  apply List.filter_congr
  intro x _
  exact Bool.and_comm _ _
theorem tauS_sub {p : Step → Bool} (l : List Step) : tauS (l.filter p) ≤ tauS l := by
  unfold tauS
  rw [List.filter_filter]
  have h := List.length_filter_le p (l.filter fun s => s.act == 0)
  rw [List.filter_filter] at h
  refine Nat.le_trans (Nat.le_of_eq ?_) h
  congr 1
  apply List.filter_congr
  intro x _
  exact Bool.and_comm _ _
def leftS (b : Tree) (s : Step) : Step := ⟨s.act, .mk 3 0 [s.thn, b]⟩
def rightS (a : Tree) (s : Step) : Step := ⟨s.act, .mk 3 0 [a, s.thn]⟩
def tauRow (x : Step) (right : List Step) : List Step := if x.act ≠ 0 then (right.filter fun y => x.act == wi (0 - y.act)).map fun y => ⟨0, .mk 3 0 [x.thn, y.thn]⟩ else []
theorem tauRow_vis (x : Step) (right : List Step) : visS (tauRow x right) = 0 := by
  unfold tauRow visS
  split
  · rw [List.length_eq_zero_iff, List.filter_eq_nil_iff]
    intro s hs
    obtain ⟨y, -, rfl⟩ := List.mem_map.1 hs
    simp
  · rfl
theorem tauRow_len (x : Step) (right : List Step) : (tauRow x right).length ≤ if x.act ≠ 0 then visS right else 0 := by
  unfold tauRow
  by_cases h : x.act ≠ 0
  · rw [if_pos h, if_pos h, List.length_map]
    unfold visS
    have e : (right.filter fun y => x.act == wi (0 - y.act)) = ((right.filter fun y => y.act != 0).filter fun y => x.act == wi (0 - y.act)) := by
      rw [List.filter_filter]
      apply List.filter_congr
      intro y _
      by_cases hy : y.act = 0
      · have : (x.act == wi (0 - y.act)) = false := by
          rw [hy]
          have : wi (0 - 0) = 0 := by rw [wi_id (by omega) (by omega)]; omega
          rw [this]; simpa using h
        rw [this]; rfl
      · have : (y.act != 0) = true := by simpa using hy
        rw [this, Bool.and_true]
    rw [e]
    exact List.length_filter_le _ _
  · rw [if_neg h, if_neg h]; simp
theorem taus_len (right : List Step) : ∀ left : List Step, (left.flatMap fun x => tauRow x right).length ≤ visS left * visS right
  | [] => by simp
  | x :: l => by
    have ih := taus_len right l
    have h := tauRow_len x right
    rw [List.flatMap_cons, List.length_append]
    have hv : visS (x :: l) = (if x.act ≠ 0 then 1 else 0) + visS l := by
      unfold visS
      rw [List.filter_cons]
      by_cases hx : x.act = 0
      · simp [hx]
      · have : (x.act != 0) = true := by simpa using hx
        simp [hx]; omega
    rw [hv, Nat.add_mul]
    by_cases hx : x.act ≠ 0
    · rw [if_pos hx] at h; rw [if_pos hx, Nat.one_mul]; omega
    · rw [if_neg hx] at h; rw [if_neg hx, Nat.zero_mul]; omega
theorem taus_vis (right : List Step) : ∀ left : List Step, visS (left.flatMap fun x => tauRow x right) = 0
  | [] => rfl
  | x :: l => by rw [List.flatMap_cons, visS_app, tauRow_vis, taus_vis right l]
theorem nloop1 (L' N : Nat) (self : Tree → Option Int) (a : Tree) (r1 : Int) (e : self a = some r1) (h1 : 1 ≤ r1) (h2 : r1 ≤ 998) (o x : Int) :
    f143.l0 (L' + 3) N self (fun z30 => f143.p0_e1 (L' + 3) N self some z30) (fun z32 z33 => f143.p0_r (L' + 3) N self some z32 z33) (L' + 3) (1 : Int) (1 : Int) (0 : Int) o x [a] = some (1 + r1) := by
  have hw : wi (1 + r1) = 1 + r1 := wi_id (by omega) (by omega)
  show f143.s0 _ N _ _ _ _ (1 : Int) (1 : Int) (0 : Int) o x [a] = _
  unfold f143.s0 f143.s0'
  rw [bif_y (by rfl), bif_y (by rfl)]
  show ((self a).bind _) = _
  rw [e, Option.bind_some, show (r1 == 0) = false by simp; omega, cond_false]
  show f143.s0 _ N _ _ _ _ (1 : Int) _ (wi ((0 : Int) + 1)) o x [a] = _
  unfold f143.s0 f143.s0'
  rw [bif_n (by rfl), hw, dt (show 1 + r1 < 1000 by omega), cond_true]
  rfl
theorem nloop2 (L' N : Nat) (self : Tree → Option Int) (a b : Tree) (r1 r2 : Int) (e : self a = some r1) (f : self b = some r2) (h1 : 1 ≤ r1) (h2 : 1 ≤ r2) (h3 : r1 + r2 ≤ 998) (o x : Int) :
    f143.l0 (L' + 3) N self (fun z30 => f143.p0_e1 (L' + 3) N self some z30) (fun z32 z33 => f143.p0_r (L' + 3) N self some z32 z33) (L' + 3) (2 : Int) (1 : Int) (0 : Int) o x [a, b] = some (1 + r1 + r2) := by
  have hw : wi (1 + r1) = 1 + r1 := wi_id (by omega) (by omega)
  have hw2 : wi (1 + r1 + r2) = 1 + r1 + r2 := wi_id (by omega) (by omega)
  show f143.s0 _ N _ _ _ _ (2 : Int) (1 : Int) (0 : Int) o x [a, b] = _
  unfold f143.s0 f143.s0'
  rw [bif_y (by rfl), bif_y (by rfl)]
  show ((self a).bind _) = _
  rw [e, Option.bind_some, show (r1 == 0) = false by simp; omega, cond_false]
  show f143.s0 _ N _ _ _ _ (2 : Int) _ (wi ((0 : Int) + 1)) o x [a, b] = _
  unfold f143.s0 f143.s0'
  rw [bif_y (by rfl), bif_y (by rfl)]
  show ((self b).bind _) = _
  rw [f, Option.bind_some, show (r2 == 0) = false by simp; omega, cond_false]
  show f143.s0 _ N _ _ _ _ (2 : Int) _ (wi (wi ((0 : Int) + 1) + 1)) o x [a, b] = _
  unfold f143.s0 f143.s0'
  rw [bif_n (by rfl), hw, dt (show 1 + r1 < 1000 by omega), cond_true, hw2, dt (show 1 + r1 + r2 < 1000 by omega), cond_true]
  rfl
theorem l2Nodes_wt (L N : Nat) (hL : 3 ≤ L) : ∀ (t : Tree) (k : Nat), WT t k → k ≤ 999 → ∀ m, k ≤ m → f143 L N m t = some (k : Int) := by
  obtain ⟨L', rfl⟩ : ∃ L', L = L' + 3 := ⟨L - 3, by omega⟩
  intro t k h
  induction h with
  | nil =>
    intro _ m hm
    obtain ⟨m, rfl⟩ : ∃ m', m = m' + 1 := ⟨m - 1, by omega⟩
    rfl
  | call x hx =>
    intro _ m hm
    obtain ⟨m, rfl⟩ : ∃ m', m = m' + 1 := ⟨m - 1, by omega⟩
    have hc : x = 0 ∨ x = 1 ∨ x = 2 := by omega
    rcases hc with rfl | rfl | rfl <;> rfl
  | act n a k hn ha ih =>
    intro hk m hm
    obtain ⟨m, rfl⟩ : ∃ m', m = m' + 1 := ⟨m - 1, by omega⟩
    have hp := ha.pos
    have e := ih (by omega) m (by omega)
    show f143.b (L' + 3) N (f143 (L' + 3) N m) some (.mk 1 n [a]) = _
    unfold f143.b f143.b'
    rw [bif_n (by rfl), bif_y (by rfl)]
    show ((f33 (L' + 3) N n).bind _) = _
    rw [act2_ok, Option.bind_some, dt hn]
    unfold f143.j2'
    rw [bif_n (by rfl), bif_n (by rfl)]
    unfold f143.j1'
    refine (nloop1 L' N _ a (k : Int) e (by omega) (by omega) 1 n).trans ?_
    rw [show ((k + 1 : Nat) : Int) = 1 + (k : Int) by omega]
  | hide n a k hn ha ih =>
    intro hk m hm
    obtain ⟨m, rfl⟩ : ∃ m', m = m' + 1 := ⟨m - 1, by omega⟩
    have hp := ha.pos
    have e := ih (by omega) m (by omega)
    show f143.b (L' + 3) N (f143 (L' + 3) N m) some (.mk 4 n [a]) = _
    unfold f143.b f143.b'
    rw [bif_n (by rfl), bif_n (by rfl), bif_n (by rfl)]
    unfold f143.j0'
    rw [bif_n (by rfl), bif_y (by rfl)]
    show ((f32 (L' + 3) N n 0 3).bind _) = _
    rw [in_ok, Option.bind_some, dt hn]
    unfold f143.j2'
    rw [bif_n (by rfl), bif_n (by rfl)]
    unfold f143.j1'
    refine (nloop1 L' N _ a (k : Int) e (by omega) (by omega) 4 n).trans ?_
    rw [show ((k + 1 : Nat) : Int) = 1 + (k : Int) by omega]
  | sum a b i j ha hb iha ihb =>
    intro hk m hm
    obtain ⟨m, rfl⟩ : ∃ m', m = m' + 1 := ⟨m - 1, by omega⟩
    have hpa := ha.pos
    have hpb := hb.pos
    have e := iha (by omega) m (by omega)
    have f := ihb (by omega) m (by omega)
    show f143.b (L' + 3) N (f143 (L' + 3) N m) some (.mk 2 0 [a, b]) = _
    unfold f143.b f143.b'
    rw [bif_n (by rfl), bif_n (by rfl), bif_y (by rfl)]
    unfold f143.j0'
    rw [bif_y (by rfl)]
    unfold f143.j2'
    rw [bif_n (by rfl), bif_n (by rfl)]
    unfold f143.j1'
    refine (nloop2 L' N _ a b (i : Int) (j : Int) e f (by omega) (by omega) (by omega) 2 0).trans ?_
    rw [show ((i + j + 1 : Nat) : Int) = 1 + (i : Int) + (j : Int) by omega]
  | par a b i j ha hb iha ihb =>
    intro hk m hm
    obtain ⟨m, rfl⟩ : ∃ m', m = m' + 1 := ⟨m - 1, by omega⟩
    have hpa := ha.pos
    have hpb := hb.pos
    have e := iha (by omega) m (by omega)
    have f := ihb (by omega) m (by omega)
    show f143.b (L' + 3) N (f143 (L' + 3) N m) some (.mk 3 0 [a, b]) = _
    unfold f143.b f143.b'
    rw [bif_n (by rfl), bif_n (by rfl), bif_n (by rfl)]
    unfold f143.j0'
    rw [bif_y (by rfl)]
    unfold f143.j2'
    rw [bif_n (by rfl), bif_n (by rfl)]
    unfold f143.j1'
    refine (nloop2 L' N _ a b (i : Int) (j : Int) e f (by omega) (by omega) (by omega) 3 0).trans ?_
    rw [show ((i + j + 1 : Nat) : Int) = 1 + (i : Int) + (j : Int) by omega]
def nmS (x : Int) : Int := wi ((bif decide ((wi (0 - x)) > x) then (wi (0 - x)) else x) - 1)
def keepH' (x : Int) (s : Step) : Bool := s.act == 0 || nmS s.act != x
def SOk (n : Int) (u : Nat) (s : Step) : Prop := (-4 ≤ s.act ∧ s.act ≤ 4) ∧ ∃ k', WT s.thn k' ∧ k' ≤ u ∧ CL n false s.thn
def Bnd (n : Int) (u : Nat) (l : List Step) : Prop := (∀ s ∈ l, SOk n u s) ∧ visS l ≤ u ∧ tauS l ≤ u * u
theorem Bnd.len {n : Int} {u : Nat} {l : List Step} (h : Bnd n u l) (hu : u ≤ 576) : l.length ≤ 332352 := by
  have h3 := len_vt l
  have h4 : u * u ≤ 576 * 576 := Nat.mul_le_mul hu hu
  have h1 := h.2.1
  have h2 := h.2.2
  omega
def parS (a b : Tree) (sa sb : List Step) : List Step := (sa.map (leftS b) ++ sb.map (rightS a)) ++ sa.flatMap fun x => tauRow x sb
def hideS (x : Int) (sa : List Step) : List Step := (sa.filter (keepH' x)).map fun s => ⟨s.act, .mk 4 x [s.thn]⟩
def stpK (r : Int → List Step) (o n : Int) (ps : List Tree) (ss : List (List Step)) : List Step :=
  if o = 1 then [⟨n, ps.getD 0 (.mk 0 0 [])⟩] else if o = 2 then ss.getD 0 [] ++ ss.getD 1 [] else if o = 3 then parS (ps.getD 0 (.mk 0 0 [])) (ps.getD 1 (.mk 0 0 [])) (ss.getD 0 []) (ss.getD 1 []) else if o = 4 then hideS n (ss.getD 0 []) else if o = 5 then r n else []
mutual
def stp (r : Int → List Step) : Tree → List Step
  | .mk o n ps => stpK r o n ps (stps r ps)
def stps (r : Int → List Step) : List Tree → List (List Step)
  | [] => []
  | p :: ps => stp r p :: stps r ps
end
theorem stp_nil (r : Int → List Step) : stp r (.mk 0 0 []) = [] := by rw [stp]; rfl
theorem stp_act (r : Int → List Step) (n : Int) (a : Tree) : stp r (.mk 1 n [a]) = [⟨n, a⟩] := by rw [stp]; rfl
theorem stp_sum (r : Int → List Step) (a b : Tree) : stp r (.mk 2 0 [a, b]) = stp r a ++ stp r b := by rw [stp, stps, stps, stps]; rfl
theorem stp_par (r : Int → List Step) (a b : Tree) : stp r (.mk 3 0 [a, b]) = parS a b (stp r a) (stp r b) := by rw [stp, stps, stps, stps]; rfl
theorem stp_hide (r : Int → List Step) (n : Int) (a : Tree) : stp r (.mk 4 n [a]) = hideS n (stp r a) := by rw [stp, stps, stps]; rfl
theorem stp_call (r : Int → List Step) (n : Int) : stp r (.mk 5 n []) = r n := by rw [stp, stps]; rfl
def steps (ds : List Tree) (t : Tree) : List Step := stp (fun n => stp (fun _ => []) (ds.getD n.toNat (.mk 0 0 []))) t
theorem stp_bnd (n : Int) (r : Int → List Step) (c : Nat) (hc : 1 ≤ c ∧ c ≤ 24) (Q : Tree → Prop)
    (hQ2 : ∀ a b, Q (.mk 2 0 [a, b]) → Q a ∧ Q b) (hQ3 : ∀ a b, Q (.mk 3 0 [a, b]) → Q a ∧ Q b) (hQ4 : ∀ x a, Q (.mk 4 x [a]) → Q a)
    (hcall : ∀ x, 0 ≤ x → x < n → Q (.mk 5 x []) → Bnd n c (r x)) :
    ∀ (t : Tree) (k : Nat), WT t k → k ≤ 24 → CL n false t → Q t → Bnd n (c * k) (stp r t) := by
  intro t k h
  induction h with
  | nil =>
    intro _ _ _
    rw [stp_nil]
    exact ⟨fun s hs => (by cases hs), Nat.zero_le _, Nat.zero_le _⟩
  | call x hx =>
    intro _ hcl hq
    rw [Nat.mul_one, stp_call]
    exact hcall x hx.1 hcl.lt hq
  | act n a k hn ha ih =>
    intro hk hcl hq
    rw [stp_act]
    refine ⟨fun s hs => ?_, ?_, ?_⟩
    · rw [List.mem_singleton.1 hs]
      have h1 : 1 * k ≤ c * (k + 1) := Nat.mul_le_mul hc.1 (by omega)
      exact ⟨hn, k, ha, by omega, hcl.sub (by decide) a (.head _)⟩
    · have h1 : 1 * 1 ≤ c * (k + 1) := Nat.mul_le_mul hc.1 (by omega)
      have h2 := List.length_filter_le (fun s : Step => s.act != 0) [⟨n, a⟩]
      unfold visS
      simp only [List.length_cons, List.length_nil] at h2 ⊢
      omega
    · have h1 : 1 * 1 ≤ c * (k + 1) := Nat.mul_le_mul hc.1 (by omega)
      have h3 : 1 * 1 ≤ (c * (k + 1)) * (c * (k + 1)) := Nat.mul_le_mul (by omega) (by omega)
      have h2 := List.length_filter_le (fun s : Step => s.act == 0) [⟨n, a⟩]
      unfold tauS
      simp only [List.length_cons, List.length_nil] at h2 ⊢
      omega
  | sum a b i j ha hb iha ihb =>
    intro hk hcl hq
    obtain ⟨qa, qb⟩ := hQ2 a b hq
    have hs := hcl.sub (by decide)
    obtain ⟨pa, va, ta⟩ := iha (by omega) (hs a (.head _)) qa
    obtain ⟨pb, vb, tb⟩ := ihb (by omega) (hs b (.tail _ (.head _))) qb
    have hu : c * (i + j + 1) = c * i + c * j + c := by rw [Nat.mul_add, Nat.mul_add, Nat.mul_one]
    rw [stp_sum]
    refine ⟨fun s hs' => ?_, ?_, ?_⟩
    · rcases List.mem_append.1 hs' with h | h
      · obtain ⟨h1, k', h2, h3, h4⟩ := pa s h; exact ⟨h1, k', h2, by omega, h4⟩
      · obtain ⟨h1, k', h2, h3, h4⟩ := pb s h; exact ⟨h1, k', h2, by omega, h4⟩
    · rw [visS_app]; omega
    · rw [tauS_app]
      generalize c * i = u at *
      generalize c * j = v at *
      generalize c * (i + j + 1) = w at *
      have h1 : (u + v) * (u + v) ≤ w * w := Nat.mul_le_mul (by omega) (by omega)
      have h2 : (u + v) * (u + v) = u * u + v * v + 2 * (u * v) := by rw [Nat.add_mul, Nat.mul_add, Nat.mul_add, Nat.mul_comm v u]; omega
      omega
  | par a b i j ha hb iha ihb =>
    intro hk hcl hq
    obtain ⟨qa, qb⟩ := hQ3 a b hq
    have hs := hcl.sub (by decide)
    have cla := hs a (.head _)
    have clb := hs b (.tail _ (.head _))
    obtain ⟨pa, va, ta⟩ := iha (by omega) cla qa
    obtain ⟨pb, vb, tb⟩ := ihb (by omega) clb qb
    have hu : c * (i + j + 1) = c * i + c * j + c := by rw [Nat.mul_add, Nat.mul_add, Nat.mul_one]
    have hui : i ≤ c * i := by have := Nat.mul_le_mul_right i hc.1; omega
    have huj : j ≤ c * j := by have := Nat.mul_le_mul_right j hc.1; omega
    rw [stp_par]
    generalize stp r a = sa at *
    generalize stp r b = sb at *
    have hti := taus_len sb sa
    have htv := taus_vis sb sa
    have mkp : ∀ (p q : Tree) (i' j' : Nat), WT p i' → WT q j' → CL n false p → CL n false q → i' ≤ c * i → j' ≤ c * j → ∃ k', WT (.mk 3 0 [p, q]) k' ∧ k' ≤ c * (i + j + 1) ∧ CL n false (.mk 3 0 [p, q]) := fun p q i' j' h1 h2 h3 h4 h5 h6 =>
      ⟨i' + j' + 1, .par p q i' j' h1 h2, by omega, .node false 3 0 [p, q] (by decide) fun x hx => by
        rcases List.mem_cons.1 hx with rfl | hx
        · exact h3
        · rw [List.mem_singleton.1 hx]; exact h4⟩
    refine ⟨fun s hs' => ?_, ?_, ?_⟩
    · rcases List.mem_append.1 hs' with h | h
      · rcases List.mem_append.1 h with h | h
        · obtain ⟨y, hy, rfl⟩ := List.mem_map.1 h
          obtain ⟨h1, k', h2, h3, h4⟩ := pa y hy
          exact ⟨h1, mkp y.thn b k' j h2 hb h4 clb h3 huj⟩
        · obtain ⟨y, hy, rfl⟩ := List.mem_map.1 h
          obtain ⟨h1, k', h2, h3, h4⟩ := pb y hy
          exact ⟨h1, mkp a y.thn i k' ha h2 cla h4 hui h3⟩
      · obtain ⟨x, hx, h⟩ := List.mem_flatMap.1 h
        unfold tauRow at h
        split at h
        · obtain ⟨y, hy, rfl⟩ := List.mem_map.1 h
          obtain ⟨-, k1, h2, h3, h4⟩ := pa x hx
          obtain ⟨-, k2, g2, g3, g4⟩ := pb y (List.mem_filter.1 hy).1
          exact ⟨(show -4 ≤ (0 : Int) ∧ (0 : Int) ≤ 4 by omega), mkp x.thn y.thn k1 k2 h2 g2 h4 g4 h3 g3⟩
        · cases h
    · unfold parS
      rw [visS_app, visS_app, htv, visS_map (f := leftS b) (fun _ => rfl), visS_map (f := rightS a) (fun _ => rfl)]; omega
    · have ht3 : tauS (sa.flatMap fun x => tauRow x sb) ≤ visS sa * visS sb := by
        have := len_vt (sa.flatMap fun x => tauRow x sb); omega
      have hvv : visS sa * visS sb ≤ (c * i) * (c * j) := Nat.mul_le_mul va vb
      unfold parS
      rw [tauS_app, tauS_app, tauS_map (f := leftS b) (fun _ => rfl), tauS_map (f := rightS a) (fun _ => rfl)]
      generalize c * i = u at *
      generalize c * j = v at *
      generalize c * (i + j + 1) = w at *
      have h1 : (u + v) * (u + v) ≤ w * w := Nat.mul_le_mul (by omega) (by omega)
      have h2 : (u + v) * (u + v) = u * u + v * v + 2 * (u * v) := by rw [Nat.add_mul, Nat.mul_add, Nat.mul_add, Nat.mul_comm v u]; omega
      omega
  | hide x a k hx ha ih =>
    intro hk hcl hq
    have hs := hcl.sub (by decide)
    obtain ⟨pa, va, ta⟩ := ih (by omega) (hs a (.head _)) (hQ4 x a hq)
    have hu : c * (k + 1) = c * k + c := by rw [Nat.mul_add, Nat.mul_one]
    rw [stp_hide]
    unfold hideS
    refine ⟨fun s hs' => ?_, ?_, ?_⟩
    · obtain ⟨y, hy, rfl⟩ := List.mem_map.1 hs'
      obtain ⟨h1, k', h2, h3, h4⟩ := pa y (List.mem_filter.1 hy).1
      exact ⟨h1, k' + 1, .hide x y.thn k' hx h2, by omega, .node false 4 x [y.thn] (by decide) fun p hp => by rw [List.mem_singleton.1 hp]; exact h4⟩
    · rw [visS_map (f := fun s => ⟨s.act, .mk 4 x [s.thn]⟩) (fun _ => rfl)]
      have := visS_sub (p := keepH' x) (stp r a)
      omega
    · rw [tauS_map (f := fun s => ⟨s.act, .mk 4 x [s.thn]⟩) (fun _ => rfl)]
      have := tauS_sub (p := keepH' x) (stp r a)
      have h3 : (c * k) * (c * k) ≤ (c * (k + 1)) * (c * (k + 1)) := Nat.mul_le_mul (by omega) (by omega)
      omega
theorem bnd_guard {n : Int} {r : Int → List Step} {t : Tree} {k : Nat} (h : WT t k) (hk : k ≤ 24) (hcl : CL n false t) (hg : CL 0 true t) : Bnd n k (stp r t) := by
  have := stp_bnd n r 1 ⟨by omega, by omega⟩ (fun t => CL 0 true t)
      (fun a b h => ⟨h.sub2 (by decide) (by decide) a (.head _), h.sub2 (by decide) (by decide) b (.tail _ (.head _))⟩)
      (fun a b h => ⟨h.sub2 (by decide) (by decide) a (.head _), h.sub2 (by decide) (by decide) b (.tail _ (.head _))⟩)
      (fun x a h => h.sub2 (by decide) (by decide) a (.head _))
      (fun x h0 h1 hq => by have := hq.lt; omega) t k h hk hcl hg
  rw [Nat.one_mul] at this; exact this
theorem steps_bnd (ds : List Tree) (hd : DefsW ds) (t : Tree) (k : Nat) (h : WT t k) (hk : k ≤ 24) (hcl : CL (ds.length : Int) false t) : Bnd (ds.length : Int) 576 (steps ds t) := by
  obtain ⟨b1, b2, b3⟩ := stp_bnd (ds.length : Int) (fun n => stp (fun _ => []) (ds.getD n.toNat (.mk 0 0 []))) 24 ⟨by omega, by omega⟩ (fun _ => True) (fun _ _ _ => ⟨trivial, trivial⟩) (fun _ _ _ => ⟨trivial, trivial⟩) (fun _ _ _ => trivial) (fun x h0 h1 _ => by
    obtain ⟨i, rfl⟩ := Int.eq_ofNat_of_zero_le h0
    have hi : i < ds.length := by omega
    obtain ⟨kd, k1, k2, k3, k4⟩ := hd.2 ds[i] (List.getElem_mem hi)
    show Bnd _ 24 (stp _ (ds.getD _ _))
    rw [Int.toNat_natCast, getD_lt hi]
    obtain ⟨b1, b2, b3⟩ := bnd_guard (r := fun _ => []) k2 k1 k3 k4
    have : kd * kd ≤ 24 * 24 := Nat.mul_le_mul k1 k1
    exact ⟨fun s hs => by obtain ⟨g1, k', g2, g3, g4⟩ := b1 s hs; exact ⟨g1, k', g2, by omega, g4⟩, by omega, by omega⟩) t k h hk hcl trivial
  have hb : 24 * k ≤ 576 := by omega
  have : (24 * k) * (24 * k) ≤ 576 * 576 := Nat.mul_le_mul hb hb
  exact ⟨fun s hs => by obtain ⟨g1, k', g2, g3, g4⟩ := b1 s hs; exact ⟨g1, k', g2, by omega, g4⟩, by unfold steps; omega, by unfold steps; omega⟩
section
variable {R : Type} (L N : Nat) (self : Tree → List Tree → Option (List Step))
theorem par0 (K : Int → Int → List Tree → List Step → List Step → List Step → Option R) (o x : Int) (a b : Tree) (left right : List Step) (hl : left.length ≤ 1000000) :
    ∀ (n i : Nat) (out : List Step), i ≤ left.length → left.length - i < n → out.length + (left.length - i) ≤ lim →
      f142.l0 L N self K n (i : Int) o x [a, b] out left right = K o x [a, b] (out ++ (left.drop i).map (leftS b)) left right := by
  intro n
  induction n with
  | zero => intro i out _ h; omega
  | succ n ih =>
    intro i out hi hn ho
    show f142.s0 L N self _ (f142.l0 L N self _ n) (i : Int) o x [a, b] out left right = _
    unfold f142.s0 f142.s0'
    by_cases hlt : i < left.length
    · have g1 : (decide ((0 : Int) ≤ 1) && decide ((1 : Int) < (([a, b] : List Tree).length : Int))) = true := rfl
      have g2 : listAt [a, b] (Ty.dflt (.st 1)) (1 : Int).toNat = b := rfl
      have hle : decide (out.length + ([Step.mk (left[i]).act (Tree.mk 3 0 [(left[i]).thn, b])] : List Step).length ≤ lim) = true := dt (by simp only [List.length_cons, List.length_nil]; omega)
      simp only [lt_cast hlt, le0, Bool.and_true, cond_true, Int.toNat_natCast, at_lt hlt, g1, g2, tree_eta, hle]
      rw [wi_nat (by omega), ih (i + 1) _ (by omega) (by omega) (by simp only [List.length_append, List.length_cons, List.length_nil]; omega), List.drop_eq_getElem_cons hlt, List.map_cons, List.append_assoc]
      rfl
    · simp only [ge_cast hlt, cond_false]
      rw [List.drop_eq_nil_of_le (by omega), List.map_nil, List.append_nil]
theorem par1 (K : List Step → List Step → List Step → Option R) (o x : Int) (a b : Tree) (left right : List Step) (hl : right.length ≤ 1000000) :
    ∀ (n i : Nat) (out : List Step), i ≤ right.length → right.length - i < n → out.length + (right.length - i) ≤ lim →
      f142.l1 L N self K n (i : Int) o x [a, b] out left right = K (out ++ (right.drop i).map (rightS a)) left right := by
  intro n
  induction n with
  | zero => intro i out _ h; omega
  | succ n ih =>
    intro i out hi hn ho
    show f142.s1 L N self _ (f142.l1 L N self _ n) (i : Int) o x [a, b] out left right = _
    unfold f142.s1 f142.s1'
    by_cases hlt : i < right.length
    · have g1 : (decide ((0 : Int) ≤ 0) && decide ((0 : Int) < (([a, b] : List Tree).length : Int))) = true := rfl
      have g2 : listAt [a, b] (Ty.dflt (.st 1)) (0 : Int).toNat = a := rfl
      have hle : decide (out.length + ([Step.mk (right[i]).act (Tree.mk 3 0 [a, (right[i]).thn])] : List Step).length ≤ lim) = true := dt (by simp only [List.length_cons, List.length_nil]; omega)
      rw [g1, g2]
      simp only [lt_cast hlt, le0, Bool.and_true, cond_true, Int.toNat_natCast, at_lt hlt, tree_eta, hle]
      rw [wi_nat (by omega), ih (i + 1) _ (by omega) (by omega) (by simp only [List.length_append, List.length_cons, List.length_nil]; omega), List.drop_eq_getElem_cons hlt, List.map_cons, List.append_assoc]
      rfl
    · simp only [ge_cast hlt, cond_false]
      rw [List.drop_eq_nil_of_le (by omega), List.map_nil, List.append_nil]
theorem par3 (K : Int → List Step → List Step → List Step → Option R) (left right : List Step) (hl : right.length ≤ 1000000) (i : Nat) (hi : i < left.length) :
    ∀ (n j : Nat) (out : List Step), j ≤ right.length → right.length - j < n → out.length + (right.length - j) ≤ lim →
      f142.l3 L N self K n (i : Int) (j : Int) out left right = K (i : Int) (out ++ tauRow left[i] (right.drop j)) left right := by
  intro n
  induction n with
  | zero => intro j out _ h; omega
  | succ n ih =>
    intro j out hj hn ho
    show f142.s3 L N self _ (f142.l3 L N self _ n) (i : Int) (j : Int) out left right = _
    unfold f142.s3 f142.s3'
    by_cases hlt : j < right.length
    · rw [List.drop_eq_getElem_cons hlt]
      have hle : decide (out.length + ([Step.mk 0 (Tree.mk 3 0 [(left[i]).thn, (right[j]).thn])] : List Step).length ≤ lim) = true := dt (by simp only [List.length_cons, List.length_nil]; omega)
      simp only [lt_cast hlt, lt_cast hi, le0, Bool.and_true, cond_true, Int.toNat_natCast, at_lt hlt, at_lt hi]
      by_cases h0 : (left[i]).act = 0
      · rw [show ((left[i]).act != 0) = false by simpa using h0, cond_false]
        unfold f142.j0'
        rw [cond_false, wi_nat (by omega), ih (j + 1) _ (by omega) (by omega) (by omega)]
        unfold tauRow
        rw [if_neg (fun h => h h0), if_neg (fun h => h h0)]
      · rw [show ((left[i]).act != 0) = true by simpa using h0, cond_true]
        unfold f142.j0'
        cases hc : ((left[i]).act == wi (0 - (right[j]).act)) with
        | false =>
          rw [cond_false, wi_nat (by omega), ih (j + 1) _ (by omega) (by omega) (by omega)]
          unfold tauRow
          rw [if_pos h0, if_pos h0, List.filter_cons, hc]
          rfl
        | true =>
          simp only [lt_cast hlt, lt_cast hi, le0, Bool.and_true, cond_true, Int.toNat_natCast, at_lt hlt, at_lt hi, tree_eta, hle]
          rw [wi_nat (by omega), ih (j + 1) _ (by omega) (by omega) (by simp only [List.length_append, List.length_cons, List.length_nil]; omega)]
          unfold tauRow
          rw [if_pos h0, if_pos h0, List.filter_cons, hc, if_pos rfl, List.map_cons, List.append_assoc]
          rfl
    · simp only [ge_cast hlt, cond_false]
      rw [List.drop_eq_nil_of_le (by omega)]
      have : tauRow left[i] [] = [] := by unfold tauRow; split <;> rfl
      rw [this, List.append_nil]
theorem par2 (hL : 1000001 < L) (k : List Step → Option R) (left right : List Step) (hl : left.length ≤ 1000000) (hr : right.length ≤ 1000000) :
    ∀ (n i : Nat) (out : List Step), i ≤ left.length → left.length - i < n → out.length + (left.length - i) * right.length ≤ lim →
      f142.l2 L N self (fun z31 => f142.p2_e5 L N self k z31) n (i : Int) out left right = k (out ++ (left.drop i).flatMap fun x => tauRow x right) := by
  intro n
  induction n with
  | zero => intro i out _ h; omega
  | succ n ih =>
    intro i out hi hn ho
    show f142.s2 L N self _ (f142.l2 L N self _ n) (i : Int) out left right = _
    unfold f142.s2 f142.s2'
    by_cases hlt : i < left.length
    · have hstep : (left.length - i) * right.length = (left.length - (i + 1)) * right.length + right.length := by
        rw [show left.length - i = (left.length - (i + 1)) + 1 by omega, Nat.add_mul, Nat.one_mul]
      rw [lt_cast hlt, cond_true]
      refine (par3 L N self _ left right hr i hlt L 0 out (by omega) (by omega) (by omega)).trans ?_
      show f142.l2 L N self _ n (wi ((i : Int) + 1)) (out ++ tauRow left[i] (right.drop 0)) left right = _
      have htl : (tauRow left[i] right).length ≤ right.length := by
        have h1 := tauRow_len left[i] right
        have h2 := len_vt right
        split at h1 <;> omega
      rw [List.drop_zero, wi_nat (by omega), ih (i + 1) _ (by omega) (by omega) (by rw [List.length_append]; omega), List.drop_eq_getElem_cons hlt, List.flatMap_cons, List.append_assoc]
    · rw [ge_cast hlt, cond_false, List.drop_eq_nil_of_le (by omega), List.flatMap_nil, List.append_nil]
      rfl
theorem hide4 (k : List Step → Option R) (o x : Int) (ps : List Tree) (st : List Step) (hl : st.length ≤ 1000000) :
    ∀ (n i : Nat) (out : List Step), i ≤ st.length → st.length - i < n → out.length + (st.length - i) ≤ lim →
      f142.l4 L N self (fun z59 => f142.p4_e9 L N self k z59) n (i : Int) o x ps out st = k (out ++ ((st.drop i).filter (keepH' x)).map fun s => ⟨s.act, .mk 4 x [s.thn]⟩) := by
  intro n
  induction n with
  | zero => intro i out _ h; omega
  | succ n ih =>
    intro i out hi hn ho
    show f142.s4 L N self _ (f142.l4 L N self _ n) (i : Int) o x ps out st = _
    unfold f142.s4 f142.s4'
    by_cases hlt : i < st.length
    · rw [List.drop_eq_getElem_cons hlt, List.filter_cons]
      have hnm : f163 L N (st[i]).act = some (nmS (st[i]).act) := rfl
      have hle : decide (out.length + ([Step.mk (st[i]).act (Tree.mk 4 x [(st[i]).thn])] : List Step).length ≤ lim) = true := dt (by simp only [List.length_cons, List.length_nil]; omega)
      simp only [lt_cast hlt, le0, Bool.and_true, cond_true, Int.toNat_natCast, at_lt hlt, hnm, Option.bind_some]
      have go : ∀ c : Bool, c = keepH' x st[i] → f142.j1' L N self (fun z59 => f142.p4_e9 L N self k z59) (f142.l4 L N self (fun z59 => f142.p4_e9 L N self k z59) n) (i : Int) c o x ps out st
          = k (out ++ (if keepH' x st[i] = true then st[i] :: (st.drop (i + 1)).filter (keepH' x) else (st.drop (i + 1)).filter (keepH' x)).map fun s => ⟨s.act, .mk 4 x [s.thn]⟩) := by
        intro c hc
        subst hc
        unfold f142.j1'
        cases hk : keepH' x st[i] with
        | true =>
          simp only [lt_cast hlt, le0, Bool.and_true, cond_true, Int.toNat_natCast, at_lt hlt, tree_eta, hle]
          rw [wi_nat (by omega), ih (i + 1) _ (by omega) (by omega) (by simp only [List.length_append, List.length_cons, List.length_nil]; omega), if_pos trivial, List.map_cons, List.append_assoc]
          rfl
        | false =>
          rw [cond_false, wi_nat (by omega), ih (i + 1) _ (by omega) (by omega) (by omega), if_neg (by simp)]
      cases h0 : ((st[i]).act == 0) with
      | true => rw [cond_true]; exact go true (by unfold keepH'; rw [h0]; rfl)
      | false => rw [cond_false]; exact go _ (by unfold keepH'; rw [h0]; rfl)
    · rw [ge_cast hlt, cond_false, List.drop_eq_nil_of_le (by omega), List.filter_nil, List.map_nil, List.append_nil]
      rfl
end
section
variable (L N : Nat)
theorem stepsGS (hL : 1000001 < L) (ds : List Tree) (n : Int) (r : Int → List Step) (c e : Nat) (hc : 1 ≤ c ∧ c ≤ 24) (Q : Tree → Prop)
    (hQ2 : ∀ a b, Q (.mk 2 0 [a, b]) → Q a ∧ Q b) (hQ3 : ∀ a b, Q (.mk 3 0 [a, b]) → Q a ∧ Q b) (hQ4 : ∀ x a, Q (.mk 4 x [a]) → Q a)
    (hB : ∀ x, 0 ≤ x → x < n → Q (.mk 5 x []) → Bnd n c (r x)) (hcall : ∀ m x, 0 ≤ x → x < n → Q (.mk 5 x []) → e ≤ m → f142 L N (m + 1) (.mk 5 x []) ds = some (r x)) :
    ∀ (t : Tree) (k : Nat), WT t k → k ≤ 24 → CL n false t → Q t → ∀ m, k + e ≤ m → f142 L N m t ds = some (stp r t) := by
  have hlim := lim_eq
  have hck : ∀ k, k ≤ 24 → c * k ≤ 576 := fun k hk => Nat.le_trans (Nat.mul_le_mul hc.2 hk) (by omega)
  have hbl : ∀ (t : Tree) (k : Nat), WT t k → k ≤ 24 → CL n false t → Q t → (stp r t).length ≤ 332352 := fun t k h1 h2 h3 h4 => (stp_bnd n r c hc Q hQ2 hQ3 hQ4 hB t k h1 h2 h3 h4).len (hck k h2)
  intro t k h
  induction h with
  | nil =>
    intro _ _ _ m hm
    obtain ⟨m, rfl⟩ : ∃ m', m = m' + 1 := ⟨m - 1, by omega⟩
    rw [stp_nil]; rfl
  | call x hx =>
    intro _ hcl hq m hm
    obtain ⟨m, rfl⟩ : ∃ m', m = m' + 1 := ⟨m - 1, by omega⟩
    rw [stp_call]
    exact hcall m x hx.1 hcl.lt hq (by omega)
  | act x a k hn ha ih =>
    intro hk hcl hq m hm
    obtain ⟨m, rfl⟩ : ∃ m', m = m' + 1 := ⟨m - 1, by omega⟩
    rw [stp_act]
    show f142.b L N (f142 L N m) some (.mk 1 x [a]) ds = _
    unfold f142.b f142.b'
    rw [bif_y (by rfl), bif_y (by rfl), bif_y (by rfl)]
    show some ([] ++ [Step.mk x (Tree.mk a.op a.n a.parts)]) = _
    rw [tree_eta]
    rfl
  | sum a b i j ha hb iha ihb =>
    intro hk hcl hq m hm
    obtain ⟨m, rfl⟩ : ∃ m', m = m' + 1 := ⟨m - 1, by omega⟩
    obtain ⟨qa, qb⟩ := hQ2 a b hq
    have hs := hcl.sub (by decide)
    have ea := iha (by omega) (hs a (.head _)) qa m (by omega)
    have eb := ihb (by omega) (hs b (.tail _ (.head _))) qb m (by omega)
    have hla := hbl a i ha (by omega) (hs a (.head _)) qa
    have hlb := hbl b j hb (by omega) (hs b (.tail _ (.head _))) qb
    rw [stp_sum]
    show f142.b L N (f142 L N m) some (.mk 2 0 [a, b]) ds = _
    unfold f142.b f142.b'
    rw [bif_n (by rfl), bif_y (by rfl), bif_y (by rfl)]
    show ((f142 L N m a ds).bind _) = _
    rw [ea, Option.bind_some, bif_y (by rfl)]
    show ((f142 L N m b ds).bind _) = _
    rw [eb, Option.bind_some, dt (show (stp r a).length + (stp r b).length ≤ lim by omega), cond_true]
  | par a b i j ha hb iha ihb =>
    intro hk hcl hq m hm
    obtain ⟨m, rfl⟩ : ∃ m', m = m' + 1 := ⟨m - 1, by omega⟩
    obtain ⟨qa, qb⟩ := hQ3 a b hq
    have hs := hcl.sub (by decide)
    have ea := iha (by omega) (hs a (.head _)) qa m (by omega)
    have eb := ihb (by omega) (hs b (.tail _ (.head _))) qb m (by omega)
    have hla := hbl a i ha (by omega) (hs a (.head _)) qa
    have hlb := hbl b j hb (by omega) (hs b (.tail _ (.head _))) qb
    rw [stp_par]
    generalize stp r a = sa at *
    generalize stp r b = sb at *
    have hmul : sa.length * sb.length ≤ 332352 * 332352 := Nat.mul_le_mul hla hlb
    show f142.b L N (f142 L N m) some (.mk 3 0 [a, b]) ds = _
    unfold f142.b f142.b'
    rw [bif_n (by rfl), bif_n (by rfl), bif_y (by rfl), bif_y (by rfl)]
    show ((f142 L N m a ds).bind _) = _
    rw [ea, Option.bind_some, bif_y (by rfl)]
    show ((f142 L N m b ds).bind _) = _
    rw [eb, Option.bind_some]
    refine (par0 L N (f142 L N m) _ 3 0 a b sa sb (by omega) L 0 [] (by omega) (by omega) (by simp only [List.length_nil]; omega)).trans ?_
    refine (par1 L N (f142 L N m) _ 3 0 a b sa sb (by omega) L 0 _ (by omega) (by omega) (by simp only [List.length_append, List.length_map, List.length_nil, List.length_drop]; omega)).trans ?_
    refine (par2 L N (f142 L N m) hL some sa sb (by omega) (by omega) L 0 _ (by omega) (by omega) (by simp only [List.length_append, List.length_map, List.length_nil, List.length_drop, Nat.sub_zero]; omega)).trans ?_
    simp only [List.drop_zero, List.nil_append]
    rfl
  | hide x a k hx ha ih =>
    intro hk hcl hq m hm
    obtain ⟨m, rfl⟩ : ∃ m', m = m' + 1 := ⟨m - 1, by omega⟩
    have hs := hcl.sub (by decide)
    have ea := ih (by omega) (hs a (.head _)) (hQ4 x a hq) m (by omega)
    have hla := hbl a k ha (by omega) (hs a (.head _)) (hQ4 x a hq)
    rw [stp_hide]
    show f142.b L N (f142 L N m) some (.mk 4 x [a]) ds = _
    unfold f142.b f142.b'
    rw [bif_n (by rfl), bif_n (by rfl), bif_n (by rfl), bif_y (by rfl), bif_y (by rfl)]
    show ((f142 L N m a ds).bind _) = _
    rw [ea, Option.bind_some]
    refine (hide4 L N (f142 L N m) some 4 x [a] (stp r a) (by omega) L 0 [] (by omega) (by omega) (by simp only [List.length_nil]; omega)).trans ?_
    simp only [List.drop_zero, List.nil_append]
    rfl
theorem stepsS (hL : 1000001 < L) (ds : List Tree) (hd : DefsW ds) (t : Tree) (k : Nat) (h : WT t k) (hk : k ≤ 24) (hcl : CL (ds.length : Int) false t) (m : Nat) (hm : 60 ≤ m) : f142 L N m t ds = some (steps ds t) := by
  have hdef : ∀ x : Int, 0 ≤ x → x < (ds.length : Int) → ∃ (i : Nat) (hi : i < ds.length), x = (i : Int) ∧ ds.getD x.toNat (.mk 0 0 []) = ds[i] ∧ ∃ kd, kd ≤ 24 ∧ WT ds[i] kd ∧ CL (ds.length : Int) false ds[i] ∧ CL 0 true ds[i] := fun x h0 h1 => by
    obtain ⟨i, rfl⟩ := Int.eq_ofNat_of_zero_le h0
    have hi : i < ds.length := by omega
    exact ⟨i, hi, rfl, by rw [Int.toNat_natCast, getD_lt hi], hd.2 ds[i] (List.getElem_mem hi)⟩
  refine stepsGS L N hL ds (ds.length : Int) (fun n => stp (fun _ => []) (ds.getD n.toNat (.mk 0 0 []))) 24 25 ⟨by omega, by omega⟩ (fun _ => True) (fun _ _ _ => ⟨trivial, trivial⟩) (fun _ _ _ => ⟨trivial, trivial⟩) (fun _ _ _ => trivial) (fun x h0 h1 _ => ?_) (fun m x h0 h1 _ hm => ?_) t k h hk hcl trivial m (by omega)
  · obtain ⟨i, hi, rfl, e, kd, k1, k2, k3, k4⟩ := hdef x h0 h1
    show Bnd _ 24 (stp _ (ds.getD _ _))
    rw [e]
    obtain ⟨b1, b2, b3⟩ := bnd_guard (r := fun _ => []) k2 k1 k3 k4
    have : kd * kd ≤ 24 * 24 := Nat.mul_le_mul k1 k1
    exact ⟨fun s hs => by obtain ⟨g1, k', g2, g3, g4⟩ := b1 s hs; exact ⟨g1, k', g2, by omega, g4⟩, by omega, by omega⟩
  · obtain ⟨i, hi, rfl, e, kd, k1, k2, k3, k4⟩ := hdef x h0 h1
    have := stepsGS L N hL ds (ds.length : Int) (fun _ => []) 1 0 ⟨by omega, by omega⟩ (fun t => CL 0 true t)
      (fun a b h => ⟨h.sub2 (by decide) (by decide) a (.head _), h.sub2 (by decide) (by decide) b (.tail _ (.head _))⟩)
      (fun a b h => ⟨h.sub2 (by decide) (by decide) a (.head _), h.sub2 (by decide) (by decide) b (.tail _ (.head _))⟩)
      (fun x a h => h.sub2 (by decide) (by decide) a (.head _))
      (fun x h0 h1 hq => by have := hq.lt; omega) (fun m x h0 h1 hq _ => by have := hq.lt; omega) ds[i] kd k2 k1 k3 k4 m (by omega)
    show f142.b L N (f142 L N m) some (.mk 5 (i : Int) []) ds = some (stp (fun _ => []) (ds.getD (i : Int).toNat (.mk 0 0 [])))
    rw [e]
    unfold f142.b f142.b'
    rw [bif_n (by rfl), bif_n (by rfl), bif_n (by rfl), bif_n (by rfl), bif_y (by rfl)]
    show (bif decide ((0 : Int) ≤ (i : Int)) && decide ((i : Int) < (ds.length : Int)) then ((f142 L N m (listAt ds (Ty.dflt (.st 1)) (i : Int).toNat) ds).bind _) else none) = _
    simp only [le0, lt_cast hi, Bool.and_true, cond_true, Int.toNat_natCast, at_lt hi, this, Option.bind_some]
end
def Res (n : Int) (u : Nat) (r : Option (List Step)) : Prop := ∃ st, r = some st ∧ (∀ s ∈ st, SOk n u s) ∧ visS st ≤ u ∧ tauS st ≤ u * u
theorem steps_ok (L N : Nat) (hL : 1000001 < L) (ds : List Tree) (hd : DefsW ds) (t : Tree) (k : Nat) (h : WT t k) (hk : k ≤ 24) (hcl : CL (ds.length : Int) false t) (m : Nat) (hm : 60 ≤ m) :
    Res (ds.length : Int) 576 (f142 L N m t ds) := ⟨_, stepsS L N hL ds hd t k h hk hcl m hm, (steps_bnd ds hd t k h hk hcl).1, (steps_bnd ds hd t k h hk hcl).2⟩
end Go.Proofs.YtffkhhblppfbfaaGreatDoor.Ev
namespace Go.Proofs.YtffkhhblppfbfaaGreatDoor.Ev
open Go
set_option linter.unusedVariables false
set_option linter.unusedSimpArgs false
end Go.Proofs.YtffkhhblppfbfaaGreatDoor.Ev
namespace Go.Proofs.YtffkhhblppfbfaaGreatDoor.Ev
open Go
set_option linter.unusedVariables false
set_option linter.unusedSimpArgs false
def upM (k : Int) (n : Nat) : List Move := (List.range n).map fun (i : Nat) => Move.mk (k + 2 * (i : Int)) (k + 2 * (i : Int) + 1)
theorem upM_len (k : Int) (n : Nat) : (upM k n).length = n := by simp [upM]
def Mk : Int → List (List Move) → Int → Prop
  | k, [], j => j = k
  | k, r :: rs, j => r = upM k r.length ∧ Mk (k + 2 * (r.length : Int)) rs j
theorem Mk.le : ∀ {k j : Int} {rs : List (List Move)}, Mk k rs j → k ≤ j
  | k, j, [], h => by have h : j = k := h; omega
  | k, j, r :: rs, h => by have := Mk.le h.2; omega
theorem Mk.snoc : ∀ {k j : Int} {rs : List (List Move)} (n : Nat), Mk k rs j → Mk k (rs ++ [upM j n]) (j + 2 * (n : Int))
  | k, j, [], n, h => by
    have h : j = k := h
    subst h
    exact ⟨by rw [upM_len], by rw [upM_len]; exact rfl⟩
  | k, j, r :: rs, n, h => ⟨h.1, Mk.snoc n h.2⟩
end Go.Proofs.YtffkhhblppfbfaaGreatDoor.Ev
namespace Go.Proofs.YtffkhhblppfbfaaGreatDoor.Ev
open Go
set_option linter.unusedVariables false
set_option linter.unusedSimpArgs false
def Rises (l : List Int) : Prop := l.Pairwise (· < ·)
theorem rises_ext : ∀ {a b : List Int}, Rises a → Rises b → (∀ x, x ∈ a ↔ x ∈ b) → a = b
  | [], [], _, _, _ => rfl
  | [], y :: b, _, _, h => absurd ((h y).2 (.head _)) (by simp)
  | x :: a, [], _, _, h => absurd ((h x).1 (.head _)) (by simp)
  | x :: a, y :: b, ha, hb, h => by
    have ha' := List.pairwise_cons.1 ha
    have hb' := List.pairwise_cons.1 hb
    have hxy : x = y := by
      rcases List.mem_cons.1 ((h x).1 (.head _)) with e | e
      · exact e
      · rcases List.mem_cons.1 ((h y).2 (.head _)) with e' | e'
        · exact e'.symm
        · have := hb'.1 x e; have := ha'.1 y e'; omega
    subst hxy
    refine congrArg (x :: ·) (rises_ext ha'.2 hb'.2 fun z => ?_)
    have := h z
    simp only [List.mem_cons] at this
    constructor
    · intro hz
      rcases this.1 (.inr hz) with e | e
      · have := ha'.1 z hz; omega
      · exact e
    · intro hz
      rcases this.2 (.inr hz) with e | e
      · have := hb'.1 z hz; omega
      · exact e
def Tr (l : List Bool) (t : Nat) : Prop := l.getD t false = true
theorem Tr_lt {l : List Bool} {t : Nat} (h : Tr l t) : t < l.length := by
  unfold Tr at h
  rw [List.getD_eq_getElem?_getD] at h
  by_cases hl : t < l.length
  · exact hl
  · rw [List.getElem?_eq_none (by omega)] at h; cases h
theorem Tr_set {l : List Bool} {j t : Nat} (hj : j < l.length) : Tr (l.set j true) t ↔ t = j ∨ Tr l t := by
  unfold Tr
  rw [List.getD_eq_getElem?_getD, List.getD_eq_getElem?_getD]
  by_cases h : t = j
  · subst h; rw [List.getElem?_set_self hj]; simp
  · rw [List.getElem?_set_ne (Ne.symm h)]; simp [h]
theorem Tr_replicate (n t : Nat) : ¬ Tr (List.replicate n false) t := by
  unfold Tr
  rw [List.getD_eq_getElem?_getD, List.getElem?_replicate]
  split <;> simp
def cnt : List Bool → Nat
  | [] => 0
  | b :: r => (bif b then 1 else 0) + cnt r
theorem cnt_le : ∀ l : List Bool, cnt l ≤ l.length
  | [] => Nat.le_refl _
  | b :: r => by have := cnt_le r; cases b <;> simp [cnt] <;> omega
theorem cnt_set : ∀ (l : List Bool) (j : Nat), j < l.length → l.getD j false = false → cnt (l.set j true) = cnt l + 1
  | b :: r, 0, _, h => by
    have hb : b = false := h
    subst hb
    simp [cnt]; omega
  | b :: r, j + 1, hj, h => by
    have := cnt_set r j (by simpa using hj) (by simpa using h)
    simp only [List.set_cons_succ, cnt, this]; omega
theorem cnt_replicate (n : Nat) : cnt (List.replicate n false) = 0 := by
  induction n with
  | zero => rfl
  | succ n ih => rw [List.replicate_succ]; simp [cnt, ih]
inductive Slip (ms : List (List Move)) (X : Nat → Prop) : Nat → Prop
  | base (t : Nat) (h : X t) : Slip ms X t
  | step (s t : Nat) (hs : Slip ms X s) (hl : s < ms.length) (k : Nat) (hk : k < (ms[s]).length) (ha : (ms[s])[k].act = 0) (ht : (ms[s])[k].to = (t : Int)) : Slip ms X t
theorem Slip.mono {ms : List (List Move)} {X Y : Nat → Prop} (h : ∀ t, X t → Y t) {t : Nat} (r : Slip ms X t) : Slip ms Y t := by
  induction r with
  | base t hx => exact .base t (h t hx)
  | step s t _ hl k hk ha ht ih => exact .step s t ih hl k hk ha ht
theorem Slip.iff {ms : List (List Move)} {X Y : Nat → Prop} (h : ∀ t, X t ↔ Y t) (t : Nat) : Slip ms X t ↔ Slip ms Y t := ⟨fun r => r.mono fun t hx => (h t).1 hx, fun r => r.mono fun t hx => (h t).2 hx⟩
def Leads (ms : List (List Move)) : Prop := ms.length ≤ 60 ∧ ∀ (i : Nat) (hi : i < ms.length), (ms[i]).length ≤ 1048576 ∧ ∀ (k : Nat) (hk : k < (ms[i]).length), 0 ≤ (ms[i])[k].to ∧ (ms[i])[k].to < (ms.length : Int)
theorem leads_of {g : Graph} (h : graphOk g = true) (hs : g.moves.length + gsize g.moves ≤ 1048576) : Leads g.moves := by
  obtain ⟨h1, h2, h3⟩ := graphOk_mv h
  refine ⟨h2, fun i hi => ⟨?_, fun k hk => ?_⟩⟩
  · have := gsize_row _ (List.getElem_mem hi); omega
  · have := h3 i hi k hk; exact ⟨this.2.2.1, this.2.2.2⟩
theorem Leads.nat {ms : List (List Move)} (h : Leads ms) {i : Nat} (hi : i < ms.length) {k : Nat} (hk : k < (ms[i]).length) : ∃ t : Nat, (ms[i])[k].to = (t : Int) ∧ t < ms.length := by
  obtain ⟨h1, h2⟩ := (h.2 i hi).2 k hk
  obtain ⟨t, ht⟩ := Int.eq_ofNat_of_zero_le h1
  exact ⟨t, ht, by omega⟩
def ClosedAt (ms : List (List Move)) (out : List Bool) (s n : Nat) : Prop := ∀ (hs : s < ms.length) (k : Nat) (hk : k < (ms[s]).length), k < n → Tr out s → (ms[s])[k].act = 0 → ∀ t : Nat, (ms[s])[k].to = (t : Int) → Tr out t
theorem slip2_ok (L N : Nat) (ms : List (List Move)) (x : List Bool) (hm : Leads ms) (hx : x.length = ms.length) (hL : 1048576 < L) :
    ∃ out, f89 L N ⟨ms⟩ x = some out ∧ out.length = ms.length ∧ ∀ t, Tr out t ↔ Slip ms (Tr x) t := by
  have hlim := lim_eq
  have hn := hm.1
  show ∃ out, f89.b L N some ⟨ms⟩ x = some out ∧ _
  unfold f89.b f89.b'
  have hle : decide (([] : List Bool).length + x.length ≤ lim) = true := dt (by simp only [List.length_nil]; omega)
  simp only [hle, cond_true, List.nil_append]
  have round : ∀ (m : Nat) (out0 : List Bool), out0.length = ms.length → (∀ t, Tr out0 t → Slip ms (Tr x) t) →
      ∃ st : Bool × List Bool, f89.l1 L N (fun z8 z9 z10 => f89.p1_e2 L N (fun z3 => f89.p0_e0 L N some z3) (f89.l0 L N (fun z3 => f89.p0_e0 L N some z3) m) z8 z9 z10) L false (0 : Int) ms out0 = f89.l0 L N (fun z3 => f89.p0_e0 L N some z3) m st.1 ms st.2 ∧
        st.2.length = ms.length ∧ (∀ t, Tr st.2 t → Slip ms (Tr x) t) ∧ (∀ t, Tr out0 t → Tr st.2 t) ∧ cnt out0 + (bif st.1 then 1 else 0) ≤ cnt st.2 ∧ (st.1 = false → st.2 = out0 ∧ ∀ s, ClosedAt ms st.2 s 1048577) := by
    intro m out0 h0 hs0
    obtain ⟨st, h1, h2, h3, h4, h5, h6⟩ := inv_loop (l := fun n i st => f89.l1 L N (fun z8 z9 z10 => f89.p1_e2 L N (fun z3 => f89.p0_e0 L N some z3) (f89.l0 L N (fun z3 => f89.p0_e0 L N some z3) m) z8 z9 z10) n st.1 i ms st.2) (len := ms.length)
      (K := fun st : Bool × List Bool => f89.l0 L N (fun z3 => f89.p0_e0 L N some z3) m st.1 ms st.2)
      (fun i st => st.2.length = ms.length ∧ (∀ t, Tr st.2 t → Slip ms (Tr x) t) ∧ (∀ t, Tr out0 t → Tr st.2 t) ∧ cnt out0 + (bif st.1 then 1 else 0) ≤ cnt st.2 ∧ (st.1 = false → st.2 = out0 ∧ ∀ s, s < i → ClosedAt ms st.2 s 1048577))
      (fun n i st hi ⟨p1, p2, p3, p4, p5⟩ => by
        obtain ⟨st', q1, q2, q3, q4, q5, q6⟩ := inv_loop (l := fun n' k st => f89.l2 L N (fun z16 z17 z18 z19 => f89.p2_e4 L N (fun z8 z9 z10 => f89.p1_e2 L N (fun z3 => f89.p0_e0 L N some z3) (f89.l0 L N (fun z3 => f89.p0_e0 L N some z3) m) z8 z9 z10) (f89.l1 L N (fun z8 z9 z10 => f89.p1_e2 L N (fun z3 => f89.p0_e0 L N some z3) (f89.l0 L N (fun z3 => f89.p0_e0 L N some z3) m) z8 z9 z10) n) z16 z17 z18 z19) n' st.1 (i : Int) k ms st.2) (len := (ms[i]).length)
          (K := fun st : Bool × List Bool => f89.l1 L N (fun z8 z9 z10 => f89.p1_e2 L N (fun z3 => f89.p0_e0 L N some z3) (f89.l0 L N (fun z3 => f89.p0_e0 L N some z3) m) z8 z9 z10) n st.1 ((i + 1 : Nat) : Int) ms st.2)
          (fun k st => st.2.length = ms.length ∧ (∀ t, Tr st.2 t → Slip ms (Tr x) t) ∧ (∀ t, Tr out0 t → Tr st.2 t) ∧ cnt out0 + (bif st.1 then 1 else 0) ≤ cnt st.2 ∧ (st.1 = false → st.2 = out0 ∧ (∀ s, s < i → ClosedAt ms st.2 s 1048577) ∧ ClosedAt ms st.2 i k))
          (fun n' k st hk ⟨r1, r2, r3, r4, r5⟩ => by
            show ∃ s', f89.s2 L N _ (f89.l2 L N _ n') st.1 (i : Int) k ms st.2 = _ ∧ _
            unfold f89.s2 f89.s2'
            obtain ⟨t, ht, htl⟩ := hm.nat hi hk
            have hrow := (hm.2 i hi).1
            simp only [le0, lt_cast hi, lt_cast hk, lt_cast (show i < st.2.length by omega), Bool.and_true, Bool.true_and, cond_true, Int.toNat_natCast, at_lt hi, at_lt hk, ht, lt_cast (show t < st.2.length by omega), atD]
            unfold f89.j0'
            simp only [le0, lt_cast (show t < st.2.length by omega), Bool.and_true, cond_true, Int.toNat_natCast, wi_nat (show k < 9223372036854775807 by omega)]
            have stay : ¬ (Tr st.2 i ∧ (ms[i])[k].act = 0 ∧ ¬ Tr st.2 t) → ∃ s' : Bool × List Bool, f89.l2 L N (fun z16 z17 z18 z19 => f89.p2_e4 L N (fun z8 z9 z10 => f89.p1_e2 L N (fun z3 => f89.p0_e0 L N some z3) (f89.l0 L N (fun z3 => f89.p0_e0 L N some z3) m) z8 z9 z10) (f89.l1 L N (fun z8 z9 z10 => f89.p1_e2 L N (fun z3 => f89.p0_e0 L N some z3) (f89.l0 L N (fun z3 => f89.p0_e0 L N some z3) m) z8 z9 z10) n) z16 z17 z18 z19) n' st.1 (i : Int) ((k + 1 : Nat) : Int) ms st.2 = f89.l2 L N (fun z16 z17 z18 z19 => f89.p2_e4 L N (fun z8 z9 z10 => f89.p1_e2 L N (fun z3 => f89.p0_e0 L N some z3) (f89.l0 L N (fun z3 => f89.p0_e0 L N some z3) m) z8 z9 z10) (f89.l1 L N (fun z8 z9 z10 => f89.p1_e2 L N (fun z3 => f89.p0_e0 L N some z3) (f89.l0 L N (fun z3 => f89.p0_e0 L N some z3) m) z8 z9 z10) n) z16 z17 z18 z19) n' s'.1 (i : Int) ((k + 1 : Nat) : Int) ms s'.2 ∧
                (s'.2.length = ms.length ∧ (∀ t, Tr s'.2 t → Slip ms (Tr x) t) ∧ (∀ t, Tr out0 t → Tr s'.2 t) ∧ cnt out0 + (bif s'.1 then 1 else 0) ≤ cnt s'.2 ∧ (s'.1 = false → s'.2 = out0 ∧ (∀ s, s < i → ClosedAt ms s'.2 s 1048577) ∧ ClosedAt ms s'.2 i (k + 1))) := by
              intro hno
              refine ⟨st, rfl, r1, r2, r3, r4, fun hst => ?_⟩
              obtain ⟨u1, u2, u3⟩ := r5 hst
              refine ⟨u1, u2, fun hs k' hk' hlt htr hact t' ht' => ?_⟩
              by_cases hkk : k' = k
              · subst hkk
                rw [ht] at ht'
                obtain rfl : t = t' := by omega
                by_cases hT : Tr st.2 t
                · exact hT
                · exact absurd ⟨htr, hact, hT⟩ hno
              · exact u3 hs k' hk' (by omega) htr hact t' ht'
            cases hi2 : st.2.getD i false
            · simp only [cond_false]
              exact stay fun h => by have := h.1; unfold Tr at this; rw [hi2] at this; cases this
            · simp only [cond_true]
              by_cases ha : (ms[i])[k].act = 0
              · have hb : ((ms[i])[k].act == 0) = true := by simpa using ha
                rw [hb]
                simp only [cond_true]
                cases ht2 : st.2.getD t false
                · simp only [Bool.not_false, cond_true]
                  have hTi : Tr st.2 i := hi2
                  refine ⟨(true, st.2.set t true), rfl, by simp [r1], fun t' ht' => ?_, fun t' ht' => ?_, ?_, fun h => by cases h⟩
                  · rcases (Tr_set (by omega)).1 ht' with rfl | h
                    · exact .step i t' (r2 i hTi) hi k hk ha ht
                    · exact r2 t' h
                  · exact (Tr_set (by omega)).2 (.inr (r3 t' ht'))
                  · show cnt out0 + 1 ≤ cnt (st.2.set t true)
                    rw [cnt_set _ _ (by omega) ht2]
                    cases h9 : st.1 <;> rw [h9] at r4 <;> simp at r4 <;> omega
                · simp only [Bool.not_true, cond_false]
                  exact stay fun h => h.2.2 ht2
              · have hb : ((ms[i])[k].act == 0) = false := by simpa using ha
                rw [hb]
                simp only [cond_false]
                exact stay fun h => ha h.2.1)
          (fun n' st _ => by
            show f89.s2 L N _ (f89.l2 L N _ n') st.1 (i : Int) (ms[i]).length ms st.2 = _
            unfold f89.s2 f89.s2'
            simp only [le0, lt_cast hi, Bool.and_true, cond_true, Int.toNat_natCast, at_lt hi, ge_cast (Nat.lt_irrefl _), cond_false]
            show f89.l1 L N _ n st.1 (wi ((i : Int) + 1)) ms st.2 = _
            rw [wi_nat (by omega)])
          L 0 st (by have := (hm.2 i hi).1; omega) (by omega) ⟨p1, p2, p3, p4, fun h => ⟨(p5 h).1, (p5 h).2, fun _ _ _ h' => by omega⟩⟩
        refine ⟨st', ?_, q2, q3, q4, q5, fun h => ⟨(q6 h).1, fun s hs => ?_⟩⟩
        · show f89.s1 L N _ (f89.l1 L N _ n) st.1 i ms st.2 = _
          unfold f89.s1 f89.s1'
          simp only [lt_cast (show i < st.2.length by omega), cond_true]
          exact q1
        · by_cases hsi : s = i
          · subst hsi
            intro hs' k hk hlt
            exact (q6 h).2.2 hs' k hk hk
          · exact (q6 h).2.1 s (by omega))
      (fun n st hP => by
        show f89.s1 L N _ (f89.l1 L N _ n) st.1 ms.length ms st.2 = _
        unfold f89.s1 f89.s1'
        rw [hP.1]
        simp only [ge_cast (Nat.lt_irrefl _), cond_false]
        rfl)
      L 0 (false, out0) (by omega) (by omega) ⟨h0, hs0, fun t h => h, by simp, fun _ => ⟨rfl, fun s h => by omega⟩⟩
    exact ⟨st, h1, h2, h3, h4, h5, fun h => ⟨(h6 h).1, fun s hs k hk hlt => (h6 h).2 s hs hs k hk hlt⟩⟩
  have all : ∀ (m : Nat) (out0 : List Bool), out0.length = ms.length → ms.length + 1 - cnt out0 < m → (∀ t, Tr out0 t → Slip ms (Tr x) t) → (∀ t, Tr x t → Tr out0 t) →
      ∃ out, f89.l0 L N (fun z3 => f89.p0_e0 L N some z3) m true ms out0 = some out ∧ out.length = ms.length ∧ ∀ t, Tr out t ↔ Slip ms (Tr x) t := by
    intro m
    induction m with
    | zero => intro out0 _ h; omega
    | succ m ih =>
      intro out0 h0 hc hs0 hb0
      have hcl := cnt_le out0
      obtain ⟨st, h1, h2, h3, h4, h5, h6⟩ := round m out0 h0 hs0
      have hcl2 := cnt_le st.2
      show ∃ out, f89.s0 L N _ (f89.l0 L N _ m) true ms out0 = some out ∧ _
      unfold f89.s0 f89.s0'
      simp only [cond_true]
      rw [h1]
      cases hst : st.1
      · obtain ⟨e1, e2⟩ := h6 hst
        obtain ⟨m', rfl⟩ : ∃ m', m = m' + 1 := ⟨m - 1, by omega⟩
        refine ⟨st.2, rfl, h2, fun t => ⟨h3 t, fun r => ?_⟩⟩
        induction r with
        | base t hx => exact h4 t (hb0 t hx)
        | step s t _ hl k hk ha ht ihr => exact e2 s hl k hk (by have := (hm.2 s hl).1; omega) ihr ha t ht
      · rw [hst] at h5
        simp only [cond_true] at h5
        exact ih st.2 h2 (by omega) h3 fun t hx => h4 t (hb0 t hx)
  exact all L x hx (by omega) (fun t h => .base t h) fun t h => h
def Mv (ms : List (List Move)) (s : Nat) (a : Int) (t : Nat) : Prop := ∃ (hs : s < ms.length) (k : Nat) (hk : k < (ms[s]).length), (ms[s])[k].act = a ∧ (ms[s])[k].to = (t : Int)
theorem Mv.lt {ms : List (List Move)} (hm : Leads ms) {s t : Nat} {a : Int} (h : Mv ms s a t) : s < ms.length ∧ t < ms.length := by
  obtain ⟨hs, k, hk, -, ht⟩ := h
  have := (hm.2 s hs).2 k hk
  exact ⟨hs, by omega⟩
theorem slip_ind {ms : List (List Move)} {X P : Nat → Prop} (h0 : ∀ t, X t → P t) (h1 : ∀ s t, P s → Mv ms s 0 t → P t) {t : Nat} (h : Slip ms X t) : P t := by
  induction h with
  | base t hx => exact h0 t hx
  | step s t _ hl k hk ha ht ih => exact h1 s t ih ⟨hl, k, hk, ha, ht⟩
end Go.Proofs.YtffkhhblppfbfaaGreatDoor.Ev
namespace Go.Proofs.YtffkhhblppfbfaaGreatDoor.Ev
open Go
set_option linter.unusedVariables false
set_option linter.unusedSimpArgs false
def QOk (ms : List (List Move)) (seen : List Bool) (q : List Int) : Prop := seen.length = ms.length ∧ (∀ v ∈ q, ∃ t : Nat, v = (t : Int) ∧ Tr seen t) ∧ (∀ t : Nat, Tr seen t → (t : Int) ∈ q) ∧ q.length = cnt seen ∧ q.Nodup
theorem QOk.add {ms : List (List Move)} {seen : List Bool} {q : List Int} (h : QOk ms seen q) {t : Nat} (ht : t < ms.length) (hf : seen.getD t false = false) : QOk ms (seen.set t true) (q ++ [(t : Int)]) := by
  obtain ⟨h1, h2, h3, h4, h5⟩ := h
  refine ⟨by simp [h1], fun v hv => ?_, fun t' ht' => ?_, ?_, ?_⟩
  · rcases List.mem_append.1 hv with hv | hv
    · obtain ⟨s, rfl, hs⟩ := h2 v hv
      exact ⟨s, rfl, (Tr_set (by omega)).2 (.inr hs)⟩
    · obtain rfl := List.mem_singleton.1 hv
      exact ⟨t, rfl, (Tr_set (by omega)).2 (.inl rfl)⟩
  · rcases (Tr_set (by omega)).1 ht' with rfl | h
    · exact List.mem_append_right _ (List.mem_singleton.2 rfl)
    · exact List.mem_append_left _ (h3 t' h)
  · rw [List.length_append, cnt_set _ _ (by omega) hf, h4]; rfl
  · refine List.nodup_append.2 ⟨h5, by simp, fun a ha b hb e => ?_⟩
    obtain rfl := List.mem_singleton.1 hb
    obtain ⟨s, hs, hT⟩ := h2 a ha
    obtain rfl : s = t := by omega
    unfold Tr at hT
    rw [hf] at hT; cases hT
theorem QOk.len {ms : List (List Move)} {seen : List Bool} {q : List Int} (h : QOk ms seen q) : q.length ≤ ms.length := by
  have := cnt_le seen
  obtain ⟨h1, -, -, h4, -⟩ := h
  omega
theorem sortI_rises {q : List Int} (h : q.Nodup) : Rises (sortI q) := by
  have h1 : (sortI q).Pairwise fun a b => decide (a ≤ b) = true := List.pairwise_mergeSort (fun a b c hab hbc => by simp only [decide_eq_true_eq] at *; omega) (fun a b => by simp only [Bool.or_eq_true, decide_eq_true_eq]; omega) q
  have h2 : (sortI q).Nodup := (List.mergeSort_perm q _).nodup_iff.2 h
  exact (h1.and h2).imp fun {a b} hab => by have := of_decide_eq_true hab.1; have := hab.2; omega
theorem slip1_ok (L N : Nat) (ms : List (List Move)) (list : List Int) (hm : Leads ms) (hl : ∀ v ∈ list, 0 ≤ v ∧ v < (ms.length : Int)) (hLl : list.length < L) (hll : list.length ≤ lim) (hL : 1048576 < L) :
    ∃ q, f81 L N ⟨ms⟩ list = some q ∧ q.length ≤ ms.length ∧ (∀ v ∈ q, 0 ≤ v ∧ v < (ms.length : Int)) ∧ (∀ t : Nat, (t : Int) ∈ q ↔ Slip ms (fun s => (s : Int) ∈ list) t) ∧ Rises q := by
  have hlim := lim_eq
  have hn := hm.1
  show ∃ q, f81.b L N some ⟨ms⟩ list = some q ∧ _
  unfold f81.b f81.b'
  have h0 : (decide ((0 : Int) ≤ (ms.length : Int)) && decide ((ms.length : Int) ≤ (lim : Int))) = true := by rw [le0, dt (by omega)]; rfl
  simp only [h0, cond_true]
  have work : ∀ (m k : Nat) (seen : List Bool) (q : List Int), k ≤ q.length → ms.length + 1 - k < m → QOk ms seen q → (∀ v ∈ q, ∃ t : Nat, v = (t : Int) ∧ Slip ms (fun s => (s : Int) ∈ list) t) → (∀ v ∈ list, v ∈ q) →
      (∀ (j : Nat) (hj : j < q.length), j < k → ∀ s : Nat, q[j] = (s : Int) → ∀ (hs : s < ms.length) (i : Nat) (hi : i < (ms[s]).length), (ms[s])[i].act = 0 → ∀ t : Nat, (ms[s])[i].to = (t : Int) → Tr seen t) →
      ∃ r, f81.l1 L N (fun z19 => f81.p1_e2 L N some z19) m (k : Int) ms seen q = some r ∧ r.length ≤ ms.length ∧ (∀ v ∈ r, 0 ≤ v ∧ v < (ms.length : Int)) ∧ (∀ t : Nat, (t : Int) ∈ r ↔ Slip ms (fun s => (s : Int) ∈ list) t) ∧ Rises r := by
    intro m
    induction m with
    | zero => intro k seen q _ h; omega
    | succ m ih =>
      intro k seen q hk hmk hq hsl hba hpr
      have hql := hq.len
      show ∃ r, f81.s1 L N _ (f81.l1 L N _ m) (k : Int) ms seen q = some r ∧ _
      unfold f81.s1 f81.s1'
      by_cases hlt : k < q.length
      · obtain ⟨s, hs, hTs⟩ := hq.2.1 _ (List.getElem_mem hlt)
        have hsn : s < ms.length := by have := Tr_lt hTs; rw [hq.1] at this; exact this
        have hrow := (hm.2 s hsn).1
        simp only [lt_cast hlt, le0, Bool.and_true, cond_true, Int.toNat_natCast, at_lt hlt, hs, lt_cast hsn, at_lt hsn]
        obtain ⟨t0, hst0, hslip0⟩ := hsl _ (List.getElem_mem hlt)
        obtain rfl : s = t0 := by rw [hs] at hst0; omega
        obtain ⟨st, g1, g2, g3, g4, g5, g6⟩ := inv_loop (l := fun n' i st => f81.l2 L N (fun z27 z28 z29 z30 => f81.p2_e4 L N (fun z19 => f81.p1_e2 L N some z19) (f81.l1 L N (fun z19 => f81.p1_e2 L N some z19) m) z27 z28 z29 z30) n' (k : Int) ms[s] ((ms[s]).length : Int) i ms st.1 st.2) (len := (ms[s]).length)
          (K := fun st : List Bool × List Int => f81.l1 L N (fun z19 => f81.p1_e2 L N some z19) m ((k + 1 : Nat) : Int) ms st.1 st.2)
          (fun i st => QOk ms st.1 st.2 ∧ (∀ v ∈ st.2, ∃ t : Nat, v = (t : Int) ∧ Slip ms (fun s => (s : Int) ∈ list) t) ∧ (∀ j : Nat, j < q.length → st.2[j]? = q[j]?) ∧ (∀ t, Tr seen t → Tr st.1 t) ∧ ∀ (i' : Nat) (hi' : i' < (ms[s]).length), i' < i → (ms[s])[i'].act = 0 → ∀ t : Nat, (ms[s])[i'].to = (t : Int) → Tr st.1 t)
          (fun n' i st hi ⟨r1, r2, r3, r4, r5⟩ => by
            show ∃ s', f81.s2 L N _ (f81.l2 L N _ n') (k : Int) ms[s] ((ms[s]).length : Int) i ms st.1 st.2 = _ ∧ _
            unfold f81.s2 f81.s2'
            obtain ⟨t, ht, htl⟩ := hm.nat hsn hi
            have hsl1 := r1.1
            simp only [le0, lt_cast hi, Bool.and_true, Bool.true_and, cond_true, Int.toNat_natCast, at_lt hi, ht, lt_cast (show t < st.1.length by omega), atD]
            unfold f81.j0'
            simp only [le0, lt_cast (show t < st.1.length by omega), Bool.and_true, cond_true, Int.toNat_natCast, wi_nat (show i < 9223372036854775807 by omega)]
            have stay : ¬ ((ms[s])[i].act = 0 ∧ ¬ Tr st.1 t) → (QOk ms st.1 st.2 ∧ (∀ v ∈ st.2, ∃ t : Nat, v = (t : Int) ∧ Slip ms (fun s => (s : Int) ∈ list) t) ∧ (∀ j : Nat, j < q.length → st.2[j]? = q[j]?) ∧ (∀ t, Tr seen t → Tr st.1 t) ∧ ∀ (i' : Nat) (hi' : i' < (ms[s]).length), i' < i + 1 → (ms[s])[i'].act = 0 → ∀ t : Nat, (ms[s])[i'].to = (t : Int) → Tr st.1 t) := by
              intro hno
              refine ⟨r1, r2, r3, r4, fun i' hi' hlt' ha' t' ht' => ?_⟩
              by_cases he : i' = i
              · subst he
                rw [ht] at ht'
                obtain rfl : t = t' := by omega
                by_cases hT : Tr st.1 t
                · exact hT
                · exact absurd ⟨ha', hT⟩ hno
              · exact r5 i' hi' (by omega) ha' t' ht'
            by_cases ha : (ms[s])[i].act = 0
            · have hb : ((ms[s])[i].act == 0) = true := by simpa using ha
              rw [hb]
              simp only [cond_true]
              cases ht2 : st.1.getD t false
              · have hqq := r1.len
                have hle : decide (st.2.length + ([(t : Int)] : List Int).length ≤ lim) = true := dt (by simp only [List.length_cons, List.length_nil]; omega)
                simp only [Bool.not_false, cond_true, hle]
                refine ⟨(st.1.set t true, st.2 ++ [(t : Int)]), rfl, r1.add htl ht2, fun v hv => ?_, fun j hj => ?_, fun t' ht' => (Tr_set (by omega)).2 (.inr (r4 t' ht')), fun i' hi' hlt' ha' t' ht' => ?_⟩
                · rcases List.mem_append.1 hv with hv | hv
                  · exact r2 v hv
                  · obtain rfl := List.mem_singleton.1 hv
                    exact ⟨t, rfl, .step s t hslip0 hsn i hi ha ht⟩
                · have hjl : j < st.2.length := by
                    have := r3 j hj
                    rw [List.getElem?_eq_getElem hj] at this
                    exact (List.getElem?_eq_some_iff.1 this).1
                  show (st.2 ++ [(t : Int)])[j]? = q[j]?
                  rw [List.getElem?_append_left hjl]; exact r3 j hj
                · by_cases he : i' = i
                  · subst he
                    rw [ht] at ht'
                    obtain rfl : t = t' := by omega
                    exact (Tr_set (by omega)).2 (.inl rfl)
                  · exact (Tr_set (by omega)).2 (.inr (r5 i' hi' (by omega) ha' t' ht'))
              · simp only [Bool.not_true, cond_false]
                exact ⟨st, rfl, stay fun h => h.2 ht2⟩
            · have hb : ((ms[s])[i].act == 0) = false := by simpa using ha
              rw [hb]
              simp only [cond_false]
              exact ⟨st, rfl, stay fun h => ha h.1⟩)
          (fun n' st _ => by
            show f81.s2 L N _ (f81.l2 L N _ n') (k : Int) ms[s] ((ms[s]).length : Int) (ms[s]).length ms st.1 st.2 = _
            unfold f81.s2 f81.s2'
            simp only [ge_cast (Nat.lt_irrefl _), cond_false]
            show f81.l1 L N _ m (wi ((k : Int) + 1)) ms st.1 st.2 = _
            rw [wi_nat (by omega)])
          L 0 (seen, q) (by omega) (by omega) ⟨hq, hsl, fun _ _ => rfl, fun _ h => h, fun _ _ h => by omega⟩
        have hlen : q.length ≤ st.2.length := by
          by_cases h0 : q.length = 0
          · omega
          · have := g4 (q.length - 1) (by omega)
            rw [List.getElem?_eq_getElem (show q.length - 1 < q.length by omega)] at this
            have := (List.getElem?_eq_some_iff.1 this).1
            omega
        refine (fun ⟨r, h1, h2⟩ => ⟨r, g1.trans h1, h2⟩ : (∃ r, _ = some r ∧ _) → ∃ r, _ = some r ∧ _) (ih (k + 1) st.1 st.2 (by omega) (by omega) g2 g3 (fun v hv => ?_) (fun j hj hjk s' hs' hsl' i hi ha t ht => ?_))
        · obtain ⟨j, hj, rfl⟩ := List.mem_iff_getElem.1 (hba v hv)
          have := g4 j hj
          rw [List.getElem?_eq_getElem hj] at this
          exact List.mem_of_getElem? this
        · by_cases hjk' : j = k
          · subst hjk'
            have := g4 j hlt
            rw [List.getElem?_eq_getElem hlt, List.getElem?_eq_getElem hj] at this
            have h9 : st.2[j] = q[j] := Option.some.inj this
            rw [hs', hs] at h9
            obtain rfl : s' = s := by omega
            exact g6 i hi hi ha t ht
          · have hjq : j < q.length := by omega
            have := g4 j hjq
            rw [List.getElem?_eq_getElem hjq, List.getElem?_eq_getElem hj] at this
            have h9 : st.2[j] = q[j] := Option.some.inj this
            exact g5 t (hpr j hjq (by omega) s' (by rw [← h9]; exact hs') hsl' i hi ha t ht)
      · have hkl : k = q.length := by omega
        subst hkl
        simp only [ge_cast (Nat.lt_irrefl _), cond_false]
        have hfs : fsort q = some () := by unfold fsort; rw [dt (by omega)]; rfl
        refine ⟨sortI q, ?_, by rw [sortI_length]; exact hql, fun v hv => ?_, fun t => ?_, sortI_rises hq.2.2.2.2⟩
        · show ((fsort q).bind fun _ => some (sortI q)) = _
          rw [hfs]; rfl
        · obtain ⟨t, rfl, hT⟩ := hq.2.1 v ((sortI_mem q v).1 hv)
          have := Tr_lt hT
          rw [hq.1] at this
          omega
        · rw [sortI_mem]
          constructor
          · intro h
            obtain ⟨t', h1, h2⟩ := hsl _ h
            obtain rfl : t = t' := by omega
            exact h2
          · intro r
            refine hq.2.2.1 t ?_
            induction r with
            | base t hx =>
              obtain ⟨t', h1, h2⟩ := hq.2.1 _ (hba _ hx)
              obtain rfl : t = t' := by omega
              exact h2
            | step s t _ hs i hi ha ht ihr =>
              obtain ⟨j, hj, hjs⟩ := List.mem_iff_getElem.1 (hq.2.2.1 s ihr)
              exact hpr j hj hj s hjs hs i hi ha t ht
  obtain ⟨st, g1, g2, g3, g4⟩ := inv_loop (l := fun n i st => f81.l0 L N (fun z6 z7 z8 => f81.p0_e0 L N some z6 z7 z8) n list (list.length : Int) i ms st.1 st.2) (len := list.length)
    (K := fun st : List Bool × List Int => f81.l1 L N (fun z19 => f81.p1_e2 L N some z19) L (0 : Int) ms st.1 st.2)
    (fun i st => QOk ms st.1 st.2 ∧ (∀ v ∈ st.2, v ∈ list) ∧ ∀ (j : Nat) (hj : j < list.length), j < i → list[j] ∈ st.2)
    (fun n i st hi ⟨r1, r2, r3⟩ => by
      show ∃ s', f81.s0 L N _ (f81.l0 L N _ n) list (list.length : Int) i ms st.1 st.2 = _ ∧ _
      unfold f81.s0 f81.s0'
      obtain ⟨h1, h2⟩ := hl _ (List.getElem_mem hi)
      obtain ⟨t, ht⟩ := Int.eq_ofNat_of_zero_le h1
      have htl : t < ms.length := by omega
      have hsl1 := r1.1
      have hqq := r1.len
      have hle : decide (st.2.length + ([(t : Int)] : List Int).length ≤ lim) = true := dt (by simp only [List.length_cons, List.length_nil]; omega)
      simp only [le0, lt_cast hi, Bool.and_true, Bool.true_and, cond_true, Int.toNat_natCast, at_lt hi, ht, lt_cast (show t < st.1.length by omega), atD, hle, wi_nat (show i < 9223372036854775807 by omega)]
      cases ht2 : st.1.getD t false
      · simp only [Bool.not_false, cond_true]
        refine ⟨(st.1.set t true, st.2 ++ [(t : Int)]), rfl, r1.add htl ht2, fun v hv => ?_, fun j hj hji => ?_⟩
        · rcases List.mem_append.1 hv with hv | hv
          · exact r2 v hv
          · obtain rfl := List.mem_singleton.1 hv
            rw [← ht]; exact List.getElem_mem hi
        · by_cases he : j = i
          · subst he
            rw [ht]; exact List.mem_append_right _ (List.mem_singleton.2 rfl)
          · exact List.mem_append_left _ (r3 j hj (by omega))
      · simp only [Bool.not_true, cond_false]
        refine ⟨st, rfl, r1, r2, fun j hj hji => ?_⟩
        by_cases he : j = i
        · subst he
          rw [ht]; exact r1.2.2.1 t ht2
        · exact r3 j hj (by omega))
    (fun n st _ => by
      show f81.s0 L N _ (f81.l0 L N _ n) list (list.length : Int) list.length ms st.1 st.2 = _
      unfold f81.s0 f81.s0'
      simp only [ge_cast (Nat.lt_irrefl _), cond_false]
      rfl)
    L 0 (List.replicate ms.length false, []) (by omega) (by omega)
    ⟨⟨by simp, fun v hv => by simp at hv, fun t h => absurd h (Tr_replicate _ t), by rw [cnt_replicate]; rfl, List.nodup_nil⟩, fun v hv => by simp at hv, fun _ _ h => by omega⟩
  have e0 : ((ms.length : Int)).toNat = ms.length := rfl
  rw [e0]
  refine (show ∃ q, _ = some q ∧ _ from ?_)
  have h1 := work L 0 st.1 st.2 (by omega) (by omega) g2 (fun v hv => by
    obtain ⟨t, rfl, -⟩ := g2.2.1 v hv
    exact ⟨t, rfl, .base t (g3 _ hv)⟩) (fun v hv => by
    obtain ⟨j, hj, rfl⟩ := List.mem_iff_getElem.1 hv
    exact g4 j hj hj) (fun _ _ h => by omega)
  obtain ⟨r, h2, h3⟩ := h1
  exact ⟨r, g1.trans h2, h3⟩
end Go.Proofs.YtffkhhblppfbfaaGreatDoor.Ev
namespace Go.Proofs.YtffkhhblppfbfaaGreatDoor.Ev
open Go
set_option linter.unusedVariables false
set_option linter.unusedSimpArgs false
end Go.Proofs.YtffkhhblppfbfaaGreatDoor.Ev
namespace Go.Proofs.YtffkhhblppfbfaaGreatDoor.Ev
open Go
set_option linter.unusedVariables false
set_option linter.unusedSimpArgs false
def StepX (ms : List (List Move)) (X : Nat → Prop) (a : Int) (t : Nat) : Prop := ∃ s, X s ∧ ∃ (hs : s < ms.length) (k : Nat) (hk : k < (ms[s]).length), (ms[s])[k].act = a ∧ (ms[s])[k].to = (t : Int)
theorem StepX.iff {ms : List (List Move)} {X Y : Nat → Prop} (h : ∀ t, X t ↔ Y t) (a : Int) (t : Nat) : StepX ms X a t ↔ StepX ms Y a t :=
  ⟨fun ⟨s, hx, r⟩ => ⟨s, (h s).1 hx, r⟩, fun ⟨s, hx, r⟩ => ⟨s, (h s).2 hx, r⟩⟩
theorem after_ok (L N : Nat) (ms : List (List Move)) (set : List Int) (a : Int) (hm : Leads ms) (hs : set.length ≤ ms.length) (hr : ∀ v ∈ set, 0 ≤ v ∧ v < (ms.length : Int)) (hL : 268435456 ≤ L) :
    ∃ q, f54 L N ⟨ms⟩ set a = some q ∧ q.length ≤ ms.length ∧ (∀ v ∈ q, 0 ≤ v ∧ v < (ms.length : Int)) ∧ (∀ t : Nat, (t : Int) ∈ q ↔ Slip ms (StepX ms (fun s => (s : Int) ∈ set) a) t) ∧ Rises q := by
  have hlim := lim_eq
  have hn := hm.1
  show ∃ q, f54.b L N some ⟨ms⟩ set a = some q ∧ _
  unfold f54.b f54.b'
  obtain ⟨to, g1, g2, g3⟩ := inv_loop (l := fun n i to => f54.l0 L N (fun z6 z7 => f54.p0_e0 L N some z6 z7) n a set (set.length : Int) i ms to) (len := set.length)
    (K := fun to : List Int => f54.p0_e0 L N some ms to)
    (fun i to => to.length ≤ i * 1048576 ∧ ∀ v : Int, v ∈ to ↔ ∃ (j : Nat) (hj : j < set.length), j < i ∧ ∃ s : Nat, set[j] = (s : Int) ∧ ∃ (hs : s < ms.length) (k : Nat) (hk : k < (ms[s]).length), (ms[s])[k].act = a ∧ (ms[s])[k].to = v)
    (fun n i to hi ⟨p1, p2⟩ => by
      show ∃ s', f54.s0 L N _ (f54.l0 L N _ n) a set (set.length : Int) i ms to = _ ∧ _
      unfold f54.s0 f54.s0'
      obtain ⟨h1, h2⟩ := hr _ (List.getElem_mem hi)
      obtain ⟨s, hse⟩ := Int.eq_ofNat_of_zero_le h1
      have hsn : s < ms.length := by omega
      have hrow := (hm.2 s hsn).1
      simp only [le0, lt_cast hi, Bool.and_true, cond_true, Int.toNat_natCast, at_lt hi, hse, lt_cast hsn, at_lt hsn]
      obtain ⟨to', q1, q2, q3⟩ := inv_loop (l := fun n' k to => f54.l1 L N (fun z17 z18 z19 z20 z21 z22 => f54.p1_e2 L N (fun z6 z7 => f54.p0_e0 L N some z6 z7) (f54.l0 L N (fun z6 z7 => f54.p0_e0 L N some z6 z7) n) z17 z18 z19 z20 z21 z22) n' a set (set.length : Int) (i : Int) ms[s] ((ms[s]).length : Int) k ms to) (len := (ms[s]).length)
        (K := fun to : List Int => f54.l0 L N (fun z6 z7 => f54.p0_e0 L N some z6 z7) n a set (set.length : Int) ((i + 1 : Nat) : Int) ms to)
        (fun k to' => to'.length ≤ i * 1048576 + k ∧ ∀ v : Int, v ∈ to' ↔ (v ∈ to ∨ ∃ (k' : Nat) (hk' : k' < (ms[s]).length), k' < k ∧ (ms[s])[k'].act = a ∧ (ms[s])[k'].to = v))
        (fun n' k to' hk ⟨r1, r2⟩ => by
          show ∃ s', f54.s1 L N _ (f54.l1 L N _ n') a set (set.length : Int) (i : Int) ms[s] ((ms[s]).length : Int) k ms to' = _ ∧ _
          unfold f54.s1 f54.s1'
          have hle : decide (to'.length + ([(ms[s])[k].to] : List Int).length ≤ lim) = true := dt (by simp only [List.length_cons, List.length_nil]; omega)
          simp only [le0, lt_cast hk, Bool.and_true, cond_true, Int.toNat_natCast, at_lt hk, hle, wi_nat (show k < 9223372036854775807 by omega)]
          by_cases ha : (ms[s])[k].act = a
          · have hb : ((ms[s])[k].act == a) = true := by simpa using ha
            rw [hb]
            simp only [cond_true]
            refine ⟨to' ++ [(ms[s])[k].to], rfl, by simp only [List.length_append, List.length_cons, List.length_nil]; omega, fun v => ?_⟩
            rw [List.mem_append, r2 v, List.mem_singleton]
            constructor
            · rintro ((h | ⟨k', hk', hlt, h⟩) | h)
              · exact .inl h
              · exact .inr ⟨k', hk', by omega, h⟩
              · exact .inr ⟨k, hk, by omega, ha, h.symm⟩
            · rintro (h | ⟨k', hk', hlt, h1, h2⟩)
              · exact .inl (.inl h)
              · by_cases he : k' = k
                · subst he; exact .inr h2.symm
                · exact .inl (.inr ⟨k', hk', by omega, h1, h2⟩)
          · have hb : ((ms[s])[k].act == a) = false := by simpa using ha
            rw [hb]
            simp only [cond_false]
            refine ⟨to', rfl, by omega, fun v => ?_⟩
            rw [r2 v]
            constructor
            · rintro (h | ⟨k', hk', hlt, h⟩)
              · exact .inl h
              · exact .inr ⟨k', hk', by omega, h⟩
            · rintro (h | ⟨k', hk', hlt, h1, h2⟩)
              · exact .inl h
              · by_cases he : k' = k
                · subst he; exact absurd h1 ha
                · exact .inr ⟨k', hk', by omega, h1, h2⟩)
        (fun n' to' _ => by
          show f54.s1 L N _ (f54.l1 L N _ n') a set (set.length : Int) (i : Int) ms[s] ((ms[s]).length : Int) (ms[s]).length ms to' = _
          unfold f54.s1 f54.s1'
          simp only [ge_cast (Nat.lt_irrefl _), cond_false]
          show f54.l0 L N _ n a set (set.length : Int) (wi ((i : Int) + 1)) ms to' = _
          rw [wi_nat (by omega)])
        L 0 to (by omega) (by omega) ⟨by rw [Nat.add_zero]; exact p1, fun v => ⟨fun h => .inl h, fun h => by
          rcases h with h | ⟨k', _, hlt, -⟩
          · exact h
          · omega⟩⟩
      refine ⟨to', q1, by omega, fun v => ?_⟩
      rw [q3 v, p2 v]
      constructor
      · rintro (⟨j, hj, hlt, h⟩ | ⟨k', hk', -, h1, h2⟩)
        · exact ⟨j, hj, by omega, h⟩
        · exact ⟨i, hi, by omega, s, hse, hsn, k', hk', h1, h2⟩
      · rintro ⟨j, hj, hlt, s', hs', hsl', k', hk', h1, h2⟩
        by_cases he : j = i
        · subst he
          rw [hse] at hs'
          obtain rfl : s = s' := by omega
          exact .inr ⟨k', hk', hk', h1, h2⟩
        · exact .inl ⟨j, hj, by omega, s', hs', hsl', k', hk', h1, h2⟩)
    (fun n to _ => by
      show f54.s0 L N _ (f54.l0 L N _ n) a set (set.length : Int) set.length ms to = _
      unfold f54.s0 f54.s0'
      simp only [ge_cast (Nat.lt_irrefl _), cond_false])
    L 0 [] (by omega) (by omega) ⟨by simp, fun v => ⟨fun h => by simp at h, fun ⟨_, _, h, _⟩ => by omega⟩⟩
  have hto : ∀ v ∈ to, 0 ≤ v ∧ v < (ms.length : Int) := fun v hv => by
    obtain ⟨j, hj, -, s, -, hsn, k, hk, -, rfl⟩ := (g3 v).1 hv
    exact (hm.2 s hsn).2 k hk
  obtain ⟨q, e1, e2, e3, e4, e5⟩ := slip1_ok L N ms to hm hto (by omega) (by omega) (by omega)
  refine ⟨q, g1.trans ?_, e2, e3, fun t => ?_, e5⟩
  · show ((f81 L N ⟨ms⟩ to).bind fun y => some y) = _
    rw [e1]; rfl
  · rw [e4 t]
    refine Slip.iff (fun t => ?_) t
    rw [g3]
    constructor
    · rintro ⟨j, hj, -, s, hs, hsl, k, hk, h1, h2⟩
      exact ⟨s, by show (s : Int) ∈ set; rw [← hs]; exact List.getElem_mem hj, hsl, k, hk, h1, h2⟩
    · rintro ⟨s, hx, hsl, k, hk, h1, h2⟩
      obtain ⟨j, hj, hjs⟩ := List.mem_iff_getElem.1 hx
      exact ⟨j, hj, hj, s, hjs, hsl, k, hk, h1, h2⟩
theorem do8_ok (L N : Nat) (ms : List (List Move)) (x : List Bool) (a : Int) (hm : Leads ms) (hx : x.length = ms.length) (hL : 268435456 ≤ L) :
    ∃ out, f60 L N ⟨ms⟩ x a = some out ∧ out.length = ms.length ∧ ∀ t, Tr out t ↔ Slip ms (StepX ms (Tr x) a) t := by
  have hlim := lim_eq
  have hn := hm.1
  show ∃ out, f60.b L N some ⟨ms⟩ x a = some out ∧ _
  unfold f60.b f60.b'
  have h0 : (decide ((0 : Int) ≤ (x.length : Int)) && decide ((x.length : Int) ≤ (lim : Int))) = true := by rw [le0, dt (by omega)]; rfl
  simp only [h0, cond_true]
  obtain ⟨out, g1, g2, g3⟩ := inv_loop (l := fun n i out => f60.l0 L N (fun z5 z6 => f60.p0_e0 L N some z5 z6) n x a i ms out) (len := x.length)
    (K := fun out : List Bool => f60.p0_e0 L N some ms out)
    (fun i out => out.length = ms.length ∧ ∀ t : Nat, Tr out t ↔ ∃ s, s < i ∧ Tr x s ∧ ∃ (hs : s < ms.length) (k : Nat) (hk : k < (ms[s]).length), (ms[s])[k].act = a ∧ (ms[s])[k].to = (t : Int))
    (fun n s out hs ⟨p1, p2⟩ => by
      show ∃ s', f60.s0 L N _ (f60.l0 L N _ n) x a s ms out = _ ∧ _
      unfold f60.s0 f60.s0'
      have hsn : s < ms.length := by omega
      have hrow := (hm.2 s hsn).1
      simp only [lt_cast hs, cond_true]
      obtain ⟨out', q1, q2, q3⟩ := inv_loop (l := fun n' k out => f60.l1 L N (fun z13 z14 z15 z16 z17 => f60.p1_e2 L N (fun z5 z6 => f60.p0_e0 L N some z5 z6) (f60.l0 L N (fun z5 z6 => f60.p0_e0 L N some z5 z6) n) z13 z14 z15 z16 z17) n' x a (s : Int) k ms out) (len := (ms[s]).length)
        (K := fun out : List Bool => f60.l0 L N (fun z5 z6 => f60.p0_e0 L N some z5 z6) n x a ((s + 1 : Nat) : Int) ms out)
        (fun k out' => out'.length = ms.length ∧ ∀ t : Nat, Tr out' t ↔ (Tr out t ∨ (Tr x s ∧ ∃ (k' : Nat) (hk' : k' < (ms[s]).length), k' < k ∧ (ms[s])[k'].act = a ∧ (ms[s])[k'].to = (t : Int))))
        (fun n' k out' hk ⟨r1, r2⟩ => by
          show ∃ s', f60.s1 L N _ (f60.l1 L N _ n') x a (s : Int) k ms out' = _ ∧ _
          unfold f60.s1 f60.s1'
          obtain ⟨t0, ht0, htl⟩ := hm.nat hsn hk
          simp only [le0, lt_cast hsn, lt_cast hs, lt_cast hk, Bool.and_true, Bool.true_and, cond_true, Int.toNat_natCast, at_lt hsn, at_lt hk, atD]
          unfold f60.j0'
          simp only [le0, lt_cast hsn, lt_cast hk, Bool.and_true, Bool.true_and, cond_true, Int.toNat_natCast, at_lt hsn, at_lt hk, ht0, lt_cast (show t0 < out'.length by omega), wi_nat (show k < 9223372036854775807 by omega)]
          have stay : ¬ (Tr x s ∧ (ms[s])[k].act = a) → (out'.length = ms.length ∧ ∀ t : Nat, Tr out' t ↔ (Tr out t ∨ (Tr x s ∧ ∃ (k' : Nat) (hk' : k' < (ms[s]).length), k' < k + 1 ∧ (ms[s])[k'].act = a ∧ (ms[s])[k'].to = (t : Int)))) := by
            intro hno
            refine ⟨r1, fun t => ?_⟩
            rw [r2 t]
            constructor
            · rintro (h | ⟨hx, k', hk', hlt, h⟩)
              · exact .inl h
              · exact .inr ⟨hx, k', hk', by omega, h⟩
            · rintro (h | ⟨hx, k', hk', hlt, h1, h2⟩)
              · exact .inl h
              · by_cases he : k' = k
                · subst he; exact absurd ⟨hx, h1⟩ hno
                · exact .inr ⟨hx, k', hk', by omega, h1, h2⟩
          cases hxs : x.getD s false
          · simp only [cond_false]
            exact ⟨out', rfl, stay fun h => by have := h.1; unfold Tr at this; rw [hxs] at this; cases this⟩
          · simp only [cond_true]
            by_cases ha : (ms[s])[k].act = a
            · have hb : ((ms[s])[k].act == a) = true := by simpa using ha
              rw [hb]
              simp only [cond_true]
              refine ⟨out'.set t0 true, rfl, by simp [r1], fun t => ?_⟩
              rw [Tr_set (by omega), r2 t]
              constructor
              · rintro (rfl | h | ⟨hx, k', hk', hlt, h⟩)
                · exact .inr ⟨hxs, k, hk, by omega, ha, ht0⟩
                · exact .inl h
                · exact .inr ⟨hx, k', hk', by omega, h⟩
              · rintro (h | ⟨hx, k', hk', hlt, h1, h2⟩)
                · exact .inr (.inl h)
                · by_cases he : k' = k
                  · subst he
                    rw [ht0] at h2
                    exact .inl (by omega)
                  · exact .inr (.inr ⟨hx, k', hk', by omega, h1, h2⟩)
            · have hb : ((ms[s])[k].act == a) = false := by simpa using ha
              rw [hb]
              simp only [cond_false]
              exact ⟨out', rfl, stay fun h => ha h.2⟩)
        (fun n' out' _ => by
          show f60.s1 L N _ (f60.l1 L N _ n') x a (s : Int) (ms[s]).length ms out' = _
          unfold f60.s1 f60.s1'
          simp only [le0, lt_cast hsn, Bool.and_true, cond_true, Int.toNat_natCast, at_lt hsn, ge_cast (Nat.lt_irrefl _), cond_false]
          show f60.l0 L N _ n x a (wi ((s : Int) + 1)) ms out' = _
          rw [wi_nat (by omega)])
        L 0 out (by omega) (by omega) ⟨p1, fun t => ⟨fun h => .inl h, fun h => by
          rcases h with h | ⟨-, k', _, hlt, -⟩
          · exact h
          · omega⟩⟩
      refine ⟨out', q1, q2, fun t => ?_⟩
      rw [q3 t, p2 t]
      constructor
      · rintro (⟨s', hlt, h⟩ | ⟨hx, k', hk', -, h1, h2⟩)
        · exact ⟨s', by omega, h⟩
        · exact ⟨s, by omega, hx, hsn, k', hk', h1, h2⟩
      · rintro ⟨s', hlt, hx, hsl', k', hk', h1, h2⟩
        by_cases he : s' = s
        · subst he; exact .inr ⟨hx, k', hk', hk', h1, h2⟩
        · exact .inl ⟨s', by omega, hx, hsl', k', hk', h1, h2⟩)
    (fun n out _ => by
      show f60.s0 L N _ (f60.l0 L N _ n) x a x.length ms out = _
      unfold f60.s0 f60.s0'
      simp only [ge_cast (Nat.lt_irrefl _), cond_false])
    L 0 (List.replicate x.length false) (by omega) (by omega) ⟨by simp [hx], fun t => ⟨fun h => absurd h (Tr_replicate _ t), fun ⟨_, h, _⟩ => by omega⟩⟩
  obtain ⟨r, e1, e2, e3⟩ := slip2_ok L N ms out hm g2 (by omega)
  have e0 : ((x.length : Int)).toNat = x.length := rfl
  rw [e0]
  refine ⟨r, g1.trans ?_, e2, fun t => ?_⟩
  · show ((f89 L N ⟨ms⟩ out).bind fun y => some y) = _
    rw [e1]; rfl
  · rw [e3 t]
    refine Slip.iff (fun t => ?_) t
    rw [g3]
    constructor
    · rintro ⟨s, -, hx, h⟩; exact ⟨s, hx, h⟩
    · rintro ⟨s, hx, hs, h⟩; exact ⟨s, by have := Tr_lt hx; omega, hx, hs, h⟩
end Go.Proofs.YtffkhhblppfbfaaGreatDoor.Ev
namespace Go.Proofs.YtffkhhblppfbfaaGreatDoor.Ev
open Go
set_option linter.unusedVariables false
set_option linter.unusedSimpArgs false
theorem list8_ok (L N : Nat) (b : List Bool) (hb : b.length ≤ 1048576) (hL : 1048576 < L) : ∃ q, f91 L N b = some q ∧ (∀ x : Int, x ∈ q ↔ ∃ t : Nat, x = (t : Int) ∧ Tr b t) ∧ Rises q ∧ q.length ≤ b.length := by
  have hlim := lim_eq
  show ∃ q, f91.b L N some b = some q ∧ _
  unfold f91.b f91.b'
  have key : ∀ (n i : Nat) (q : List Int), i ≤ b.length → b.length - i < n → (∀ x : Int, x ∈ q ↔ ∃ t : Nat, t < i ∧ x = (t : Int) ∧ Tr b t) → Rises q → q.length ≤ i →
      ∃ r, f91.l0 L N (fun z3 => f91.p0_e0 L N some z3) n b (i : Int) q = some r ∧ (∀ x : Int, x ∈ r ↔ ∃ t : Nat, x = (t : Int) ∧ Tr b t) ∧ Rises r ∧ r.length ≤ b.length := by
    intro n
    induction n with
    | zero => intro i q _ h; omega
    | succ n ih =>
      intro i q hi hn hq hr hl
      show ∃ r, f91.s0 L N _ (f91.l0 L N _ n) b i q = some r ∧ _
      unfold f91.s0 f91.s0'
      by_cases hlt : i < b.length
      · have hle : decide (q.length + ([(i : Int)] : List Int).length ≤ lim) = true := dt (by simp only [List.length_cons, List.length_nil]; omega)
        simp only [lt_cast hlt, le0, cond_true, Bool.and_true, Int.toNat_natCast, atD, hle, wi_nat (show i < 9223372036854775807 by omega)]
        cases hb2 : b.getD i false
        · simp only [cond_false]
          refine ih (i + 1) q (by omega) (by omega) (fun x => ?_) hr (by omega)
          rw [hq x]
          constructor
          · rintro ⟨t, h1, h2, h3⟩; exact ⟨t, by omega, h2, h3⟩
          · rintro ⟨t, h1, h2, h3⟩
            by_cases e : t = i
            · subst e; unfold Tr at h3; rw [hb2] at h3; cases h3
            · exact ⟨t, by omega, h2, h3⟩
        · simp only [cond_true]
          refine ih (i + 1) (q ++ [(i : Int)]) (by omega) (by omega) (fun x => ?_) ?_ (by simp only [List.length_append, List.length_cons, List.length_nil]; omega)
          · rw [List.mem_append, hq x, List.mem_singleton]
            constructor
            · rintro (⟨t, h1, h2, h3⟩ | h)
              · exact ⟨t, by omega, h2, h3⟩
              · exact ⟨i, by omega, h, hb2⟩
            · rintro ⟨t, h1, h2, h3⟩
              by_cases e : t = i
              · subst e; exact .inr h2
              · exact .inl ⟨t, by omega, h2, h3⟩
          · refine List.pairwise_append.2 ⟨hr, by simp, fun x hx y hy => ?_⟩
            obtain ⟨t, h1, rfl, -⟩ := (hq x).1 hx
            obtain rfl := List.mem_singleton.1 hy
            omega
      · simp only [ge_cast hlt, cond_false]
        have hi' : i = b.length := by omega
        subst hi'
        refine ⟨q, rfl, fun x => ?_, hr, hl⟩
        rw [hq x]
        constructor
        · rintro ⟨t, -, h2, h3⟩; exact ⟨t, h2, h3⟩
        · rintro ⟨t, h2, h3⟩; exact ⟨t, Tr_lt h3, h2, h3⟩
  exact key L 0 [] (by omega) (by omega) (fun x => ⟨fun h => by simp at h, fun ⟨_, h, _⟩ => by omega⟩) List.Pairwise.nil (by simp)
end Go.Proofs.YtffkhhblppfbfaaGreatDoor.Ev
namespace Go.Proofs.YtffkhhblppfbfaaGreatDoor.Ev
open Go
set_option linter.unusedVariables false
set_option linter.unusedSimpArgs false
theorem less_irrefl (a : Move) : lessM a a = false := by unfold lessM; exact decide_eq_false (by omega)
theorem less_trans {a b c : Move} (h1 : lessM a b = true) (h2 : lessM b c = true) : lessM a c = true := by
  unfold lessM at *; have h1 := of_decide_eq_true h1; have h2 := of_decide_eq_true h2; exact decide_eq_true (by omega)
theorem less_tot {a b : Move} (h1 : lessM a b = false) (h2 : a ≠ b) : lessM b a = true := by
  unfold lessM at *
  have h1 := of_decide_eq_false h1
  obtain ⟨a1, a2⟩ := a
  obtain ⟨b1, b2⟩ := b
  have h2 : ¬ (a1 = b1 ∧ a2 = b2) := fun h => h2 (by rw [h.1, h.2])
  exact decide_eq_true (by simp only at h1 ⊢; omega)
theorem less_ne {a b : Move} (h : lessM a b = true) : a ≠ b := fun e => by rw [e, less_irrefl] at h; cases h
def RisesM (l : List Move) : Prop := l.Pairwise fun a b => lessM a b = true
theorem risesM_ext : ∀ {a b : List Move}, RisesM a → RisesM b → (∀ x, x ∈ a ↔ x ∈ b) → a = b
  | [], [], _, _, _ => rfl
  | [], y :: b, _, _, h => absurd ((h y).2 (.head _)) (by simp)
  | x :: a, [], _, _, h => absurd ((h x).1 (.head _)) (by simp)
  | x :: a, y :: b, ha, hb, h => by
    have ha' := List.pairwise_cons.1 ha
    have hb' := List.pairwise_cons.1 hb
    have hxy : x = y := by
      rcases List.mem_cons.1 ((h x).1 (.head _)) with e | e
      · exact e
      · rcases List.mem_cons.1 ((h y).2 (.head _)) with e' | e'
        · exact e'.symm
        · have q := less_trans (hb'.1 x e) (ha'.1 y e')
          rw [less_irrefl] at q; cases q
    subst hxy
    refine congrArg (x :: ·) (risesM_ext ha'.2 hb'.2 fun z => ?_)
    have := h z
    simp only [List.mem_cons] at this
    constructor
    · intro hz
      rcases this.1 (.inr hz) with e | e
      · exact absurd e.symm (less_ne (ha'.1 z hz))
      · exact e
    · intro hz
      rcases this.2 (.inr hz) with e | e
      · exact absurd e.symm (less_ne (hb'.1 z hz))
      · exact e
theorem len_asc {f : Move → Int} {B : Int} : ∀ {l : List Move} {b : Int}, (l.Pairwise fun x y => f x < f y) → (∀ x ∈ l, b ≤ f x ∧ f x < B) → b ≤ B → (l.length : Int) ≤ B - b
  | [], b, _, _, hb => by simp; omega
  | x :: l, b, hp, hb, hB => by
    obtain ⟨h1, h2⟩ := List.pairwise_cons.1 hp
    obtain ⟨h3, h4⟩ := hb x (.head _)
    have := len_asc (b := f x + 1) h2 (fun y hy => ⟨by have := h1 y hy; omega, (hb y (.tail _ hy)).2⟩) (by omega)
    rw [List.length_cons]
    omega
theorem risesM_len {l : List Move} (hr : RisesM l) (h : ∀ m ∈ l, -4 ≤ m.act ∧ m.act ≤ 4 ∧ 0 ≤ m.to ∧ m.to < 60) : l.length ≤ 540 := by
  have h1 : l.Pairwise fun x y => (x.act + 4) * 60 + x.to < (y.act + 4) * 60 + y.to := by
    refine List.Pairwise.imp_of_mem ?_ hr
    intro x y hx hy hxy
    unfold lessM at hxy
    have hxy := of_decide_eq_true hxy
    have := h x hx
    have := h y hy
    omega
  have := len_asc (B := 540) (b := 0) h1 (fun x hx => by have := h x hx; omega) (by omega)
  omega
theorem gsize_le {B : Nat} : ∀ {ms : List (List Move)}, (∀ r ∈ ms, r.length ≤ B) → gsize ms ≤ ms.length * B
  | [], _ => by simp [gsize]
  | r :: ms, h => by
    have h1 := h r (.head _)
    have h2 := gsize_le (B := B) (ms := ms) fun x hx => h x (.tail _ hx)
    unfold gsize at h2 ⊢
    rw [List.map_cons, List.sum_cons, List.length_cons, Nat.add_mul, Nat.one_mul]
    omega
theorem allN_of {q : Nat → Bool} {k i : Nat} (h : ∀ j, i ≤ j → j < i + k → q j = true) : allN q k i = true := (allN_eq (q' := fun _ => true) k i h).trans (allN_true k i)
theorem graphOk_mk {ms : List (List Move)} (h1 : 1 ≤ ms.length) (h2 : ms.length ≤ 60) (h : ∀ (i : Nat) (hi : i < ms.length), RisesM ms[i] ∧ ∀ m ∈ ms[i], mvOk ms.length m = true) : graphOk ⟨ms⟩ = true := by
  unfold graphOk
  rw [Bool.and_eq_true]
  refine ⟨dt ⟨h1, h2⟩, allN_of fun i _ hi => ?_⟩
  have hi' : i < ms.length := by simpa using hi
  show rowOk ms.length (ms.getD i []) = true
  rw [getD_lt hi']
  obtain ⟨a1, a2⟩ := h i hi'
  refine allN_of fun k _ hk => ?_
  have hk' : k < (ms[i]).length := by simpa using hk
  unfold atOk
  rw [getD_lt hk', a2 _ (List.getElem_mem hk'), Bool.true_and]
  by_cases e : k = 0
  · rw [dt e]; rfl
  · rw [getD_lt (show k - 1 < (ms[i]).length by omega), List.pairwise_iff_getElem.1 a1 (k - 1) k (by omega) hk' (by omega), Bool.or_true]
theorem l3s1 {R : Type} (L N : Nat) (K : List Move → Int → Int → List Move → Option R) (xs out : List Move) (i : Nat) (hi : i < xs.length) (ho : out.length < 9223372036854775807) :
    ∀ (n k : Nat), k ≤ out.length → k < n → (∀ j (hj : j < out.length), k ≤ j → lessM xs[i] out[j] = true) →
      ∃ a : Nat, a ≤ out.length ∧ (∀ j (hj : j < out.length), a ≤ j → lessM xs[i] out[j] = true) ∧ (∀ (h : 0 < a) (ha : a - 1 < out.length), lessM xs[i] out[a - 1] = false) ∧
        f28.l1 L N K n xs (i : Int) (k : Int) out = K xs (i : Int) (a : Int) out := by
  intro n
  induction n with
  | zero => intro k _ h; omega
  | succ n ih =>
    intro k hk hn hge
    show ∃ a : Nat, _ ∧ _ ∧ _ ∧ f28.s1 L N _ (f28.l1 L N _ n) xs (i : Int) (k : Int) out = _
    unfold f28.s1 f28.s1'
    by_cases h0 : 0 < k
    · have hk1 : k - 1 < out.length := by omega
      rw [show decide ((k : Int) > 0) = true from decide_eq_true (by omega)]
      simp only [cond_true, le0, lt_cast hi, Bool.and_true, pred_cast h0 (by omega), lt_cast hk1, Int.toNat_natCast, at_lt hi, at_lt hk1, less2_ok, Option.bind_some]
      cases hc : lessM xs[i] out[k - 1] with
      | true =>
        simp only [cond_true]
        refine ih (k - 1) (by omega) (by omega) fun j hj hkj => ?_
        by_cases e : j = k - 1
        · subst e; exact hc
        · exact hge j hj (by omega)
      | false =>
        simp only [cond_false]
        exact ⟨k, hk, hge, fun _ _ => hc, rfl⟩
    · have hk0 : k = 0 := by omega
      subst hk0
      rw [show decide (((0 : Nat) : Int) > 0) = false from rfl]
      simp only [cond_false]
      exact ⟨0, by omega, hge, fun h => absurd h (by omega), rfl⟩
theorem l3s2 {R : Type} (L N : Nat) (K : List Move → Int → Int → List Move → Option R) (xs out : List Move) (i : Int) (a : Nat) (ho : out.length < 9223372036854775806) :
    ∀ (n k : Nat) (l : List Move), l.length = out.length + 1 → a ≤ k → k ≤ out.length → k - a < n → (∀ j, j < k → l[j]? = out[j]?) → (∀ j, k < j → l[j]? = out[j - 1]?) →
      ∃ l' : List Move, l'.length = out.length + 1 ∧ (∀ j, j < a → l'[j]? = out[j]?) ∧ (∀ j, a < j → l'[j]? = out[j - 1]?) ∧
        f28.l2 L N K n xs i (a : Int) (k : Int) l = K xs i (a : Int) l' := by
  intro n
  induction n with
  | zero => intro k l _ _ _ h; omega
  | succ n ih =>
    intro k l hl hak hk hn h1 h2
    show ∃ l' : List Move, _ ∧ _ ∧ _ ∧ f28.s2 L N _ (f28.l2 L N _ n) xs i (a : Int) (k : Int) l = _
    unfold f28.s2 f28.s2'
    by_cases h0 : a < k
    · have hk1 : k - 1 < l.length := by omega
      have hk2 : k < l.length := by omega
      rw [show decide ((k : Int) > (a : Int)) = true from decide_eq_true (by omega)]
      simp only [cond_true, le0, pred_cast (show 0 < k by omega) (by omega), lt_cast hk1, lt_cast hk2, Bool.and_true, Int.toNat_natCast, at_lt hk1]
      refine ih (k - 1) _ (by simp [hl]) (by omega) (by omega) (by omega) (fun j hj => ?_) (fun j hj => ?_)
      · rw [List.getElem?_set_ne (by omega)]; exact h1 j (by omega)
      · by_cases e : j = k
        · subst e
          rw [List.getElem?_set_self hk2, ← h1 (j - 1) (by omega), List.getElem?_eq_getElem hk1]
        · rw [List.getElem?_set_ne (by omega)]; exact h2 j (by omega)
    · have hk0 : k = a := by omega
      subst hk0
      rw [show decide ((k : Int) > (k : Int)) = false from decide_eq_false (by omega)]
      simp only [cond_false]
      exact ⟨l, hl, h1, h2, rfl⟩
theorem ins_rises {out : List Move} {x : Move} {a : Nat} (hr : RisesM out) (ha : a ≤ out.length) (hge : ∀ j (hj : j < out.length), a ≤ j → lessM x out[j] = true) (hlt : ∀ (h : 0 < a) (hj : a - 1 < out.length), lessM out[a - 1] x = true) :
    RisesM (out.take a ++ x :: out.drop a) := by
  unfold RisesM
  rw [List.pairwise_append, List.pairwise_cons]
  have hd : ∀ y ∈ out.drop a, lessM x y = true := fun y hy => by
    obtain ⟨j, hj, rfl⟩ := List.mem_iff_getElem.1 hy
    rw [List.getElem_drop]
    exact hge _ _ (by omega)
  have ht : ∀ y ∈ out.take a, lessM y x = true := fun y hy => by
    obtain ⟨j, hj, rfl⟩ := List.mem_iff_getElem.1 hy
    rw [List.length_take] at hj
    rw [List.getElem_take]
    have h1 := hlt (by omega) (by omega)
    by_cases e : j = a - 1
    · subst e; exact h1
    · exact less_trans (List.pairwise_iff_getElem.1 hr j (a - 1) (by omega) (by omega) (by omega)) h1
  refine ⟨List.Pairwise.sublist (List.take_sublist _ _) hr, ⟨hd, List.Pairwise.sublist (List.drop_sublist _ _) hr⟩, fun y hy z hz => ?_⟩
  rcases List.mem_cons.1 hz with rfl | hz
  · exact ht y hy
  · exact less_trans (ht y hy) (hd z hz)
theorem l3Sorted_ok (L N : Nat) (xs : List Move) (hx : xs.length ≤ 1099511627776) (hL : xs.length + 2 < L) :
    ∃ ys, f28 L N xs = some ys ∧ RisesM ys ∧ (∀ v, v ∈ ys ↔ v ∈ xs) ∧ ys.length ≤ xs.length := by
  have hlim := lim_eq
  show ∃ ys, f28.b L N some xs = some ys ∧ _
  unfold f28.b f28.b'
  have key : ∀ (n i : Nat) (out : List Move), i ≤ xs.length → xs.length - i < n → out.length ≤ i → RisesM out → (∀ v, v ∈ out ↔ v ∈ xs.take i) →
      ∃ ys, f28.l0 L N (fun z3 => f28.p0_e0 L N some z3) n xs (i : Int) out = some ys ∧ RisesM ys ∧ (∀ v, v ∈ ys ↔ v ∈ xs) ∧ ys.length ≤ xs.length := by
    intro n
    induction n with
    | zero => intro i out _ h; omega
    | succ n ih =>
      intro i out hi hn hlen hr hmem
      show ∃ ys, f28.s0 L N _ (f28.l0 L N _ n) xs (i : Int) out = _ ∧ _
      unfold f28.s0 f28.s0'
      by_cases hlt : i < xs.length
      · simp only [lt_cast hlt, cond_true]
        obtain ⟨a, ha, hge, hla, e⟩ := l3s1 L N (fun z14 z15 z16 z17 => f28.p1_e2 L N (fun z3 => f28.p0_e0 L N some z3) (f28.l0 L N (fun z3 => f28.p0_e0 L N some z3) n) z14 z15 z16 z17) xs out i hlt (by omega) L out.length (Nat.le_refl _) (by omega) (fun j hj h => absurd hj (by omega))
        have hmem' : ∀ v, v ∈ xs.take (i + 1) ↔ v ∈ xs.take i ∨ v = xs[i] := fun v => by
          rw [List.take_add_one, List.getElem?_eq_getElem hlt]; simp only [Option.toList_some, List.mem_append, List.mem_singleton]
        have hwi : wi ((i : Int) + 1) = ((i + 1 : Nat) : Int) := wi_nat (by omega)
        rw [e]
        have tail : (∀ (h : 0 < a) (hj : a - 1 < out.length), lessM out[a - 1] xs[i] = true) → ∃ ys, f28.j0' L N (fun z3 => f28.p0_e0 L N some z3) (f28.l0 L N (fun z3 => f28.p0_e0 L N some z3) n) (f28.l2 L N (fun z36 z37 z38 z39 => f28.p2_e4 L N (fun z3 => f28.p0_e0 L N some z3) (f28.l0 L N (fun z3 => f28.p0_e0 L N some z3) n) z36 z37 z38 z39) L) xs (i : Int) (a : Int) out = some ys ∧ RisesM ys ∧ (∀ v, v ∈ ys ↔ v ∈ xs) ∧ ys.length ≤ xs.length := by
          intro hlt2
          unfold f28.j0'
          have hle : decide (out.length + ([(Move.mk (0 : Int) (0 : Int))] : (List Move)).length ≤ lim) = true := dt (by simp only [List.length_cons, List.length_nil]; omega)
          rw [hle, cond_true, List.length_append, show ([(Move.mk (0 : Int) (0 : Int))] : List Move).length = 1 from rfl, pred_cast (by omega) (by omega), show out.length + 1 - 1 = out.length by omega]
          obtain ⟨l', q1, q2, q3, e2⟩ := l3s2 L N (fun z36 z37 z38 z39 => f28.p2_e4 L N (fun z3 => f28.p0_e0 L N some z3) (f28.l0 L N (fun z3 => f28.p0_e0 L N some z3) n) z36 z37 z38 z39) xs out (i : Int) a (by omega) L out.length (out ++ [Move.mk 0 0]) (by simp) ha (Nat.le_refl _) (by omega)
            (fun j hj => by rw [List.getElem?_append_left hj]) (fun j hj => by rw [List.getElem?_eq_none (by simp; omega), List.getElem?_eq_none (by omega)])
          rw [e2]
          unfold f28.p2_e4 f28.p2_e4'
          have hal : a < l'.length := by omega
          simp only [le0, lt_cast hlt, lt_cast hal, Bool.and_true, cond_true, Int.toNat_natCast, at_lt hlt, hwi]
          have hset : l'.set a xs[i] = out.take a ++ xs[i] :: out.drop a := by
            apply List.ext_getElem?
            intro j
            rcases Nat.lt_trichotomy j a with h | h | h
            · rw [List.getElem?_set_ne (by omega), q2 j h, List.getElem?_append_left (by rw [List.length_take]; omega), List.getElem?_take, if_pos h]
            · subst h
              rw [List.getElem?_set_self hal, List.getElem?_append_right (by rw [List.length_take]; omega), List.length_take, show j - min j out.length = 0 by omega]
              rfl
            · rw [List.getElem?_set_ne (by omega), q3 j h, List.getElem?_append_right (by rw [List.length_take]; omega), List.length_take, show j - min a out.length = (j - 1 - a) + 1 by omega, List.getElem?_cons_succ, List.getElem?_drop, show a + (j - 1 - a) = j - 1 by omega]
          rw [hset]
          refine ih (i + 1) _ (by omega) (by omega) (by simp only [List.length_append, List.length_cons, List.length_take, List.length_drop]; omega) (ins_rises hr ha hge hlt2) fun v => ?_
          rw [hmem' v, ← hmem v, List.mem_append, List.mem_cons]
          constructor
          · rintro (h | h | h)
            · exact .inl (List.mem_of_mem_take h)
            · exact .inr h
            · exact .inl (List.mem_of_mem_drop h)
          · rintro (h | h)
            · rw [← List.take_append_drop a out, List.mem_append] at h
              rcases h with h | h
              · exact .inl h
              · exact .inr (.inr h)
            · exact .inr (.inl h)
        show ∃ ys, f28.p1_e2' L N _ _ _ xs (i : Int) (a : Int) out = some ys ∧ _
        unfold f28.p1_e2'
        by_cases h0 : 0 < a
        · have ha1 : a - 1 < out.length := by omega
          rw [show decide ((a : Int) > 0) = true from decide_eq_true (by omega)]
          simp only [cond_true, le0, pred_cast h0 (by omega), lt_cast ha1, lt_cast hlt, Bool.and_true, Int.toNat_natCast, at_lt ha1, at_lt hlt, hwi]
          cases hb : Move.eqb out[a - 1] xs[i] with
          | true =>
            simp only [cond_true]
            have he : out[a - 1] = xs[i] := by
              simp only [Move.eqb, Bool.and_eq_true, beq_iff_eq] at hb
              have h1 := hb.1; have h2 := hb.2
              rw [← mv_eta out[a - 1], ← mv_eta xs[i], h1, h2]
            refine ih (i + 1) out (by omega) (by omega) (by omega) hr fun v => ?_
            rw [hmem' v, ← hmem v]
            constructor
            · exact .inl
            · rintro (h | h)
              · exact h
              · rw [h, ← he]; exact List.getElem_mem ha1
          | false =>
            simp only [cond_false]
            refine tail fun h hj => less_tot (hla h hj) fun e => ?_
            rw [e] at hb
            simp [Move.eqb] at hb
        · rw [show decide ((a : Int) > 0) = false from decide_eq_false (by omega)]
          simp only [cond_false]
          exact tail fun h => absurd h h0
      · simp only [ge_cast hlt, cond_false]
        have hi' : i = xs.length := by omega
        subst hi'
        rw [List.take_length] at hmem
        exact ⟨out, rfl, hr, hmem, hlen⟩
  exact key L 0 [] (by omega) (by omega) (Nat.le_refl _) List.Pairwise.nil (fun v => by simp)
end Go.Proofs.YtffkhhblppfbfaaGreatDoor.Ev
namespace Go.Proofs.YtffkhhblppfbfaaGreatDoor.Ev
open Go
set_option linter.unusedVariables false
set_option linter.unusedSimpArgs false
def Fwd (r : List Move) : Prop := ∀ m ∈ r, 0 ≤ m.to
def SlimR (r : List Move) : Prop := r.length ≤ 540 ∧ Fwd r
def Slim (g : Graph) : Prop := g.moves.length ≤ 60 ∧ ∀ r ∈ g.moves, SlimR r
theorem Slim.size {g : Graph} (h : Slim g) : g.moves.length + gsize g.moves ≤ 1048576 := by
  have := gsize_le fun r hr => (h.2 r hr).1
  have := h.1
  omega
def Mv60 (row : List Move) : Prop := ∀ m ∈ row, -4 ≤ m.act ∧ m.act ≤ 4 ∧ 0 ≤ m.to ∧ m.to < 60
theorem sorted_slim (L N : Nat) {row : List Move} (hl : row.length ≤ 1000000) (hm : Mv60 row) (hL : 1000002 < L) : ∃ ys, f28 L N row = some ys ∧ SlimR ys := by
  obtain ⟨ys, e, h1, h2, -⟩ := l3Sorted_ok L N row (by omega) (by omega)
  exact ⟨ys, e, risesM_len h1 fun m hmm => hm m ((h2 m).1 hmm), fun m hmm => (hm m ((h2 m).1 hmm)).2.2.1⟩
def FinG (r : Option (Graph × Bool)) : Prop := ∃ g ok, r = some (g, ok) ∧ Slim g
def InvT (n : Int) (terms : List Tree) (keys : List ByteArray) : Prop := terms.length = keys.length ∧ terms.length ≤ 60 ∧ ∀ t ∈ terms, ∃ k, k ≤ 24 ∧ WT t k ∧ CL n false t
theorem search2 {R : Type} (L N : Nat) (K : List Tree → Int → Int → ByteArray → Int → List Tree → List ByteArray → List Step → List Move → List (List Move) → Option R) (ds : List Tree) (i j : Int) (key : ByteArray) (terms : List Tree) (keys : List ByteArray) (st : List Step) (row : List Move) (rows : List (List Move)) (hk : keys.length ≤ 60) :
    ∀ (n q : Nat), q ≤ keys.length → keys.length - q < n → ∃ q' : Nat, q' ≤ keys.length ∧ f112.l2 L N K n ds i j key (q : Int) terms keys st row rows = K ds i j key (q' : Int) terms keys st row rows := by
  intro n
  induction n with
  | zero => intro q _ h; omega
  | succ n ih =>
    intro q hq hn
    show ∃ q' : Nat, _ ∧ f112.s2 L N _ (f112.l2 L N _ n) ds i j key (q : Int) terms keys st row rows = _
    unfold f112.s2 f112.s2'
    by_cases hlt : q < keys.length
    · simp only [lt_cast hlt, le0, Bool.and_true, cond_true, Int.toNat_natCast]
      cases hc : (!((listAt keys ByteArray.empty q).toList == key.toList)) with
      | true => rw [cond_true, wi_nat (by omega)]; exact ih (q + 1) (by omega) (by omega)
      | false => rw [cond_false]; exact ⟨q, hq, rfl⟩
    · rw [ge_cast hlt, cond_false]; exact ⟨q, hq, rfl⟩
theorem inner1 (L N : Nat) (hN : 1000 ≤ N) (hL : 1000002 < L) (ds : List Tree) (nn : Int) (i : Int) (st : List Step) (rows : List (List Move))
    (Ke : List Tree → Int → List Tree → List ByteArray → List Move → List (List Move) → Option (Graph × Bool)) (Kr : List Tree → Bool → Int → List Tree → List ByteArray → List Move → List (List Move) → Option (Graph × Bool))
    (hst : ∀ s ∈ st, SOk nn 576 s) (hsl : st.length ≤ 400000)
    (hKe : ∀ terms keys row, InvT nn terms keys → row.length ≤ 400000 → Mv60 row → FinG (Ke ds i terms keys row rows)) (hKr : ∀ terms keys row, FinG (Kr ds false i terms keys row rows)) :
    ∀ (n j : Nat) (terms : List Tree) (keys : List ByteArray) (row : List Move), j ≤ st.length → st.length - j < n → InvT nn terms keys → row.length ≤ j → Mv60 row →
      FinG (f112.l1 L N Ke Kr n ds i (j : Int) terms keys st row rows) := by
  have hlim := lim_eq
  intro n
  induction n with
  | zero => intro j terms keys row _ h; omega
  | succ n ih =>
    intro j terms keys row hj hn hI hrl hrow
    obtain ⟨hk1, hk2, hk3⟩ := id hI
    show FinG (f112.s1 L N _ _ (f112.l1 L N _ _ n) ds i (j : Int) terms keys st row rows)
    unfold f112.s1 f112.s1'
    by_cases hlt : j < st.length
    · obtain ⟨hact, k', hw, hk', hcl⟩ := hst st[j] (List.getElem_mem hlt)
      have hnd := hw.nodes_eq
      obtain ⟨key, e, hks⟩ := l2Text_ok L N (by omega) (by omega) (st[j]).thn k' hw (by omega) N (by omega)
      simp only [lt_cast hlt, le0, Bool.and_true, cond_true, Int.toNat_natCast, at_lt hlt, tree_eta, e, Option.bind_some]
      obtain ⟨q, hq, e2⟩ := search2 L N (fun z44 z45 z46 z47 z48 z49 z50 z51 z52 z53 => f112.p2_e4 L N Ke Kr (f112.l1 L N Ke Kr n) z44 z45 z46 z47 z48 z49 z50 z51 z52 z53) ds i (j : Int) key terms keys st row rows (by omega) L 0 (by omega) (by omega)
      refine (fun h => by rw [show f112.l2 L N (fun z44 z45 z46 z47 z48 z49 z50 z51 z52 z53 => f112.p2_e4 L N Ke Kr (f112.l1 L N Ke Kr n) z44 z45 z46 z47 z48 z49 z50 z51 z52 z53) L ds i (j : Int) key (0 : Int) terms keys st row rows = _ from e2]; exact h : FinG (f112.p2_e4' L N Ke Kr (f112.l1 L N Ke Kr n) ds i (j : Int) key (q : Int) terms keys st row rows) → _) ?_
    
      have put : ∀ (terms' : List Tree) (keys' : List ByteArray), InvT nn terms' keys' → q < 60 → FinG (f112.j1' L N Ke Kr (f112.l1 L N Ke Kr n) ds i (j : Int) (q : Int) terms' keys' st row rows) := by
        intro terms' keys' hI' hq60
        unfold f112.j1'
        have hle : decide (row.length + ([Move.mk (st[j]).act (q : Int)] : List Move).length ≤ lim) = true := dt (by simp only [List.length_cons, List.length_nil]; omega)
        simp only [lt_cast hlt, le0, Bool.and_true, cond_true, Int.toNat_natCast, at_lt hlt, hle]
        rw [wi_nat (by omega)]
        refine ih (j + 1) terms' keys' _ (by omega) (by omega) hI' (by simp only [List.length_append, List.length_cons, List.length_nil]; omega) fun m hm => ?_
        rcases List.mem_append.1 hm with h | h
        · exact hrow m h
        · rw [List.mem_singleton.1 h]; exact ⟨hact.1, hact.2, by show (0 : Int) ≤ (q : Int); omega, by show (q : Int) < 60; omega⟩
      unfold f112.p2_e4'
      by_cases hqe : q = keys.length
      · rw [show ((q : Int) == (keys.length : Int)) = true by rw [hqe]; simp, cond_true]
        by_cases h60 : q = 60
        · rw [show ((q : Int) == 60) = true by rw [h60]; rfl, cond_true]
          exact hKr terms keys row
        · rw [show ((q : Int) == 60) = false by simp; omega, cond_false]
          obtain ⟨r, f, r0, r1, hr⟩ := l2Nodes_ok L N N (st[j]).thn (by omega) (by omega)
          simp only [lt_cast hlt, le0, Bool.and_true, cond_true, Int.toNat_natCast, at_lt hlt, tree_eta, f, Option.bind_some]
          by_cases h24 : r > 24
          · rw [dt h24, cond_true]; exact hKr terms keys row
          · rw [df h24, cond_false]
            unfold f112.j0'
            have hle1 : decide (terms.length + ([(st[j]).thn] : List Tree).length ≤ lim) = true := dt (by simp only [List.length_cons, List.length_nil]; omega)
            have hle2 : decide (keys.length + ([key] : List ByteArray).length ≤ lim) = true := dt (by simp only [List.length_cons, List.length_nil]; omega)
            simp only [lt_cast hlt, le0, Bool.and_true, cond_true, Int.toNat_natCast, at_lt hlt, tree_eta, hle1, hle2]
            have hk24 : k' ≤ 24 := by
              have h1 := l2Nodes_wt L N (by omega) (st[j]).thn k' hw (by omega) N (by omega)
              rw [f] at h1
              have h1 := Option.some.inj h1
              omega
            refine put _ _ ⟨by simp [hk1], by simp; omega, fun t ht => ?_⟩ (by omega)
            rcases List.mem_append.1 ht with h | h
            · exact hk3 t h
            · rw [List.mem_singleton.1 h]; exact ⟨k', hk24, hw, hcl⟩
      · rw [show ((q : Int) == (keys.length : Int)) = false by simp; omega, cond_false]
        exact put terms keys hI (by omega)
    · rw [ge_cast hlt, cond_false]
      exact hKe terms keys row hI (by omega) hrow
theorem l3Graph_ok (L N : Nat) (hN : 1000 ≤ N) (hL : 1000002 < L) (ds : List Tree) (hd : DefsW ds) (t : Tree) (k : Nat) (hk : k ≤ 24) (hw : WT t k) (hcl : CL (ds.length : Int) false t) : FinG (f112 L N t ds) := by
  have hlim := lim_eq
  obtain ⟨key, e, hks⟩ := l2Text_ok L N (by omega) (by omega) t k hw (by omega) N (by omega)
  show FinG (f112.b L N (fun a0 a1 => some (a0, a1)) t ds)
  unfold f112.b f112.b'
  simp only [tree_eta, e, Option.bind_some]
  have key0 : ∀ (n i : Nat) (terms : List Tree) (keys : List ByteArray) (rows : List (List Move)), i ≤ terms.length → 60 - i < n → InvT (ds.length : Int) terms keys → rows.length = i → (∀ r ∈ rows, SlimR r) →
      FinG (f112.l0 L N (fun z6 => f112.p0_e0 L N (fun a0 a1 => some (a0, a1)) z6) (fun z102 z103 => f112.p0_r L N (fun a0 a1 => some (a0, a1)) z102 z103) n ds (i : Int) terms keys rows) := by
    intro n
    induction n with
    | zero => intro i terms keys rows hi h hI; omega
    | succ n ih =>
      intro i terms keys rows hi hn hI hrl hrr
      obtain ⟨hk1, hk2, hk3⟩ := id hI
      show FinG (f112.s0 L N _ _ (f112.l0 L N _ _ n) ds (i : Int) terms keys rows)
      unfold f112.s0 f112.s0'
      by_cases hlt : i < terms.length
      · obtain ⟨k', hk', hw', hcl'⟩ := hk3 terms[i] (List.getElem_mem hlt)
        obtain ⟨st, f, hs, hv, ht⟩ := steps_ok L N (by omega) ds hd terms[i] k' hw' hk' hcl' N (by omega)
        have hsl := len_vt st
        simp only [lt_cast hlt, le0, Bool.and_true, cond_true, Int.toNat_natCast, at_lt hlt, f, Option.bind_some]
        refine inner1 L N hN hL ds (ds.length : Int) (i : Int) st rows _ _ hs (by omega) (fun terms' keys' row hI' hrow' hmv => ?_) (fun terms' keys' row => ?_) L 0 terms keys [] (by omega) (by omega) hI (by simp) (fun m hm => by cases hm)
        · show FinG (f112.p1_e2' L N _ _ _ ds (i : Int) terms' keys' row rows)
          unfold f112.p1_e2'
          obtain ⟨ys, g, hys⟩ := sorted_slim L N (by omega) hmv hL
          have hle : decide (rows.length + ([ys] : List (List Move)).length ≤ lim) = true := dt (by simp only [List.length_cons, List.length_nil]; omega)
          rw [g, Option.bind_some, hle, cond_true, wi_nat (by omega)]
          by_cases hgt : i + 1 ≤ terms'.length
          · refine ih (i + 1) terms' keys' _ hgt (by omega) hI' (by simp [hrl]) fun r hr => ?_
            rcases List.mem_append.1 hr with h | h
            · exact hrr r h
            · rw [List.mem_singleton.1 h]; exact hys
          · -- no terms are left: the loop ends at once
            obtain ⟨n', rfl⟩ : ∃ n', n = n' + 1 := ⟨n - 1, by omega⟩
            show FinG (f112.s0 L N _ _ (f112.l0 L N _ _ n') ds ((i + 1 : Nat) : Int) terms' keys' _)
            unfold f112.s0 f112.s0'
            rw [ge_cast (by omega), cond_false]
            refine ⟨_, _, rfl, by simp [hrl]; omega, fun r hr => ?_⟩
            rcases List.mem_append.1 hr with h | h
            · exact hrr r h
            · rw [List.mem_singleton.1 h]; exact hys
        · exact ⟨⟨[]⟩, false, rfl, by simp, fun r hr => by cases hr⟩
      · rw [ge_cast hlt, cond_false]
        exact ⟨⟨rows⟩, true, rfl, by show rows.length ≤ 60; omega, hrr⟩
  exact key0 L 0 [t] [key] [] (by simp) (by omega) ⟨rfl, by simp, fun x hx => by rw [List.mem_singleton.1 hx]; exact ⟨k, hk, hw, hcl⟩⟩ rfl (fun r hr => by cases hr)
theorem graphOf_ok (L N : Nat) (hN : 1000 ≤ N) (hL : 1000002 < L) (t : Tree) (ds : List Tree) (ht : nodes t ≤ 1000) (hd : ∀ d ∈ ds, nodes d ≤ 1000) (hdl : ds.length ≤ 1000) : FinG (f87 L N t ds) := by
  obtain ⟨r1, e1, h1⟩ := defsOk_ok L N ds hd hdl hN (by omega)
  obtain ⟨r2, e2, h2⟩ := fits_ok L N t (ds.length : Int) ht hN (by omega)
  have hask : f111 L N t ds = some (r1 && r2) := by
    show f111.b' L N some t ds = _
    unfold f111.b'
    rw [e1, Option.bind_some, tree_eta]
    cases r1 with
    | true => rw [cond_true, e2, Option.bind_some, Bool.true_and]
    | false => rfl
  show FinG (f87.b' L N (fun a0 a1 => some (a0, a1)) t ds)
  unfold f87.b'
  rw [tree_eta, hask, Option.bind_some]
  cases hr : (r1 && r2) with
  | false => rw [Bool.not_false, cond_true]; exact ⟨⟨[]⟩, false, rfl, by simp, fun r hr => by cases hr⟩
  | true =>
    rw [Bool.and_eq_true] at hr
    obtain ⟨k, hk, hw, -, hcl⟩ := h2 hr.2
    obtain ⟨g, ok, e, hg⟩ := l3Graph_ok L N hN hL ds (h1 hr.1) t k hk hw hcl
    rw [Bool.not_true, cond_false, e, Option.bind_some]
    exact ⟨_, _, rfl, hg⟩
theorem wild_draw (L N : Nat) (hL : 1000002 < L) {c : List Int} (hb : BOk c) {p : Int} (p0 : 0 ≤ p) (pb : p ≤ 1000000000) :
    ∃ g p', f88 L N c p (6 : Int) = some (g, c, p') ∧ p ≤ p' ∧ p' ≤ p + 1000 ∧ Slim g := by
  have hlim := lim_eq
  show ∃ g p', f88.b L N (fun a0 a1 a2 => some (a0, a1, a2)) c p (6 : Int) = _ ∧ _
  unfold f88.b f88.b'
  obtain ⟨r, hr, r0, r1⟩ := pick_ok L N hb (p := p) (n := 6) p0 (by omega) (by omega)
  obtain ⟨u, hu, u0, u1⟩ := pick_ok L N hb (p := p + 1) (n := 2) (by omega) (by omega) (by omega)
  rw [hr]
  simp only [Option.bind_some, hu]
  obtain ⟨k, rfl⟩ := Int.eq_ofNat_of_zero_le r0
  have hw : wi (1 + (k : Int)) = ((k + 1 : Nat) : Int) := by rw [wi_id (by omega) (by omega)]; omega
  rw [hw]
  generalize (u == 0) = bb
  generalize hnn : k + 1 = nn
  have hnn6 : 1 ≤ nn ∧ nn ≤ 6 := by omega
  have fin : ∀ (q : Int) (s7 rows : List (List Move)), p ≤ q → q ≤ p + 900 → rows.length = nn → (∀ r ∈ rows, r.length ≤ 3 ∧ Fwd r) →
      ∃ g p', f88.p0_e0' L N (fun a0 a1 a2 => some (a0, a1, a2)) (nn : Int) c q s7 rows = some (g, c, p') ∧ p ≤ p' ∧ p' ≤ p + 1000 ∧ Slim g := by
    intro q s7 rows q0 q1 hl hrr
    unfold f88.p0_e0'
    obtain ⟨v, hv, v0, v1⟩ := pick_ok L N hb (p := q) (n := 30) (by omega) (by omega) (by omega)
    rw [hv]
    simp only [Option.bind_some]
    have h0 : 0 < rows.length := by omega
    have g0 : (decide ((0 : Int) ≤ 0) && decide ((0 : Int) < (rows.length : Int))) = true := by rw [dt (show (0 : Int) < (rows.length : Int) by omega)]; rfl
    have hl0 : listAt rows [] (0 : Int).toNat = rows[0] := at_lt h0
    obtain ⟨hr0, hf0⟩ := hrr rows[0] (List.getElem_mem h0)
    have put : ∀ m : Move, 0 ≤ m.to → Slim ⟨rows.set ((0 : Int).toNat) (rows[0] ++ [m])⟩ := fun m hm0 => by
      refine ⟨by show (rows.set _ _).length ≤ 60; rw [List.length_set]; omega, fun r hr => ?_⟩
      rcases List.mem_or_eq_of_mem_set hr with h | h
      · obtain ⟨a1, a2⟩ := hrr r h; exact ⟨by omega, a2⟩
      · rw [h]
        refine ⟨by rw [List.length_append, List.length_cons, List.length_nil]; omega, fun x hx => ?_⟩
        rcases List.mem_append.1 hx with hx | hx
        · exact hf0 x hx
        · rw [List.mem_singleton.1 hx]; exact hm0
    by_cases e0 : v = 0
    · have hle : decide ((rows[0]).length + ([Move.mk (9 : Int) (0 : Int)] : List Move).length ≤ lim) = true := dt (by simp only [List.length_cons, List.length_nil]; omega)
      rw [show (v == 0) = true by simpa using e0, cond_true, g0, cond_true, hl0, hle, cond_true, cond_true]
      exact ⟨_, _, rfl, by omega, by omega, put _ (by show (0 : Int) ≤ 0; omega)⟩
    · rw [show (v == 0) = false by simpa using e0, cond_false]
      by_cases e1 : v = 1
      · have hle : decide ((rows[0]).length + ([Move.mk (0 : Int) (nn : Int)] : List Move).length ≤ lim) = true := dt (by simp only [List.length_cons, List.length_nil]; omega)
        rw [show (v == 1) = true by simpa using e1, cond_true, g0, cond_true, hl0, hle, cond_true, cond_true]
        exact ⟨_, _, rfl, by omega, by omega, put _ (by show (0 : Int) ≤ (nn : Int); omega)⟩
      · rw [show (v == 1) = false by simpa using e1, cond_false]
        by_cases e2 : v = 2
        · rw [show (v == 2) = true by simpa using e2, cond_true]
          exact ⟨_, _, rfl, by omega, by omega, by simp, fun r hr => by cases hr⟩
        · rw [show (v == 2) = false by simpa using e2, cond_false]
          exact ⟨_, _, rfl, by omega, by omega, by show rows.length ≤ 60; omega, fun r hr => ⟨by have := (hrr r hr).1; omega, (hrr r hr).2⟩⟩
  have row1 : ∀ (K : Int → Bool → Int → List Int → Int → List Move → List (List Move) → List (List Move) → Option (Graph × List Int × Int)) (i : Int) (s22 rows : List (List Move)) (m : Nat) (j : Nat) (q : Int) (row : List Move), j < m → j ≤ 3 → row.length + j ≤ 3 → Fwd row → p ≤ q → q ≤ p + 900 - 5 * (j : Int) →
      ∃ q' row', q ≤ q' ∧ q' ≤ q + 5 * (j : Int) ∧ (row'.length ≤ 3 ∧ Fwd row') ∧ f88.l1 L N K m (nn : Int) bb i (j : Int) c q row s22 rows = K (nn : Int) bb i c q' row' s22 rows := by
    intro K i s22 rows m
    induction m with
    | zero => intro j q row h; omega
    | succ m ih =>
      intro j q row hj hj3 hrl hfw q0 q1
      show ∃ q' row', _ ∧ _ ∧ _ ∧ f88.s1 L N _ (f88.l1 L N _ m) (nn : Int) bb i (j : Int) c q row s22 rows = _
      unfold f88.s1 f88.s1'
      by_cases hj0 : j = 0
      · subst hj0
        rw [show decide (((0 : Nat) : Int) > 0) = false from rfl, cond_false]
        exact ⟨q, row, by omega, by omega, ⟨by omega, hfw⟩, rfl⟩
      · obtain ⟨j', rfl⟩ : ∃ j', j = j' + 1 := ⟨j - 1, by omega⟩
        have hwj : wi (((j' + 1 : Nat) : Int) - 1) = (j' : Int) := by rw [wi_id (by omega) (by omega)]; omega
        have put : ∀ (act z : Int), q ≤ z → z ≤ q + 4 → ∃ q' row', q ≤ q' ∧ q' ≤ q + 5 * ((j' + 1 : Nat) : Int) ∧ (row'.length ≤ 3 ∧ Fwd row') ∧ f88.j0' L N K (f88.l1 L N K m) (nn : Int) bb i ((j' + 1 : Nat) : Int) act c z row s22 rows = K (nn : Int) bb i c q' row' s22 rows := by
          intro act z z0 z1
          unfold f88.j0'
          obtain ⟨v, hv, v0, v1⟩ := pick_ok L N hb (p := z) (n := (nn : Int)) (by omega) (by omega) (by omega)
          have hle : decide (row.length + ([Move.mk act v] : List Move).length ≤ lim) = true := dt (by simp only [List.length_cons, List.length_nil]; omega)
          simp only [hv, Option.bind_some, hle, cond_true, hwj]
          obtain ⟨q', row', a1, a2, a3, a4⟩ := ih j' (z + 1) (row ++ [Move.mk act v]) (by omega) (by omega) (by simp only [List.length_append, List.length_cons, List.length_nil]; omega) (fun x hx => by
            rcases List.mem_append.1 hx with hx | hx
            · exact hfw x hx
            · rw [List.mem_singleton.1 hx]; exact v0) (by omega) (by omega)
          exact ⟨q', row', by omega, by omega, a3, a4⟩
        obtain ⟨v, hv, v0, v1⟩ := pick_ok L N hb (p := q) (n := 3) (by omega) (by omega) (by omega)
        rw [dt (show ((j' + 1 : Nat) : Int) > 0 by omega), cond_true, hv]
        simp only [Option.bind_some]
        cases bb with
        | true => exact put _ _ (by omega) (by omega)
        | false =>
          obtain ⟨w, hw', w0, w1⟩ := do_ok L N hb (p := q + 1) (by omega) (by omega)
          rw [Bool.not_false, cond_true, hw']
          simp only [Option.bind_some]
          exact put _ _ (by omega) (by omega)
  have key : ∀ (n i : Nat) (q : Int) (s7 rows : List (List Move)), i ≤ nn → nn - i < n → rows.length = i → (∀ r ∈ rows, r.length ≤ 3 ∧ Fwd r) → p ≤ q → q ≤ p + 10 + 20 * (i : Int) →
      ∃ g p', f88.l0 L N (fun z9 z10 z11 z12 z13 => f88.p0_e0 L N (fun a0 a1 a2 => some (a0, a1, a2)) z9 z10 z11 z12 z13) n (nn : Int) bb (i : Int) c q s7 rows = some (g, c, p') ∧ p ≤ p' ∧ p' ≤ p + 1000 ∧ Slim g := by
    intro n
    induction n with
    | zero => intro i q s7 rows _ h; omega
    | succ n ih =>
      intro i q s7 rows hi hn hl hrr q0 q1
      show ∃ g p', f88.s0 L N _ (f88.l0 L N _ n) (nn : Int) bb (i : Int) c q s7 rows = _ ∧ _
      unfold f88.s0 f88.s0'
      by_cases hlt : i < nn
      · obtain ⟨v, hv, v0, v1⟩ := pick_ok L N hb (p := q) (n := 4) (by omega) (by omega) (by omega)
        obtain ⟨j, rfl⟩ := Int.eq_ofNat_of_zero_le v0
        rw [lt_cast hlt, cond_true, hv]
        simp only [Option.bind_some]
        obtain ⟨q', row', a1, a2, a3, a4⟩ := row1 (fun z24 z25 z26 z27 z28 z29 z30 z31 => f88.p1_e2 L N (fun z9 z10 z11 z12 z13 => f88.p0_e0 L N (fun a0 a1 a2 => some (a0, a1, a2)) z9 z10 z11 z12 z13) (f88.l0 L N (fun z9 z10 z11 z12 z13 => f88.p0_e0 L N (fun a0 a1 a2 => some (a0, a1, a2)) z9 z10 z11 z12 z13) n) z24 z25 z26 z27 z28 z29 z30 z31) (i : Int) s7 rows L j (q + 1) [] (by omega) (by omega) (by simp; omega) (fun x hx => by cases hx) (by omega) (by omega)
        rw [a4]
        show ∃ g p', f88.p1_e2' L N _ _ (nn : Int) bb (i : Int) c q' row' s7 rows = _ ∧ _
        unfold f88.p1_e2'
        obtain ⟨a3, a3'⟩ := a3
        obtain ⟨ys, e, h1, h2, h3⟩ := l3Sorted_ok L N row' (by omega) (by omega)
        have hle : decide (rows.length + ([ys] : List (List Move)).length ≤ lim) = true := dt (by simp only [List.length_cons, List.length_nil]; omega)
        rw [e, Option.bind_some, hle, cond_true, wi_nat (by omega)]
        refine ih (i + 1) q' s7 _ (by omega) (by omega) (by simp [hl]) (fun r hr => ?_) (by omega) (by omega)
        rcases List.mem_append.1 hr with h | h
        · exact hrr r h
        · rw [List.mem_singleton.1 h]; exact ⟨by omega, fun x hx => a3' x ((h2 x).1 hx)⟩
      · rw [ge_cast hlt, cond_false]
        exact fin q s7 rows q0 (by omega) (by omega) hrr
  exact key L 0 (p + 1 + 1) [] [] (by omega) (by omega) rfl (fun r hr => by cases hr) (by omega) (by omega)
theorem graph_draw (L N : Nat) (hN : 1000 ≤ N) (hL : 1000002 < L) {c : List Int} (hb : BOk c) {p : Int} (p0 : 0 ≤ p) (pb : p ≤ 1000000) :
    ∃ g p', f58 L N c p = some (g, c, p') ∧ p ≤ p' ∧ p' ≤ p + 40000 ∧ Slim g := by
  show ∃ g p', f58.b' L N (fun a0 a1 a2 => some (a0, a1, a2)) c p = _ ∧ _
  unfold f58.b'
  obtain ⟨r, hr, r0, r1⟩ := pick_ok L N hb (p := p) (n := 2) p0 (by omega) (by omega)
  rw [hr]
  simp only [Option.bind_some]
  by_cases h0 : r = 0
  · obtain ⟨t, ds, p1, e, e1, e2, e3, e4, e5⟩ := called_draw L N (by omega) (by omega) hb (p := p + 1) (by omega) (by omega)
    obtain ⟨g, ok, f, hg⟩ := graphOf_ok L N hN hL t ds (by omega) (fun d hd => by have := e5 d hd; omega) (by omega)
    rw [show (r == 0) = true by simpa using h0, cond_true, e]
    simp only [Option.bind_some, tree_eta, f]
    cases ok with
    | true => rw [cond_true]; exact ⟨_, _, rfl, by omega, by omega, hg⟩
    | false =>
      obtain ⟨g2, p2, f2, f3, f4, f5⟩ := wild_draw L N hL hb (p := p1) (by omega) (by omega)
      rw [cond_false, f2]
      simp only [Option.bind_some]
      exact ⟨_, _, rfl, by omega, by omega, f5⟩
  · obtain ⟨g2, p2, f2, f3, f4, f5⟩ := wild_draw L N hL hb (p := p + 1) (by omega) (by omega)
    rw [show (r == 0) = false by simpa using h0, cond_false, f2]
    simp only [Option.bind_some]
    exact ⟨_, _, rfl, by omega, by omega, f5⟩
end Go.Proofs.YtffkhhblppfbfaaGreatDoor.Ev
namespace Go.Proofs.YtffkhhblppfbfaaGreatDoor.Ev
open Go
set_option linter.unusedVariables false
set_option linter.unusedSimpArgs false
theorem leM_iff (x y : Move) : leM x y = true ↔ lessM x y = true ∨ x = y := by
  unfold leM lessM
  obtain ⟨a, b⟩ := x
  obtain ⟨c, d⟩ := y
  simp only [decide_eq_true_eq, Move.mk.injEq]
  omega
theorem sortM_le (xs : List Move) : (sortM xs).Pairwise fun a b => leM a b = true := by
  refine List.pairwise_mergeSort (fun a b c h1 h2 => ?_) (fun a b => ?_) xs
  · rw [leM_iff] at *
    rcases h1 with h1 | rfl
    · rcases h2 with h2 | rfl
      · exact .inl (less_trans h1 h2)
      · exact .inl h1
    · exact h2
  · unfold leM
    simp only [Bool.or_eq_true, decide_eq_true_eq]
    omega
theorem getM {zs : List Move} {i : Nat} (h : i < zs.length) : (zs.toArray)[i]! = zs[i] := by simp [getElem!_pos, h]
theorem compact_rises {zs : List Move} (hs : zs.Pairwise fun a b => leM a b = true) : RisesM (Go.Lib.compact zs) := by
  unfold RisesM Go.Lib.compact Go.Lib.compactUpTo
  rw [List.pairwise_map]
  refine List.Pairwise.imp_of_mem ?_ (List.Pairwise.filter _ List.pairwise_lt_range)
  intro i j hi hj hij
  rw [List.mem_filter, List.mem_range] at hi hj
  have hjl := hj.1
  rw [getM hi.1, getM hj.1]
  have hk := hj.2
  unfold Go.Lib.keeps at hk
  have hk := of_decide_eq_true hk
  have hne : zs[j] ≠ zs[j - 1] := by
    rcases hk with h | h
    · omega
    · rwa [getM hj.1, getM (show j - 1 < zs.length by omega)] at h
  have hlast : lessM zs[j - 1] zs[j] = true := by
    rcases (leM_iff _ _).1 (List.pairwise_iff_getElem.1 hs (j - 1) j (by omega) (by omega) (by omega)) with h | h
    · exact h
    · exact absurd h.symm hne
  by_cases e : i = j - 1
  · subst e; exact hlast
  · rcases (leM_iff _ _).1 (List.pairwise_iff_getElem.1 hs i (j - 1) (by omega) (by omega) (by omega)) with h | h
    · exact less_trans h hlast
    · rw [h]; exact hlast
theorem compact_mem (zs : List Move) (v : Move) : v ∈ Go.Lib.compact zs ↔ v ∈ zs := by
  unfold Go.Lib.compact Go.Lib.compactUpTo
  rw [List.mem_map]
  constructor
  · rintro ⟨i, hi, rfl⟩
    rw [List.mem_filter, List.mem_range] at hi
    rw [getM hi.1]; exact List.getElem_mem hi.1
  · intro hv
    obtain ⟨i, hi, rfl⟩ := List.mem_iff_getElem.1 hv
    clear hv
    induction i with
    | zero => exact ⟨0, by rw [List.mem_filter, List.mem_range]; exact ⟨hi, by simp [Go.Lib.keeps]⟩, getM hi⟩
    | succ i ih =>
      by_cases hk : Go.Lib.keeps zs.toArray (i + 1) = true
      · exact ⟨i + 1, by rw [List.mem_filter, List.mem_range]; exact ⟨hi, hk⟩, getM hi⟩
      · have : zs[i + 1] = zs[i] := by
          unfold Go.Lib.keeps at hk
          have hk : ¬ (i + 1 = 0 ∨ zs.toArray[i + 1]! ≠ zs.toArray[i + 1 - 1]!) := fun h => hk (decide_eq_true h)
          have h2 := Classical.not_not.1 (fun h => hk (.inr h))
          rw [getM hi, Nat.add_sub_cancel, getM (show i < zs.length by omega)] at h2
          exact h2
        rw [this]
        exact ih (by omega)
theorem tidyM_rises (xs : List Move) : RisesM (tidyM xs) := compact_rises (sortM_le xs)
theorem tidyM_mem (xs : List Move) (v : Move) : v ∈ tidyM xs ↔ v ∈ xs := (compact_mem _ v).trans (sortM_mem xs v)
end Go.Proofs.YtffkhhblppfbfaaGreatDoor.Ev
namespace Go.Proofs.YtffkhhblppfbfaaGreatDoor.Ev
open Go
set_option linter.unusedVariables false
set_option linter.unusedSimpArgs false
def NextE (E : Nat → Nat → Prop) (n : Nat) (q : List Int) : Prop := q.length = n ∧ ∀ (i : Nat) (hi : i < q.length), ∃ j : Nat, q[i] = (j : Int) ∧ j ≤ i ∧ E j i ∧ ∀ j', j' < j → ¬ E j' i
theorem NextE.uniq {E : Nat → Nat → Prop} {n : Nat} {q q' : List Int} (h : NextE E n q) (h' : NextE E n q') : q = q' := by
  apply List.ext_getElem
  · rw [h.1, h'.1]
  · intro i h1 h2
    obtain ⟨j, a1, a2, a3, a4⟩ := h.2 i h1
    obtain ⟨k, b1, b2, b3, b4⟩ := h'.2 i h2
    have : j = k := by
      rcases Nat.lt_trichotomy j k with h | h | h
      · exact absurd a3 (b4 j h)
      · exact h
      · exact absurd b3 (a4 k h)
    rw [a1, b1, this]
theorem NextE.congr {E F : Nat → Nat → Prop} {n : Nat} {q : List Int} (h : NextE E n q) (he : ∀ i j, j ≤ i → i < n → (E j i ↔ F j i)) : NextE F n q :=
  ⟨h.1, fun i hi => by
    obtain ⟨j, a1, a2, a3, a4⟩ := h.2 i hi
    have hn : i < n := by rw [← h.1]; exact hi
    exact ⟨j, a1, a2, (he i j a2 hn).1 a3, fun j' hj' hf => a4 j' hj' ((he i j' (by omega) hn).2 hf)⟩⟩
def Sig (ms : List (List Move)) (p : List Int) (i : Nat) (m : Move) : Prop := ∃ (h : i < ms.length) (k : Nat) (hk : k < (ms[i]).length), m.act = (ms[i])[k].act ∧ m.to = p.getD (ms[i])[k].to.toNat 0
def Akin (ms : List (List Move)) (p : List Int) (j i : Nat) : Prop := p.getD j 0 = p.getD i 0 ∧ ∀ m, Sig ms p i m ↔ Sig ms p j m
theorem Akin.refl (ms : List (List Move)) (p : List Int) (i : Nat) : Akin ms p i i := ⟨rfl, fun _ => Iff.rfl⟩
theorem l4Same_ok (L N : Nat) (a b : List Int) (hL : a.length < L) (hl : a.length ≤ 1048576) : ∃ r, f90 L N a b = some r ∧ (r = true ↔ a = b) := by
  show ∃ r, f90.b L N some a b = some r ∧ _
  unfold f90.b f90.b'
  by_cases he : a.length = b.length
  · have : ((a.length : Int) != (b.length : Int)) = false := by simp [he]
    rw [this, cond_false]
    have key : ∀ (n i : Nat), i ≤ a.length → a.length - i < n → (∀ j (h1 : j < a.length) (h2 : j < b.length), j < i → a[j] = b[j]) →
        ∃ r, f90.l0 L N (f90.p0_e0 L N some) (fun z3 => f90.p0_r L N some z3) n a b (i : Int) = some r ∧ (r = true ↔ a = b) := by
      intro n
      induction n with
      | zero => intro i _ h; omega
      | succ n ih =>
        intro i hi hn hs
        show ∃ r, f90.s0 L N _ _ (f90.l0 L N _ _ n) a b (i : Int) = some r ∧ _
        unfold f90.s0 f90.s0'
        by_cases hlt : i < a.length
        · have hlt' : i < b.length := by omega
          simp only [le0, lt_cast hlt, lt_cast hlt', Bool.and_true, cond_true, Int.toNat_natCast, at_lt hlt, at_lt hlt']
          by_cases h1 : a[i] = b[i]
          · rw [show (a[i] != b[i]) = false by simpa using h1, cond_false, wi_nat (by omega)]
            refine ih (i + 1) (by omega) (by omega) fun j h2 h3 h4 => ?_
            by_cases e : j = i
            · subst e; exact h1
            · exact hs j h2 h3 (by omega)
          · rw [show (a[i] != b[i]) = true by simpa using h1, cond_true]
            refine ⟨false, rfl, ?_⟩
            simp only [Bool.false_eq_true, false_iff]
            intro e
            subst e
            exact h1 rfl
        · simp only [ge_cast hlt, cond_false]
          refine ⟨true, rfl, ?_⟩
          simp only [true_iff]
          exact List.ext_getElem he fun j h1 h2 => hs j h1 h2 (by omega)
    exact key L 0 (by omega) (by omega) (fun _ _ _ h => by omega)
  · have : ((a.length : Int) != (b.length : Int)) = true := by simp; omega
    rw [this, cond_true]
    refine ⟨false, rfl, ?_⟩
    simp only [Bool.false_eq_true, false_iff]
    intro e
    exact he (by rw [e])
end Go.Proofs.YtffkhhblppfbfaaGreatDoor.Ev
namespace Go.Proofs.YtffkhhblppfbfaaGreatDoor.Ev
open Go
set_option linter.unusedVariables false
set_option linter.unusedSimpArgs false
end Go.Proofs.YtffkhhblppfbfaaGreatDoor.Ev
namespace Go.Proofs.YtffkhhblppfbfaaGreatDoor.Ev
open Go
set_option linter.unusedVariables false
set_option linter.unusedSimpArgs false
end Go.Proofs.YtffkhhblppfbfaaGreatDoor.Ev
namespace Go.Proofs.YtffkhhblppfbfaaGreatDoor.Ev
open Go
set_option linter.unusedVariables false
set_option linter.unusedSimpArgs false
inductive Chain (E : List Int → Nat → Nat → Prop) (n : Nat) : List (List Int) → List Int → Prop
  | zero : Chain E n [] (List.replicate n 0)
  | snoc (pre : List (List Int)) (p q : List Int) (h : Chain E n pre p) (hq : NextE (E p) n q) : Chain E n (pre ++ [p]) q
structure EqE (E : List Int → Nat → Nat → Prop) : Prop where
  refl : ∀ p i, E p i i
  symm : ∀ p i j, E p i j → E p j i
  trans : ∀ p i j k, E p i j → E p j k → E p i k
  fine : ∀ p i j, E p i j → p.getD i 0 = p.getD j 0
theorem NextE.same {E : Nat → Nat → Prop} {n : Nat} {q : List Int} (h : NextE E n q) (sy : ∀ i j, E i j → E j i) (tr : ∀ i j k, E i j → E j k → E i k) {i i' : Nat} (hi : i < n) (hi' : i' < n) : q.getD i 0 = q.getD i' 0 ↔ E i i' := by
  have hl := h.1
  rw [getD_lt (show i < q.length by omega), getD_lt (show i' < q.length by omega)]
  obtain ⟨j, a1, a2, a3, a4⟩ := h.2 i (by omega)
  obtain ⟨j', b1, b2, b3, b4⟩ := h.2 i' (by omega)
  rw [a1, b1]
  constructor
  · intro e
    obtain rfl : j = j' := by omega
    exact tr _ _ _ (sy _ _ a3) b3
  · intro e
    have h1 : ¬ j < j' := fun hlt => b4 j hlt (tr _ _ _ a3 e)
    have h2 : ¬ j' < j := fun hlt => a4 j' hlt (tr _ _ _ b3 (sy _ _ e))
    have : j = j' := by omega
    rw [this]
theorem Chain.len {E : List Int → Nat → Nat → Prop} {n : Nat} {pre : List (List Int)} {p : List Int} (h : Chain E n pre p) : p.length = n := by
  cases h with
  | zero => simp
  | snoc pre p q h hq => exact hq.1
theorem Chain.first {E : List Int → Nat → Nat → Prop} {n : Nat} {pre : List (List Int)} {p : List Int} (h : Chain E n pre p) : (pre ++ [p]).getD 0 [] = List.replicate n 0 := by
  induction h with
  | zero => rfl
  | snoc pre p q h hq ih =>
    cases pre with
    | nil => exact ih
    | cons a t => exact ih
theorem Chain.keeps {E : List Int → Nat → Nat → Prop} (hE : EqE E) {n : Nat} {pre : List (List Int)} {p : List Int} (h : Chain E n pre p) (R : Nat → Nat → Prop)
    (hR : ∀ p, p.length = n → (∀ i j, i < n → j < n → R i j → p.getD i 0 = p.getD j 0) → ∀ i j, i < n → j < n → R i j → E p i j) :
    ∀ i j, i < n → j < n → R i j → p.getD i 0 = p.getD j 0 := by
  induction h with
  | zero =>
    intro i j hi hj _
    rw [getD_lt (by simpa using hi), getD_lt (by simpa using hj), List.getElem_replicate, List.getElem_replicate]
  | snoc pre p q h hq ih =>
    intro i j hi hj hr
    exact (hq.same (hE.symm p) (hE.trans p) hi hj).2 (hR p h.len ih i j hi hj hr)
def Fix (E : List Int → Nat → Nat → Prop) (n : Nat) (q : List Int) : Prop := q.length = n ∧ NextE (E q) n q
theorem Fix.same {E : List Int → Nat → Nat → Prop} (hE : EqE E) {n : Nat} {q : List Int} (h : Fix E n q) {i j : Nat} (hi : i < n) (hj : j < n) : q.getD i 0 = q.getD j 0 ↔ E q i j := h.2.same (hE.symm q) (hE.trans q) hi hj
end Go.Proofs.YtffkhhblppfbfaaGreatDoor.Ev
namespace Go.Proofs.YtffkhhblppfbfaaGreatDoor.Ev
open Go
set_option linter.unusedVariables false
set_option linter.unusedSimpArgs false
def Beh (ms : List (List Move)) : (Nat → Prop) → List Int → Nat → Prop
  | X, [] => X
  | X, a :: w => Beh ms (Slip ms (StepX ms X a)) w
theorem Beh.congr {ms : List (List Move)} : ∀ {w : List Int} {X Y : Nat → Prop}, (∀ t, X t ↔ Y t) → ∀ t, Beh ms X w t ↔ Beh ms Y w t
  | [], _, _, h, t => h t
  | a :: w, X, Y, h, t => Beh.congr (w := w) (fun t => Slip.iff (fun t => StepX.iff h a t) t) t
theorem Beh.snoc {ms : List (List Move)} {a : Int} : ∀ {w : List Int} {X : Nat → Prop} {t : Nat}, Beh ms X (w ++ [a]) t ↔ Slip ms (StepX ms (Beh ms X w) a) t
  | [], X, t => Iff.rfl
  | b :: w, X, t => Beh.snoc (w := w)
theorem slip_some {ms : List (List Move)} {X : Nat → Prop} {t : Nat} (h : Slip ms X t) : ∃ s, X s := by
  induction h with
  | base t hx => exact ⟨t, hx⟩
  | step s t _ _ _ _ _ _ ih => exact ih
end Go.Proofs.YtffkhhblppfbfaaGreatDoor.Ev
namespace Go.Proofs.YtffkhhblppfbfaaGreatDoor.Ev
open Go
set_option linter.unusedVariables false
set_option linter.unusedSimpArgs false
def Row (ms : List (List Move)) (q : List Int) (X : Nat → Prop) : Prop := q.length ≤ ms.length ∧ (∀ v ∈ q, 0 ≤ v ∧ v < (ms.length : Int)) ∧ (∀ t : Nat, (t : Int) ∈ q ↔ X t) ∧ Rises q
theorem Row.some {ms : List (List Move)} {q : List Int} {X : Nat → Prop} (h : Row ms q X) : 0 < q.length ↔ ∃ t, X t := by
  constructor
  · intro hp
    have hm := List.getElem_mem hp
    obtain ⟨t, ht⟩ := Int.eq_ofNat_of_zero_le (h.2.1 _ hm).1
    exact ⟨t, (h.2.2.1 t).1 (by rw [← ht]; exact hm)⟩
  · rintro ⟨t, ht⟩
    exact List.length_pos_of_mem ((h.2.2.1 t).2 ht)
theorem Row.uniq {ms : List (List Move)} {q q' : List Int} {X : Nat → Prop} (h : Row ms q X) (h' : Row ms q' X) : q = q' := by
  refine rises_ext h.2.2.2 h'.2.2.2 fun x => ⟨fun hx => ?_, fun hx => ?_⟩
  · obtain ⟨t, rfl⟩ := Int.eq_ofNat_of_zero_le (h.2.1 _ hx).1
    exact (h'.2.2.1 t).2 ((h.2.2.1 t).1 hx)
  · obtain ⟨t, rfl⟩ := Int.eq_ofNat_of_zero_le (h'.2.1 _ hx).1
    exact (h.2.2.1 t).2 ((h'.2.2.1 t).1 hx)
abbrev BehW (ms : List (List Move)) (w : List Int) : Nat → Prop := Beh ms (Slip ms fun x => x = 0) w
theorem first_row (L N : Nat) (ms : List (List Move)) (hm : Leads ms) (h1 : 1 ≤ ms.length) (hL : 268435456 ≤ L) : ∃ q, f81 L N ⟨ms⟩ [0] = some q ∧ Row ms q (Slip ms fun x => x = 0) := by
  have hlim := lim_eq
  obtain ⟨q0, a1, a2, a3, a4, a5⟩ := slip1_ok L N ms [0] hm (fun v hv => by obtain rfl := List.mem_singleton.1 hv; omega) (by simp only [List.length_cons, List.length_nil]; omega) (by simp only [List.length_cons, List.length_nil]; omega) (by omega)
  refine ⟨q0, a1, a2, a3, fun t => ?_, a5⟩
  rw [a4 t]
  exact Slip.iff (fun t => by rw [List.mem_singleton]; omega) t
theorem after_row (L N : Nat) (ms : List (List Move)) (q : List Int) (X : Nat → Prop) (a : Int) (hm : Leads ms) (h : Row ms q X) (hL : 268435456 ≤ L) : ∃ q', f54 L N ⟨ms⟩ q a = some q' ∧ Row ms q' (Slip ms (StepX ms X a)) := by
  obtain ⟨q', b1, b2, b3, b4, b5⟩ := after_ok L N ms q a hm h.1 h.2.1 hL
  exact ⟨q', b1, b2, b3, fun t => (b4 t).trans (Slip.iff (fun t => StepX.iff (fun t => h.2.2.1 t) a t) t), b5⟩
theorem behI (L N : Nat) (ms : List (List Move)) (w : List Int) (hm : Leads ms) (h1 : 1 ≤ ms.length) (hw : w.length ≤ 1048576) (hL : 268435456 ≤ L) : ∃ q, f50 L N ⟨ms⟩ w = some q ∧ Row ms q (BehW ms w) := by
  have hlim := lim_eq
  have hn := hm.1
  show ∃ q, f50.b L N some ⟨ms⟩ w = some q ∧ _
  unfold f50.b f50.b'
  obtain ⟨q0, a1, a2⟩ := first_row L N ms hm h1 hL
  have a1' : f81 L N (Graph.mk (Graph.mk ms).moves) [0] = some q0 := a1
  rw [a1', Option.bind_some]
  have key : ∀ (n i : Nat) (q : List Int) (X : Nat → Prop), i ≤ w.length → w.length - i < n → Row ms q X → ∃ q', f50.l0 L N (fun z6 => f50.p0_e0 L N some z6) n w (w.length : Int) (i : Int) ms q = some q' ∧ Row ms q' (Beh ms X (w.drop i)) := by
    intro n
    induction n with
    | zero => intro i q X _ h; omega
    | succ n ih =>
      intro i q X hi hn' hq
      show ∃ q', f50.s0 L N _ (f50.l0 L N _ n) w (w.length : Int) (i : Int) ms q = some q' ∧ _
      unfold f50.s0 f50.s0'
      by_cases hlt : i < w.length
      · obtain ⟨q2, b1, b2⟩ := after_row L N ms q X w[i] hm hq hL
        simp only [lt_cast hlt, le0, Bool.and_true, cond_true, Int.toNat_natCast, at_lt hlt, b1, Option.bind_some]
        rw [wi_nat (by omega), List.drop_eq_getElem_cons hlt]
        exact ih (i + 1) q2 _ (by omega) (by omega) b2
      · rw [ge_cast hlt, cond_false, List.drop_eq_nil_of_le (by omega)]
        exact ⟨q, rfl, hq⟩
  exact key L 0 q0 _ (by omega) (by omega) a2
end Go.Proofs.YtffkhhblppfbfaaGreatDoor.Ev
namespace Go.Proofs.YtffkhhblppfbfaaGreatDoor.Ev
open Go
set_option linter.unusedVariables false
set_option linter.unusedSimpArgs false
def digL (n : Nat) : List UInt8 := if n < 10 then [UInt8.ofNat (48 + n)] else [UInt8.ofNat (48 + n / 10), UInt8.ofNat (48 + n % 10)]
theorem dig_eq {n : Nat} (h : n < 100) : Lib.decDigits n = digL n := by
  unfold digL
  by_cases h1 : n < 10
  · rw [Lib.decDigits, dif_pos h1, if_pos h1]
  · rw [Lib.decDigits, dif_neg h1, if_neg h1, Lib.decDigits, dif_pos (show n / 10 < 10 by omega)]; rfl
theorem u8_inj {a b : Nat} (ha : a < 256) (hb : b < 256) (h : UInt8.ofNat a = UInt8.ofNat b) : a = b := by
  have := congrArg UInt8.toNat h
  simpa [UInt8.toNat_ofNat', Nat.mod_eq_of_lt ha, Nat.mod_eq_of_lt hb] using this
theorem dig_inj {n m : Nat} (hn : n < 100) (hm : m < 100) {r r' : List UInt8} (h : digL n ++ (32 :: r) = digL m ++ (32 :: r')) : n = m ∧ r = r' := by
  have ne : ∀ {k : Nat}, k < 10 → UInt8.ofNat (48 + k) ≠ 32 := fun {k} hk e => by
    have := u8_inj (a := 48 + k) (b := 32) (by omega) (by omega) e; omega
  unfold digL at h
  by_cases h1 : n < 10 <;> by_cases h2 : m < 10
  · rw [if_pos h1, if_pos h2] at h
    simp only [List.cons_append, List.nil_append, List.cons.injEq, true_and] at h
    have := u8_inj (by omega) (by omega) h.1
    exact ⟨by omega, h.2⟩
  · rw [if_pos h1, if_neg h2] at h
    simp only [List.cons_append, List.nil_append, List.cons.injEq] at h
    exact absurd h.2.1.symm (ne (by omega))
  · rw [if_neg h1, if_pos h2] at h
    simp only [List.cons_append, List.nil_append, List.cons.injEq] at h
    exact absurd h.2.1 (ne (by omega))
  · rw [if_neg h1, if_neg h2] at h
    simp only [List.cons_append, List.nil_append, List.cons.injEq, true_and] at h
    have e1 := u8_inj (by omega) (by omega) h.1
    have e2 := u8_inj (by omega) (by omega) h.2.1
    exact ⟨by omega, h.2.2⟩
def numsL (l : List Int) : List UInt8 := l.flatMap fun n => digL n.toNat ++ [32]
def keyL (l : List Int) : List UInt8 := 91 :: (numsL l ++ [93])
theorem numsL_inj : ∀ {a b : List Int}, (∀ v ∈ a, 0 ≤ v ∧ v < 100) → (∀ v ∈ b, 0 ≤ v ∧ v < 100) → ∀ r r', numsL a ++ (93 :: r) = numsL b ++ (93 :: r') → a = b ∧ r = r'
  | [], [], _, _, r, r', h => ⟨rfl, (List.cons.inj h).2⟩
  | [], y :: b, _, hb, r, r', h => by
    exfalso
    have hy := hb y (.head _)
    have h0 : ∀ {n : Nat}, n < 100 → ∃ d s, digL n = UInt8.ofNat (48 + d) :: s ∧ d < 10 := fun {n} hn => by
      unfold digL; split
      · exact ⟨n, [], rfl, by omega⟩
      · exact ⟨n / 10, _, rfl, by omega⟩
    obtain ⟨d, s, e, hd⟩ := h0 (n := y.toNat) (by omega)
    unfold numsL at h
    rw [List.flatMap_cons, e] at h
    simp only [List.flatMap_nil, List.nil_append, List.cons_append, List.cons.injEq] at h
    have := u8_inj (a := 93) (by omega) (by omega) h.1
    omega
  | x :: a, [], ha, _, r, r', h => by
    exfalso
    have hy := ha x (.head _)
    have h0 : ∀ {n : Nat}, n < 100 → ∃ d s, digL n = UInt8.ofNat (48 + d) :: s ∧ d < 10 := fun {n} hn => by
      unfold digL; split
      · exact ⟨n, [], rfl, by omega⟩
      · exact ⟨n / 10, _, rfl, by omega⟩
    obtain ⟨d, s, e, hd⟩ := h0 (n := x.toNat) (by omega)
    unfold numsL at h
    rw [List.flatMap_cons, e] at h
    simp only [List.flatMap_nil, List.nil_append, List.cons_append, List.cons.injEq] at h
    have := u8_inj (b := 93) (by omega) (by omega) h.1
    omega
  | x :: a, y :: b, ha, hb, r, r', h => by
    have hx := ha x (.head _); have hy := hb y (.head _)
    have h' : digL x.toNat ++ (32 :: (numsL a ++ (93 :: r))) = digL y.toNat ++ (32 :: (numsL b ++ (93 :: r'))) := by
      unfold numsL at h ⊢
      rw [List.flatMap_cons, List.flatMap_cons] at h
      simpa using h
    obtain ⟨e1, e2⟩ := dig_inj (by omega) (by omega) h'
    obtain ⟨e3, e4⟩ := numsL_inj (fun v hv => ha v (.tail _ hv)) (fun v hv => hb v (.tail _ hv)) r r' e2
    exact ⟨by rw [e3, show x = y by omega], e4⟩
theorem keyL_inj {a b : List Int} (ha : ∀ v ∈ a, 0 ≤ v ∧ v < 100) (hb : ∀ v ∈ b, 0 ≤ v ∧ v < 100) {r r' : List UInt8} (h : keyL a ++ r = keyL b ++ r') : a = b ∧ r = r' := by
  unfold keyL at h
  refine numsL_inj ha hb r r' ?_
  have := (List.cons.inj h).2
  simpa using this
end Go.Proofs.YtffkhhblppfbfaaGreatDoor.Ev
namespace Go.Proofs.YtffkhhblppfbfaaGreatDoor.Ev
open Go
set_option linter.unusedVariables false
set_option linter.unusedSimpArgs false
theorem getI {zs : List Int} {i : Nat} (h : i < zs.length) : (zs.toArray)[i]! = zs[i] := by simp [getElem!_pos, h]
theorem sortI_le (xs : List Int) : (sortI xs).Pairwise fun a b => a ≤ b := by
  have h := List.pairwise_mergeSort (le := fun x y : Int => decide (x ≤ y)) (fun a b c h1 h2 => by
    simp only [decide_eq_true_eq] at *; omega) (fun a b => by simp only [Bool.or_eq_true, decide_eq_true_eq]; omega) xs
  exact h.imp fun h => of_decide_eq_true h
theorem compactI_rises {zs : List Int} (hs : zs.Pairwise fun a b => a ≤ b) : Rises (Go.Lib.compact zs) := by
  unfold Rises Go.Lib.compact Go.Lib.compactUpTo
  rw [List.pairwise_map]
  refine List.Pairwise.imp_of_mem ?_ (List.Pairwise.filter _ List.pairwise_lt_range)
  intro i j hi hj hij
  rw [List.mem_filter, List.mem_range] at hi hj
  have hjl := hj.1
  rw [getI hi.1, getI hj.1]
  have hk := hj.2
  unfold Go.Lib.keeps at hk
  have hk := of_decide_eq_true hk
  have hne : zs[j] ≠ zs[j - 1] := by
    rcases hk with h | h
    · omega
    · rwa [getI hj.1, getI (show j - 1 < zs.length by omega)] at h
  have h1 := List.pairwise_iff_getElem.1 hs (j - 1) j (by omega) (by omega) (by omega)
  by_cases e : i = j - 1
  · subst e; omega
  · have h2 := List.pairwise_iff_getElem.1 hs i (j - 1) (by omega) (by omega) (by omega)
    omega
theorem compactI_mem (zs : List Int) (v : Int) : v ∈ Go.Lib.compact zs ↔ v ∈ zs := by
  unfold Go.Lib.compact Go.Lib.compactUpTo
  rw [List.mem_map]
  constructor
  · rintro ⟨i, hi, rfl⟩
    rw [List.mem_filter, List.mem_range] at hi
    rw [getI hi.1]; exact List.getElem_mem hi.1
  · intro hv
    obtain ⟨i, hi, rfl⟩ := List.mem_iff_getElem.1 hv
    clear hv
    induction i with
    | zero => exact ⟨0, by rw [List.mem_filter, List.mem_range]; exact ⟨hi, by simp [Go.Lib.keeps]⟩, getI hi⟩
    | succ i ih =>
      by_cases hk : Go.Lib.keeps zs.toArray (i + 1) = true
      · exact ⟨i + 1, by rw [List.mem_filter, List.mem_range]; exact ⟨hi, hk⟩, getI hi⟩
      · have : zs[i + 1] = zs[i] := by
          unfold Go.Lib.keeps at hk
          have hk : ¬ (i + 1 = 0 ∨ zs.toArray[i + 1]! ≠ zs.toArray[i + 1 - 1]!) := fun h => hk (decide_eq_true h)
          have h2 := Classical.not_not.1 (fun h => hk (.inr h))
          rw [getI hi, Nat.add_sub_cancel, getI (show i < zs.length by omega)] at h2
          exact h2
        rw [this]
        exact ih (by omega)
def seenActs (r : List Move) : List Int := (r.filter fun m => m.act != 0).map Move.act
theorem actsOf_ok (L N : Nat) (ms : List (List Move)) (hm : Leads ms) (q : List Int) (X : Nat → Prop) (hq : Row ms q X) (hL : 268435456 ≤ L) :
    ∃ ac, f53 L N ⟨ms⟩ q = some ac ∧ Rises ac ∧ ac.length ≤ 100000000 ∧ ∀ a, a ∈ ac ↔ a ≠ 0 ∧ ∃ t, StepX ms X a t := by
  have hlim := lim_eq
  have hn := hm.1
  have hql := hq.1
  have hrow : ∀ v ∈ q, ∃ s : Nat, v = (s : Int) ∧ s < ms.length := fun v hv => by
    have := hq.2.1 v hv
    exact ⟨v.toNat, by omega, by omega⟩
  show ∃ ac, f53.b L N some ⟨ms⟩ q = some ac ∧ _
  unfold f53.b f53.b'
  have key : ∀ (n i : Nat) (out : List Int), i ≤ q.length → q.length - i < n → out.length ≤ i * 1048576 →
      ∃ out', f53.l0 L N (fun z5 => f53.p0_e0 L N some z5) n q (q.length : Int) (i : Int) ms out = f53.p0_e0 L N some out' ∧ out'.length ≤ q.length * 1048576 ∧ ∀ a, a ∈ out' ↔ a ∈ out ∨ ∃ v ∈ q.drop i, a ∈ seenActs (ms.getD v.toNat []) := by
    intro n
    induction n with
    | zero => intro i out _ h; omega
    | succ n ih =>
      intro i out hi hn' ho
      show ∃ out', f53.s0 L N _ (f53.l0 L N _ n) q (q.length : Int) (i : Int) ms out = _ ∧ _
      unfold f53.s0 f53.s0'
      by_cases hlt : i < q.length
      · obtain ⟨s, hs, hsl⟩ := hrow _ (List.getElem_mem hlt)
        have hrl := (hm.2 s hsl).1
        have inner : ∀ (n' j : Nat) (o : List Int), j ≤ (ms[s]).length → (ms[s]).length - j < n' → o.length ≤ i * 1048576 + j →
            f53.l1 L N (fun z14 z15 z16 z17 z18 => f53.p1_e2 L N (fun z5 => f53.p0_e0 L N some z5) (f53.l0 L N (fun z5 => f53.p0_e0 L N some z5) n) z14 z15 z16 z17 z18) n' q (q.length : Int) (i : Int) ms[s] ((ms[s]).length : Int) (j : Int) ms o
              = f53.l0 L N (fun z5 => f53.p0_e0 L N some z5) n q (q.length : Int) ((i + 1 : Nat) : Int) ms (o ++ seenActs ((ms[s]).drop j)) := by
          intro n'
          induction n' with
          | zero => intro j o _ h; omega
          | succ n' ih' =>
            intro j o hj hn2 ho'
            show f53.s1 L N _ (f53.l1 L N _ n') q (q.length : Int) (i : Int) ms[s] ((ms[s]).length : Int) (j : Int) ms o = _
            unfold f53.s1 f53.s1'
            by_cases hjl : j < (ms[s]).length
            · have hle : decide (o.length + ([(ms[s])[j].act] : List Int).length ≤ lim) = true := dt (by simp only [List.length_cons, List.length_nil]; omega)
              simp only [lt_cast hjl, le0, Bool.and_true, cond_true, Int.toNat_natCast, at_lt hjl, hle]
              rw [wi_nat (by omega), List.drop_eq_getElem_cons hjl]
              cases hb : ((ms[s])[j].act != 0) with
              | true =>
                rw [cond_true, ih' (j + 1) _ (by omega) (by omega) (by simp; omega)]
                unfold seenActs
                rw [List.filter_cons, if_pos hb, List.map_cons, List.append_assoc]; rfl
              | false =>
                rw [cond_false, ih' (j + 1) _ (by omega) (by omega) (by omega)]
                unfold seenActs
                rw [List.filter_cons, if_neg (by rw [hb]; simp)]
            · rw [ge_cast hjl, cond_false, List.drop_eq_nil_of_le (by omega)]
              show f53.p1_e2 L N _ _ q (q.length : Int) (i : Int) ms o = _
              unfold f53.p1_e2 f53.p1_e2'
              rw [wi_nat (by omega)]
              simp [seenActs]
        have h1 := inner L 0 out (by omega) (by omega) (Nat.le_trans ho (Nat.le_add_right _ _))
        rw [List.drop_zero] at h1
        have hsl' : (seenActs ms[s]).length ≤ 1048576 := by
          unfold seenActs; rw [List.length_map]; exact Nat.le_trans (List.length_filter_le _ _) hrl
        obtain ⟨out', e1, e2, e3⟩ := ih (i + 1) (out ++ seenActs ms[s]) (by omega) (by omega) (by simp; omega)
        refine ⟨out', ?_, e2, fun a => ?_⟩
        · simp only [lt_cast hlt, le0, Bool.and_true, cond_true, Int.toNat_natCast, at_lt hlt, hs, lt_cast hsl, at_lt hsl]
          exact h1.trans e1
        · rw [e3 a, List.mem_append, List.drop_eq_getElem_cons hlt]
          have hgs : ms.getD (q[i]).toNat [] = ms[s] := by rw [hs, Int.toNat_natCast, getD_lt hsl]
          constructor
          · rintro ((h | h) | ⟨v, hv, h⟩)
            · exact .inl h
            · exact .inr ⟨_, .head _, by rw [hgs]; exact h⟩
            · exact .inr ⟨v, .tail _ hv, h⟩
          · rintro (h | ⟨v, hv, h⟩)
            · exact .inl (.inl h)
            · rcases List.mem_cons.1 hv with rfl | hv
              · exact .inl (.inr (by rw [← hgs]; exact h))
              · exact .inr ⟨v, hv, h⟩
      · rw [ge_cast hlt, cond_false]
        refine ⟨out, rfl, by have : i = q.length := by omega
                             subst this; exact ho, fun a => ?_⟩
        rw [List.drop_eq_nil_of_le (by omega)]
        simp
  obtain ⟨out', e1, e2, e3⟩ := key L 0 [] (by omega) (by omega) (Nat.zero_le _)
  rw [List.drop_zero] at e3
  have hol : out'.length ≤ 62914560 := by
    have : q.length * 1048576 ≤ 60 * 1048576 := Nat.mul_le_mul_right _ (by omega)
    omega
  have e1' : f53.l0 L N (fun z5 => f53.p0_e0 L N some z5) L q (q.length : Int) 0 ms [] = f53.p0_e0 L N some out' := e1
  refine ⟨Go.Lib.compact (sortI out'), ?_, compactI_rises (sortI_le _), ?_, fun a => ?_⟩
  · refine e1'.trans ?_
    unfold f53.p0_e0 f53.p0_e0' fsort
    rw [dt (by omega), cond_true, Option.bind_some, sortI_length, dt (by omega), cond_true, Option.bind_some]
  · have := compactI_le (sortI out')
    rw [sortI_length] at this; omega
  · rw [compactI_mem, sortI_mem, e3 a]
    constructor
    · rintro (h | ⟨v, hv, h⟩)
      · cases h
      · obtain ⟨s, rfl, hsl⟩ := hrow v hv
        rw [Int.toNat_natCast, getD_lt hsl] at h
        obtain ⟨m, hmm, rfl⟩ := List.mem_map.1 h
        obtain ⟨h1, h2⟩ := List.mem_filter.1 hmm
        obtain ⟨k, hk, rfl⟩ := List.mem_iff_getElem.1 h1
        obtain ⟨t, ht, _⟩ := hm.nat hsl hk
        exact ⟨by rwa [bne_iff_ne] at h2, t, s, (hq.2.2.1 s).1 hv, hsl, k, hk, rfl, ht⟩
    · rintro ⟨h0, t, s, hs, hsl, k, hk, ha, ht⟩
      refine .inr ⟨(s : Int), (hq.2.2.1 s).2 hs, ?_⟩
      rw [Int.toNat_natCast, getD_lt hsl]
      exact List.mem_map.2 ⟨_, List.mem_filter.2 ⟨List.getElem_mem hk, by rw [bne_iff_ne, ha]; exact h0⟩, ha⟩
def keyB (q : List Int) : ByteArray := ⟨(keyL q).toArray⟩
theorem ba_app (a b : List UInt8) : (⟨a.toArray⟩ : ByteArray) ++ ⟨b.toArray⟩ = ⟨(a ++ b).toArray⟩ := by
  apply ByteArray.ext
  rw [ByteArray.data_append]
  simp
theorem ba_size (a : List UInt8) : (⟨a.toArray⟩ : ByteArray).size = a.length := by
  show a.toArray.size = _
  simp
theorem digL_len (n : Nat) : (digL n).length ≤ 2 := by unfold digL; split <;> simp
theorem setKey_ok (L N : Nat) (q : List Int) (hq : q.length ≤ 60) (hr : ∀ v ∈ q, 0 ≤ v ∧ v < 60) (hL : 100 < L) : f51 L N q = some (keyB q) := by
  show f51.b L N some q = _
  unfold f51.b f51.b'
  have key : ∀ (n i : Nat) (s : List UInt8), i ≤ q.length → q.length - i < n → s.length ≤ 10 + 4 * i →
      f51.l0 L N (fun z4 => f51.p0_e0 L N some z4) n ⟨s.toArray⟩ q (q.length : Int) (i : Int) = some ⟨(s ++ (numsL (q.drop i) ++ [93])).toArray⟩ := by
    intro n
    induction n with
    | zero => intro i s _ h; omega
    | succ n ih =>
      intro i s hi hn hs
      show f51.s0 L N _ (f51.l0 L N _ n) ⟨s.toArray⟩ q (q.length : Int) (i : Int) = _
      unfold f51.s0 f51.s0'
      by_cases hlt : i < q.length
      · have hv := hr _ (List.getElem_mem hlt)
        have hf : fitoa q[i] = some ⟨(digL (q[i]).toNat).toArray⟩ := by
          unfold fitoa itoaB
          rw [dt (show (0 : Int) ≤ q[i] by omega), dt (show q[i] < 100 by omega), dig_eq (by omega)]; rfl
        have h32 : (ByteArray.mk #[32]) = ⟨([32] : List UInt8).toArray⟩ := rfl
        have hd := digL_len (q[i]).toNat
        simp only [lt_cast hlt, le0, Bool.and_true, cond_true, Int.toNat_natCast, at_lt hlt, hf, Option.bind_some, h32, ba_app, ba_size]
        rw [dt (by simp; omega), dt (by simp; omega), cond_true, cond_true, wi_nat (by omega), ih (i + 1) _ (by omega) (by omega) (by simp; omega), List.drop_eq_getElem_cons hlt]
        congr 3
        unfold numsL
        rw [List.flatMap_cons]
        simp
      · rw [ge_cast hlt, cond_false, List.drop_eq_nil_of_le (by omega)]
        show f51.p0_e0 L N some ⟨s.toArray⟩ = _
        unfold f51.p0_e0 f51.p0_e0'
        have h93 : (ByteArray.mk #[93]) = ⟨([93] : List UInt8).toArray⟩ := rfl
        rw [h93, ba_app, ba_size, ba_size, dt (by simp; omega), cond_true]
        rfl
  have := key L 0 [91] (by omega) (by omega) (by simp)
  rw [List.drop_zero] at this
  exact this
theorem keyB_inj {a b : List Int} (ha : ∀ v ∈ a, 0 ≤ v ∧ v < 60) (hb : ∀ v ∈ b, 0 ≤ v ∧ v < 60) (h : keyB a = keyB b) : a = b := by
  have h1 : (keyL a).toArray = (keyL b).toArray := congrArg ByteArray.data h
  have h2 : keyL a = keyL b := by simpa using h1
  exact (keyL_inj (r := []) (r' := []) (fun v hv => by have := ha v hv; omega) (fun v hv => by have := hb v hv; omega) (by rw [h2])).1
theorem keyEq_str (x y : ByteArray) : keyEq .str x y = decide (x = y) := by
  show (x == y) = _
  rw [Bool.eq_iff_iff, decide_eq_true_eq]
  obtain ⟨a⟩ := x
  obtain ⟨b⟩ := y
  show (a == b) = true ↔ _
  rw [beq_iff_eq]
  exact ⟨fun h => by rw [h], fun h => congrArg ByteArray.data h⟩
theorem mapFind_put (x y : ByteArray) (v : Int) : ∀ es : List (ByteArray × Int), mapFind .str i64 x (mapPut .str i64 y v es) = if y = x then some v else mapFind .str i64 x es
  | [] => by
    show (bif keyEq .str x y then some v else none) = _
    by_cases e : y = x
    · subst e
      rw [show keyEq .str y y = true from by rw [keyEq_str]; exact dt rfl, cond_true, if_pos rfl]
    · rw [show keyEq .str x y = false from by rw [keyEq_str]; exact df fun h => e h.symm, cond_false, if_neg e]; rfl
  | (k, u) :: r => by
    have ih := mapFind_put x y v r
    by_cases e : y = k
    · subst e
      have h1 : mapPut .str i64 y v ((y, u) :: r) = (y, v) :: r := by
        show (bif keyEq .str y y then (y, v) :: r else _) = _
        rw [show keyEq .str y y = true from by rw [keyEq_str]; exact dt rfl, cond_true]
      rw [h1]
      show (bif keyEq .str x y then some v else mapFind .str i64 x r) = if y = x then some v else (bif keyEq .str x y then some u else mapFind .str i64 x r)
      by_cases e2 : y = x
      · subst e2
        rw [show keyEq .str y y = true from by rw [keyEq_str]; exact dt rfl, cond_true, if_pos rfl]
      · rw [show keyEq .str x y = false from by rw [keyEq_str]; exact df fun h => e2 h.symm, cond_false, cond_false, if_neg e2]
    · have h1 : mapPut .str i64 y v ((k, u) :: r) = (k, u) :: mapPut .str i64 y v r := by
        show (bif keyEq .str y k then _ else (k, u) :: mapPut .str i64 y v r) = _
        rw [show keyEq .str y k = false from by rw [keyEq_str]; exact df e, cond_false]
      rw [h1]
      show (bif keyEq .str x k then some u else mapFind .str i64 x (mapPut .str i64 y v r)) = if y = x then some v else (bif keyEq .str x k then some u else mapFind .str i64 x r)
      by_cases e2 : x = k
      · subst e2
        rw [show keyEq .str x x = true from by rw [keyEq_str]; exact dt rfl, cond_true, cond_true, if_neg e]
      · rw [show keyEq .str x k = false from by rw [keyEq_str]; exact df e2, cond_false, cond_false, ih]
def Places (S : List (List Int)) (es : List (ByteArray × Int)) : Prop := ∀ x : List Int, (∀ v ∈ x, 0 ≤ v ∧ v < 60) → mapFind .str i64 (keyB x) es = if x ∈ S then some ((S.idxOf x : Nat) : Int) else none
theorem Places.add {S : List (List Int)} {es : List (ByteArray × Int)} (h : Places S es) {y : List Int} (hy : ∀ v ∈ y, 0 ≤ v ∧ v < 60) (hn : y ∉ S) : Places (S ++ [y]) (mapPut .str i64 (keyB y) ((S.length : Nat) : Int) es) := by
  intro x hx
  rw [mapFind_put]
  by_cases e : y = x
  · subst e
    rw [if_pos rfl, if_pos (by simp), List.idxOf_append, if_neg hn]
    simp
  · rw [if_neg (fun h => e (keyB_inj hy hx h)), h x hx]
    by_cases hm : x ∈ S
    · rw [if_pos hm, if_pos (List.mem_append_left _ hm), List.idxOf_append, if_pos hm]
    · rw [if_neg hm, if_neg (by simp [hm]; exact fun h => e h.symm)]
theorem Places.nil : Places [] [] := fun x _ => by rw [if_neg (by simp)]; rfl
end Go.Proofs.YtffkhhblppfbfaaGreatDoor.Ev
namespace Go.Proofs.YtffkhhblppfbfaaGreatDoor.Ev
open Go
set_option linter.unusedVariables false
set_option linter.unusedSimpArgs false
def stepA (A : Int → List Int) : List Int → List (List Int) → List Move → Option (List (List Int) × List Move)
  | [], S, M => some (S, M)
  | a :: ac, S, M => if A a ∉ S ∧ S.length = 60 then none else stepA A ac (if A a ∈ S then S else S ++ [A a]) (M ++ [⟨a, ((S.idxOf (A a) : Nat) : Int)⟩])
theorem stepA_grow (A : Int → List Int) : ∀ (ac : List Int) (S : List (List Int)) (M : List Move) (S' : List (List Int)) (M' : List Move), stepA A ac S M = some (S', M') →
    (∃ T, S' = S ++ T) ∧ M'.map Move.act = M.map Move.act ++ ac ∧ (S.length ≤ 60 → S'.length ≤ 60) ∧ (S.length ≤ 60 → (∀ m ∈ M, 0 ≤ m.to ∧ m.to < 60) → ∀ m ∈ M', 0 ≤ m.to ∧ m.to < 60) ∧ (∀ x ∈ S', x ∈ S ∨ ∃ a ∈ ac, x = A a)
  | [], S, M, S', M', h => by
    obtain ⟨rfl, rfl⟩ := Prod.mk.inj (Option.some.inj h)
    exact ⟨⟨[], by simp⟩, by simp, fun h => h, fun _ h => h, fun x hx => .inl hx⟩
  | a :: ac, S, M, S', M', h => by
    unfold stepA at h
    split at h
    · cases h
    · rename_i hc
      obtain ⟨⟨T, e1⟩, e2, e3, e4, e5⟩ := stepA_grow A ac _ _ S' M' h
      have hidx : S.length ≤ 60 → S.idxOf (A a) < 60 := fun h60 => by
        by_cases hm : A a ∈ S
        · have := List.idxOf_lt_length_of_mem hm; omega
        · have h1 : S.length ≠ 60 := fun e => hc ⟨hm, e⟩
          have := List.idxOf_le_length (a := A a) (l := S)
          omega
      by_cases hm : A a ∈ S
      · rw [if_pos hm] at e1 e3 e4 e5
        refine ⟨⟨T, e1⟩, by rw [e2]; simp, e3, fun h60 hM => e4 h60 fun m hmm => ?_, fun x hx => ?_⟩
        · rcases List.mem_append.1 hmm with q | q
          · exact hM m q
          · obtain rfl := List.mem_singleton.1 q
            have := hidx h60
            exact ⟨by show (0 : Int) ≤ ((S.idxOf (A a) : Nat) : Int); omega, by show ((S.idxOf (A a) : Nat) : Int) < 60; omega⟩
        · rcases e5 x hx with q | ⟨b, hb, q⟩
          · exact .inl q
          · exact .inr ⟨b, .tail _ hb, q⟩
      · rw [if_neg hm] at e1 e3 e4 e5
        have hl : (S ++ [A a]).length = S.length + 1 := by simp
        have hne : S.length ≠ 60 := fun e => hc ⟨hm, e⟩
        refine ⟨⟨[A a] ++ T, by rw [e1, List.append_assoc]⟩, by rw [e2]; simp, fun h60 => e3 (by omega), fun h60 hM => e4 (by omega) fun m hmm => ?_, fun x hx => ?_⟩
        · rcases List.mem_append.1 hmm with q | q
          · exact hM m q
          · obtain rfl := List.mem_singleton.1 q
            have := hidx h60
            exact ⟨by show (0 : Int) ≤ ((S.idxOf (A a) : Nat) : Int); omega, by show ((S.idxOf (A a) : Nat) : Int) < 60; omega⟩
        · rcases e5 x hx with q | ⟨b, hb, q⟩
          · rcases List.mem_append.1 q with q | q
            · exact .inl q
            · exact .inr ⟨a, .head _, List.mem_singleton.1 q⟩
          · exact .inr ⟨b, .tail _ hb, q⟩
theorem idx_pre {α : Type} [BEq α] [LawfulBEq α] {x : α} {S T : List α} (h : x ∈ S) : (S ++ T).idxOf x = S.idxOf x := by
  rw [List.idxOf_append, if_pos h]
theorem idx_snoc {α : Type} [BEq α] [LawfulBEq α] {x : α} {S : List α} (h : x ∉ S) : (S ++ [x]).idxOf x = S.length := by
  rw [List.idxOf_append, if_neg h, List.idxOf_cons, beq_self_eq_true, cond_true, Nat.zero_add]
theorem stepA_idx (A : Int → List Int) : ∀ (ac : List Int) (S : List (List Int)) (M : List Move) (S' : List (List Int)) (M' : List Move), stepA A ac S M = some (S', M') →
    (∀ a ∈ ac, A a ∈ S') ∧ M' = M ++ ac.map fun a => ⟨a, ((S'.idxOf (A a) : Nat) : Int)⟩
  | [], S, M, S', M', h => by
    obtain ⟨rfl, rfl⟩ := Prod.mk.inj (Option.some.inj h)
    exact ⟨fun a h => (by cases h), by simp⟩
  | a :: ac, S, M, S', M', h => by
    have hh := h
    unfold stepA at h
    split at h
    · cases h
    · obtain ⟨h1, h2⟩ := stepA_idx A ac _ _ S' M' h
      obtain ⟨⟨T, e1⟩, -⟩ := stepA_grow A ac _ _ S' M' h
      have hin : A a ∈ (if A a ∈ S then S else S ++ [A a]) ∧ (if A a ∈ S then S else S ++ [A a]).idxOf (A a) = S.idxOf (A a) := by
        by_cases hm : A a ∈ S
        · rw [if_pos hm]; exact ⟨hm, rfl⟩
        · rw [if_neg hm]
          refine ⟨by simp, ?_⟩
          rw [idx_snoc hm, List.idxOf_eq_length hm]
      have hS' : A a ∈ S' := by rw [e1]; exact List.mem_append_left _ hin.1
      have hi : S'.idxOf (A a) = S.idxOf (A a) := by rw [e1, idx_pre hin.1, hin.2]
      refine ⟨fun b hb => ?_, ?_⟩
      · rcases List.mem_cons.1 hb with rfl | hb
        · exact hS'
        · exact h1 b hb
      · rw [h2, List.map_cons, hi, List.append_assoc]; rfl
theorem rises_risesM {M : List Move} (h : Rises (M.map Move.act)) : RisesM M := by
  unfold Rises at h
  rw [List.pairwise_map] at h
  exact h.imp fun {a b} hab => by unfold lessM; simp only [decide_eq_true_eq]; omega
theorem tidyM_self {M : List Move} (h : RisesM M) : tidyM M = M := risesM_ext (tidyM_rises M) h fun x => tidyM_mem M x
theorem from_step {ac : List Int} (hr : Rises ac) (a : Int) : ac.filter (fun b => decide (a ≤ b)) = (if a ∈ ac then [a] else []) ++ ac.filter (fun b => decide (a + 1 ≤ b)) := by
  have h1 : ∀ q : Int → Bool, Rises (ac.filter q) := fun q => List.Pairwise.filter _ hr
  refine rises_ext (h1 _) ?_ fun x => ?_
  · by_cases hm : a ∈ ac
    · rw [if_pos hm]
      refine List.pairwise_cons.2 ⟨fun b hb => ?_, h1 _⟩
      have := (List.mem_filter.1 hb).2
      simp only [decide_eq_true_eq] at this; omega
    · rw [if_neg hm]; exact h1 _
  · rw [List.mem_append, List.mem_filter, List.mem_filter, decide_eq_true_eq, decide_eq_true_eq]
    by_cases hm : a ∈ ac
    · rw [if_pos hm, List.mem_singleton]
      constructor
      · rintro ⟨h2, h3⟩
        by_cases e : x = a
        · exact .inl e
        · exact .inr ⟨h2, by omega⟩
      · rintro (rfl | ⟨h2, h3⟩)
        · exact ⟨hm, Int.le_refl _⟩
        · exact ⟨h2, by omega⟩
    · rw [if_neg hm]
      constructor
      · rintro ⟨h2, h3⟩
        have e : x ≠ a := fun e => hm (by rw [← e]; exact h2)
        exact .inr ⟨h2, by omega⟩
      · rintro (h | ⟨h2, h3⟩)
        · cases h
        · exact ⟨h2, by omega⟩
def listB (b : List Bool) : List Int := ((List.range b.length).filter fun t => b.getD t false).map Int.ofNat
theorem listB_mem (b : List Bool) (x : Int) : x ∈ listB b ↔ ∃ t : Nat, x = (t : Int) ∧ Tr b t := by
  unfold listB
  rw [List.mem_map]
  constructor
  · rintro ⟨t, ht, rfl⟩
    exact ⟨t, rfl, (List.mem_filter.1 ht).2⟩
  · rintro ⟨t, rfl, ht⟩
    exact ⟨t, List.mem_filter.2 ⟨List.mem_range.2 (Tr_lt ht), ht⟩, rfl⟩
theorem listB_rises (b : List Bool) : Rises (listB b) := by
  unfold listB Rises
  rw [List.pairwise_map]
  exact (List.Pairwise.filter _ List.pairwise_lt_range).imp fun h => by simp; omega
theorem listB_row {ms : List (List Move)} {b : List Bool} {X : Nat → Prop} (hb : b.length = ms.length) (h : ∀ t, Tr b t ↔ X t) : Row ms (listB b) X := by
  refine ⟨?_, fun v hv => ?_, fun t => ?_, listB_rises b⟩
  · unfold listB
    rw [List.length_map, ← hb]
    exact Nat.le_trans (List.length_filter_le _ _) (by simp)
  · obtain ⟨t, rfl, ht⟩ := (listB_mem b v).1 hv
    have := Tr_lt ht; omega
  · rw [listB_mem]
    constructor
    · rintro ⟨u, e, hu⟩
      obtain rfl : t = u := by omega
      exact (h t).1 hu
    · intro hx; exact ⟨t, rfl, (h t).2 hx⟩
theorem list8_is (L N : Nat) (b : List Bool) (hb : b.length ≤ 1048576) (hL : 1048576 < L) : f91 L N b = some (listB b) := by
  obtain ⟨q, e1, e2, e3, -⟩ := list8_ok L N b hb hL
  rw [e1, rises_ext e3 (listB_rises b) fun x => (e2 x).trans (listB_mem b x).symm]
theorem any8_ok (L N : Nat) (b : List Bool) (hb : b.length ≤ 1048576) (hL : 1048576 < L) : ∃ r, f61 L N b = some r ∧ (r = true ↔ ∃ t, Tr b t) := by
  show ∃ r, f61.b L N some b = some r ∧ _
  unfold f61.b f61.b'
  have key : ∀ (n i : Nat), i ≤ b.length → b.length - i < n → (∀ t, t < i → ¬ Tr b t) → ∃ r, f61.l0 L N (f61.p0_e0 L N some) (fun z2 => f61.p0_r L N some z2) n b (i : Int) = some r ∧ (r = true ↔ ∃ t, Tr b t) := by
    intro n
    induction n with
    | zero => intro i _ h; omega
    | succ n ih =>
      intro i hi hn hno
      show ∃ r, f61.s0 L N _ _ (f61.l0 L N _ _ n) b (i : Int) = some r ∧ _
      unfold f61.s0 f61.s0'
      by_cases hlt : i < b.length
      · simp only [lt_cast hlt, le0, cond_true, Bool.and_true, Int.toNat_natCast, atD]
        cases hc : b.getD i false with
        | true => rw [cond_true]; exact ⟨true, rfl, fun _ => ⟨i, hc⟩, fun _ => rfl⟩
        | false =>
          rw [cond_false, wi_nat (by omega)]
          refine ih (i + 1) (by omega) (by omega) fun t ht h => ?_
          by_cases e : t = i
          · subst e; unfold Tr at h; rw [hc] at h; cases h
          · exact hno t (by omega) h
      · rw [ge_cast hlt, cond_false]
        exact ⟨false, rfl, fun h => (by cases h), fun ⟨t, ht⟩ => absurd ht (hno t (by have := Tr_lt ht; omega))⟩
  exact key L 0 (by omega) (by omega) fun t h => by omega
theorem find8_ok (L N : Nat) (sets : List (List Bool)) (b : List Bool) (hs : ∀ s ∈ sets, s.length ≤ 1048576) (hb : b.length ≤ 1048576) (hl : sets.length ≤ 1048576) (hL : 1048576 < L) : f62 L N sets b = some (((sets.map listB).idxOf (listB b) : Nat) : Int) := by
  show f62.b L N some sets b = _
  unfold f62.b f62.b'
  have key : ∀ (n i : Nat), i ≤ sets.length → sets.length - i < n → f62.l0 L N (fun z3 => f62.p0_e0 L N some z3) (fun z7 z8 => f62.p0_r L N some z7 z8) n sets b (i : Int) = some (((i + ((sets.drop i).map listB).idxOf (listB b)) : Nat) : Int) := by
    intro n
    induction n with
    | zero => intro i _ h; omega
    | succ n ih =>
      intro i hi hn
      show f62.s0 L N _ _ (f62.l0 L N _ _ n) sets b (i : Int) = _
      unfold f62.s0 f62.s0'
      by_cases hlt : i < sets.length
      · have h1 := list8_is L N sets[i] (hs _ (List.getElem_mem hlt)) hL
        have h2 := list8_is L N b hb hL
        have hlen : (listB sets[i]).length ≤ 1048576 := by
          unfold listB
          rw [List.length_map]
          exact Nat.le_trans (List.length_filter_le _ _) (by simpa using hs _ (List.getElem_mem hlt))
        obtain ⟨r, e1, e2⟩ := l4Same_ok L N (listB sets[i]) (listB b) (by omega) hlen
        simp only [lt_cast hlt, le0, cond_true, Bool.and_true, Int.toNat_natCast, at_lt hlt, h1, h2, Option.bind_some, e1]
        rw [List.drop_eq_getElem_cons hlt, List.map_cons, List.idxOf_cons]
        cases hr : r with
        | true =>
          have he := e2.1 hr
          rw [cond_true, he, beq_self_eq_true, cond_true]
          rfl
        | false =>
          have he : ¬ listB sets[i] = listB b := fun h => by rw [e2.2 h] at hr; cases hr
          rw [cond_false, wi_nat (by omega), ih (i + 1) (by omega) (by omega), beq_eq_false_iff_ne.2 he, cond_false]
          congr 2
          omega
      · rw [ge_cast hlt, cond_false, List.drop_eq_nil_of_le (by omega)]
        show some ((sets.length : Nat) : Int) = _
        simp; omega
  have := key L 0 (by omega) (by omega)
  rw [List.drop_zero, Nat.zero_add] at this
  exact this
end Go.Proofs.YtffkhhblppfbfaaGreatDoor.Ev
namespace Go.Proofs.YtffkhhblppfbfaaGreatDoor.Ev
open Go
set_option linter.unusedVariables false
set_option linter.unusedSimpArgs false
theorem idx_not {α : Type} [BEq α] [LawfulBEq α] {a : α} : ∀ {l : List α}, a ∉ l → l.idxOf a = l.length
  | [], _ => rfl
  | b :: l, h => by
    have hne : (b == a) = false := beq_eq_false_iff_ne.2 fun e => h (by rw [e]; exact .head _)
    rw [List.idxOf_cons, hne, cond_false, idx_not fun hm => h (.tail _ hm)]; rfl
def Fits (ms : List (List Move)) (q : List Int) : Prop := Row ms q fun t => (t : Int) ∈ q
theorem Row.fits {ms : List (List Move)} {q : List Int} {X : Nat → Prop} (h : Row ms q X) : Fits ms q := ⟨h.1, h.2.1, fun _ => Iff.rfl, h.2.2.2⟩
theorem Fits.key {ms : List (List Move)} (hm : Leads ms) {q : List Int} (h : Fits ms q) : q.length ≤ 60 ∧ ∀ v ∈ q, 0 ≤ v ∧ v < 60 := by
  have hn := hm.1
  have h1 := h.1
  exact ⟨by omega, fun v hv => by have := h.2.1 v hv; omega⟩
section
variable (L N : Nat) (ms : List (List Move))
def aftA (q : List Int) (a : Int) : List Int := (f54 L N ⟨ms⟩ q a).getD []
theorem aftA_ok (hm : Leads ms) (hL : 8589934592 ≤ L) (q : List Int) (hq : Fits ms q) (a : Int) : f54 L N ⟨ms⟩ q a = some (aftA L N ms q a) ∧ Row ms (aftA L N ms q a) (Slip ms (StepX ms (fun t => (t : Int) ∈ q) a)) := by
  obtain ⟨q', e, h⟩ := after_row L N ms q _ a hm hq (by omega)
  unfold aftA
  rw [e]
  exact ⟨rfl, h⟩
theorem aftA_some (hm : Leads ms) (hL : 8589934592 ≤ L) (q : List Int) (hq : Fits ms q) (a : Int) : aftA L N ms q a ≠ [] ↔ ∃ t, StepX ms (fun t => (t : Int) ∈ q) a t := by
  obtain ⟨-, h⟩ := aftA_ok L N ms hm hL q hq a
  rw [← List.length_pos_iff, h.some]
  exact ⟨fun ⟨t, ht⟩ => slip_some ht, fun ⟨t, ht⟩ => ⟨t, .base t ht⟩⟩
theorem moves1_ok (hm : Leads ms) (hact : ∀ (i : Nat) (hi : i < ms.length), ∀ m ∈ ms[i], -4 ≤ m.act ∧ m.act ≤ 4) (hL : 8589934592 ≤ L) (q : List Int) (hq : Fits ms q) :
    ∃ ac, f52_1 L N q ms = some (ac, ac.map (aftA L N ms q), true) ∧ Rises ac ∧ ac.length ≤ 100000000 ∧ (∀ a, a ∈ ac ↔ a ≠ 0 ∧ aftA L N ms q a ≠ []) ∧ ∀ a ∈ ac, -4 ≤ a ∧ a ≤ 4 := by
  have hlim := lim_eq
  obtain ⟨ac, e1, e2, e3, e4⟩ := actsOf_ok L N ms hm q _ hq (by omega)
  refine ⟨ac, ?_, e2, e3, fun a => (e4 a).trans (and_congr Iff.rfl (aftA_some L N ms hm hL q hq a).symm), fun a ha => ?_⟩
  · show f52_1.b L N (fun a0 a1 a2 => some (a0, a1, a2)) q ms = _
    unfold f52_1.b f52_1.b'
    rw [e1, Option.bind_some]
    have key : ∀ (n j : Nat) (out : List (List Int)), j ≤ ac.length → ac.length - j < n → out.length ≤ j →
        f52_1.l0 L N (fun z8 z9 => f52_1.p0_e0 L N (fun a0 a1 a2 => some (a0, a1, a2)) z8 z9) n q ms ac ac (ac.length : Int) (j : Int) out = some (ac, out ++ (ac.drop j).map (aftA L N ms q), true) := by
      intro n
      induction n with
      | zero => intro j out _ h; omega
      | succ n ih =>
        intro j out hj hn ho
        show f52_1.s0 L N _ (f52_1.l0 L N _ n) q ms ac ac (ac.length : Int) (j : Int) out = _
        unfold f52_1.s0 f52_1.s0'
        by_cases hlt : j < ac.length
        · have ha := (aftA_ok L N ms hm hL q hq ac[j]).1
          have hle : decide (out.length + ([aftA L N ms q ac[j]] : List (List Int)).length ≤ lim) = true := dt (by simp only [List.length_cons, List.length_nil]; omega)
          simp only [lt_cast hlt, le0, Bool.and_true, cond_true, Int.toNat_natCast, at_lt hlt, ha, Option.bind_some, hle]
          rw [wi_nat (by omega), ih (j + 1) _ (by omega) (by omega) (by simp; omega), List.drop_eq_getElem_cons hlt, List.map_cons, List.append_assoc]; rfl
        · rw [ge_cast hlt, cond_false, List.drop_eq_nil_of_le (by omega)]
          show some (ac, out, true) = _
          rw [List.map_nil, List.append_nil]
    have := key L 0 [] (by omega) (by omega) (by simp)
    rw [List.drop_zero, List.nil_append] at this
    exact this
  · obtain ⟨h0, t, s, hs, hsl, k, hk, rfl, ht⟩ := (e4 a).1 ha
    exact hact s hsl _ (List.getElem_mem hk)
theorem inI {R : Type} (hm : Leads ms) (hL : 8589934592 ≤ L) (K2 : List (List Move) → Int → List (List Int) → List (ByteArray × Int) → List Move → List (List Move) → List (List Move) → Option R) (Kr : List (List Move) → Bool → Int → List (List Int) → List (ByteArray × Int) → List Move → List (List Move) → List (List Move) → Option R)
    (k : Int) (ac : List Int) (hac : ac.length ≤ 100000000) (A : Int → List Int) (hv : ∀ a, (A a).length ≤ 60 ∧ ∀ v ∈ A a, 0 ≤ v ∧ v < 60) (r1 r2 : List (List Move)) :
    ∀ (n j : Nat) (S : List (List Int)) (es : List (ByteArray × Int)) (M : List Move), j ≤ ac.length → ac.length - j < n → Places S es → S.length ≤ 60 → M.length ≤ j →
      match stepA A (ac.drop j) S M with
      | some (S', M') => ∃ es', Places S' es' ∧ f49_1.l1 L N K2 Kr n ms k ac (ac.map A) ((ac.map A).length : Int) (j : Int) S es M r1 r2 = K2 ms k S' es' M' r1 r2
      | none => ∃ S' es' M', f49_1.l1 L N K2 Kr n ms k ac (ac.map A) ((ac.map A).length : Int) (j : Int) S es M r1 r2 = Kr ms false k S' es' M' r1 r2 := by
  have hlim := lim_eq
  intro n
  induction n with
  | zero => intro j S es M _ h; omega
  | succ n ih =>
    intro j S es M hj hn hp hS hM
    have hu : f49_1.l1 L N K2 Kr (n + 1) ms k ac (ac.map A) ((ac.map A).length : Int) (j : Int) S es M r1 r2 = f49_1.s1 L N K2 Kr (f49_1.l1 L N K2 Kr n) ms k ac (ac.map A) ((ac.map A).length : Int) (j : Int) S es M r1 r2 := rfl
    rw [hu]
    unfold f49_1.s1 f49_1.s1'
    by_cases hlt : j < ac.length
    · have hlm : j < (ac.map A).length := by rw [List.length_map]; exact hlt
      have hat : (ac.map A)[j] = A ac[j] := by rw [List.getElem_map]
      have hkey := setKey_ok L N (A ac[j]) (hv _).1 (hv _).2 (by omega)
      have hf := hp (A ac[j]) (hv _).2
      have hle : decide (M.length + ([(⟨ac[j], ((S.idxOf (A ac[j]) : Nat) : Int)⟩ : Move)] : List Move).length ≤ lim) = true := dt (by simp only [List.length_cons, List.length_nil]; omega)
      rw [List.drop_eq_getElem_cons hlt]
      unfold stepA
      by_cases hmem : A ac[j] ∈ S
      · rw [if_pos hmem] at hf
        simp only [lt_cast hlm, le0, Bool.and_true, cond_true, Int.toNat_natCast, at_lt hlm, hat, hkey, Option.bind_some, hf]
        rw [if_neg (fun h => h.1 hmem), if_pos hmem, Option.isSome_some, Bool.not_true, cond_false]
        unfold f49_1.j0'
        simp only [lt_cast hlt, le0, Bool.and_true, cond_true, Int.toNat_natCast, at_lt hlt, Option.getD_some, hle]
        rw [wi_nat (by omega)]
        exact ih (j + 1) S es _ (by omega) (by omega) hp hS (by simp; omega)
      · have hidx := idx_not hmem
        rw [if_neg hmem] at hf
        simp only [lt_cast hlm, le0, Bool.and_true, cond_true, Int.toNat_natCast, at_lt hlm, hat, hkey, Option.bind_some, hf]
        rw [Option.isSome_none, Bool.not_false, cond_true]
        by_cases h60 : S.length = 60
        · have hb : ((S.length : Int) == 60) = true := beq_iff_eq.2 (by omega)
          rw [if_pos ⟨hmem, h60⟩, hb, cond_true]
          exact ⟨_, _, _, rfl⟩
        · have hb : ((S.length : Int) == 60) = false := beq_eq_false_iff_ne.2 (by omega)
          have hl2 : decide (S.length + ([A ac[j]] : List (List Int)).length ≤ lim) = true := dt (by simp only [List.length_cons, List.length_nil]; omega)
          rw [if_neg (fun h => h60 h.2), if_neg hmem, hb, cond_false, hl2, cond_true]
          unfold f49_1.j0'
          rw [hidx] at hle ⊢
          simp only [lt_cast hlt, le0, Bool.and_true, cond_true, Int.toNat_natCast, at_lt hlt, hle]
          rw [wi_nat (by omega)]
          exact ih (j + 1) _ _ _ (by omega) (by omega) (hp.add (hv _).2 hmem) (by simp; omega) (by simp; omega)
    · have hlm : ¬ j < (ac.map A).length := by rw [List.length_map]; exact hlt
      rw [ge_cast hlm, cond_false, List.drop_eq_nil_of_le (by omega)]
      exact ⟨es, hp, rfl⟩
theorem inS {R : Type} (hm : Leads ms) (hL : 8589934592 ≤ L) (K2 : Int → List (List Move) → List (List Bool) → List Move → List (List Move) → Option R) (Kr : Bool → Int → List (List Move) → List (List Bool) → List Move → List (List Move) → Option R)
    (k : Nat) (q : List Int) (hq : Fits ms q) (ac : List Int) (hr : Rises ac) (hac : ∀ a, a ∈ ac ↔ a ≠ 0 ∧ aftA L N ms q a ≠ []) (h4 : ∀ a ∈ ac, -4 ≤ a ∧ a ≤ 4) (rows : List (List Move)) :
    ∀ (d n : Nat) (sets : List (List Bool)) (M : List Move), d ≤ 9 → d < n → (sets.map listB)[k]? = some q → (∀ s ∈ sets, s.length = ms.length) → sets.length ≤ 60 → M.length + d ≤ 9 →
      match stepA (aftA L N ms q) (ac.filter fun b => decide ((5 : Int) - (d : Int) ≤ b)) (sets.map listB) M with
      | some (S', M') => ∃ sets', sets'.map listB = S' ∧ (∀ s ∈ sets', s.length = ms.length) ∧ f23.l1 L N K2 Kr n (k : Int) ((5 : Int) - (d : Int)) ms sets M rows = K2 (k : Int) ms sets' M' rows
      | none => ∃ sets' M', f23.l1 L N K2 Kr n (k : Int) ((5 : Int) - (d : Int)) ms sets M rows = Kr false (k : Int) ms sets' M' rows := by
  have hlim := lim_eq
  have hn := hm.1
  intro d
  induction d with
  | zero =>
    intro n sets M _ hn0 hk hs hl _
    obtain ⟨n, rfl⟩ : ∃ n', n = n' + 1 := ⟨n - 1, by omega⟩
    have hnil : (ac.filter fun b => decide ((5 : Int) - ((0 : Nat) : Int) ≤ b)) = [] := by
      rw [List.filter_eq_nil_iff]
      intro b hb
      have := h4 b hb
      simp only [decide_eq_true_eq]; omega
    rw [hnil]
    refine ⟨sets, rfl, hs, ?_⟩
    show f23.s1 L N K2 Kr (f23.l1 L N K2 Kr n) (k : Int) ((5 : Int) - ((0 : Nat) : Int)) ms sets M rows = _
    unfold f23.s1 f23.s1'
    rw [df (by omega), cond_false]
  | succ d ih =>
    intro n sets M hd9 hnd hk hs hl hM
    obtain ⟨n, rfl⟩ : ∃ n', n = n' + 1 := ⟨n - 1, by omega⟩
    have hu : f23.l1 L N K2 Kr (n + 1) (k : Int) ((5 : Int) - ((d + 1 : Nat) : Int)) ms sets M rows = f23.s1 L N K2 Kr (f23.l1 L N K2 Kr n) (k : Int) ((5 : Int) - ((d + 1 : Nat) : Int)) ms sets M rows := rfl
    rw [hu]
    generalize ha : (5 : Int) - ((d + 1 : Nat) : Int) = a
    have ha1 : a + 1 = (5 : Int) - (d : Int) := by omega
    have hwi : wi (a + 1) = (5 : Int) - (d : Int) := by rw [wi_id (by omega) (by omega)]; exact ha1
    have hkl : k < sets.length := by
      rcases Nat.lt_or_ge k sets.length with h | h
      · exact h
      · rw [List.getElem?_eq_none (by rw [List.length_map]; exact h)] at hk; cases hk
    have hkq : listB sets[k] = q := by
      rw [List.getElem?_map, List.getElem?_eq_getElem hkl] at hk
      exact Option.some.inj hk
    have hskl := hs _ (List.getElem_mem hkl)
    obtain ⟨out, o1, o2, o3⟩ := do8_ok L N ms sets[k] a hm hskl (by omega)
    have hrow := listB_row o2 o3
    have hx : ∀ t, Tr sets[k] t ↔ (t : Int) ∈ q := fun t => by
      rw [← hkq, listB_mem]
      exact ⟨fun h => ⟨t, rfl, h⟩, fun ⟨u, e, h⟩ => (show u = t by omega) ▸ h⟩
    have hA := (aftA_ok L N ms hm hL q hq a).2
    have hout : listB out = aftA L N ms q a := by
      refine Row.uniq (X := Slip ms (StepX ms (fun t => (t : Int) ∈ q) a)) ⟨hrow.1, hrow.2.1, fun t => (hrow.2.2.1 t).trans (Slip.iff (fun t => StepX.iff hx a t) t), hrow.2.2.2⟩ hA
    obtain ⟨r, r1, r2⟩ := any8_ok L N out (by omega) (by omega)
    have hra : r = true ↔ aftA L N ms q a ≠ [] := by
      rw [r2, ← hout]
      constructor
      · rintro ⟨t, ht⟩ e
        have := (listB_mem out (t : Int)).2 ⟨t, rfl, ht⟩
        rw [e] at this; cases this
      · intro h
        obtain ⟨v, hv⟩ := List.exists_mem_of_ne_nil _ h
        obtain ⟨t, -, ht⟩ := (listB_mem out v).1 hv
        exact ⟨t, ht⟩
    rw [from_step hr a]
    unfold f23.s1 f23.s1'
    simp only [dt (show a ≤ 4 by omega), lt_cast hkl, le0, Bool.and_true, cond_true, Int.toNat_natCast, at_lt hkl, o1, Option.bind_some]
    rw [hwi]
    have skip : a ∉ ac → match stepA (aftA L N ms q) ((if a ∈ ac then [a] else []) ++ ac.filter fun b => decide (a + 1 ≤ b)) (sets.map listB) M with
      | some (S', M') => ∃ sets', sets'.map listB = S' ∧ (∀ s ∈ sets', s.length = ms.length) ∧ f23.l1 L N K2 Kr n (k : Int) ((5 : Int) - (d : Int)) ms sets M rows = K2 (k : Int) ms sets' M' rows
      | none => ∃ sets' M', f23.l1 L N K2 Kr n (k : Int) ((5 : Int) - (d : Int)) ms sets M rows = Kr false (k : Int) ms sets' M' rows := fun hno => by
      rw [if_neg hno, List.nil_append, ha1]
      exact ih n sets M (by omega) (by omega) hk hs hl (by omega)
    by_cases ha0 : a = 0
    · have hb : (a == 0) = true := beq_iff_eq.2 ha0
      rw [hb, cond_true]
      exact skip fun h => ((hac a).1 h).1 ha0
    · have hb : (a == 0) = false := beq_eq_false_iff_ne.2 ha0
      rw [hb, cond_false, r1, Option.bind_some]
      cases hrr : r with
      | false =>
        rw [Bool.not_false, cond_true]
        exact skip fun h => by rw [hra.2 ((hac a).1 h).2] at hrr; cases hrr
      | true =>
        have hin : a ∈ ac := (hac a).2 ⟨ha0, hra.1 hrr⟩
        rw [Bool.not_true, cond_false, if_pos hin]
        show match stepA (aftA L N ms q) (a :: ac.filter fun b => decide (a + 1 ≤ b)) (sets.map listB) M with
          | some (S', M') => ∃ sets', sets'.map listB = S' ∧ (∀ s ∈ sets', s.length = ms.length) ∧ _ = K2 (k : Int) ms sets' M' rows
          | none => ∃ sets' M', _ = Kr false (k : Int) ms sets' M' rows
        unfold stepA f23.j0'
        have hfind := find8_ok L N sets out (fun s hs' => by rw [hs s hs']; omega) (by omega) (by omega) (by omega)
        rw [hout] at hfind
        have hle : decide (M.length + ([(⟨a, (((sets.map listB).idxOf (aftA L N ms q a) : Nat) : Int)⟩ : Move)] : List Move).length ≤ lim) = true := dt (by simp only [List.length_cons, List.length_nil]; omega)
        have hmapl : (sets.map listB).length = sets.length := List.length_map _
        simp only [hfind, Option.bind_some]
        rw [hwi]
        by_cases hmem : aftA L N ms q a ∈ sets.map listB
        · have hlt := List.idxOf_lt_length_of_mem hmem
          have b1 : ((((sets.map listB).idxOf (aftA L N ms q a) : Nat) : Int) == 60) = false := beq_eq_false_iff_ne.2 (by omega)
          have b2 : ((((sets.map listB).idxOf (aftA L N ms q a) : Nat) : Int) == (sets.length : Int)) = false := beq_eq_false_iff_ne.2 (by omega)
          rw [if_neg (fun h => h.1 hmem), if_pos hmem, b1, cond_false, b2, cond_false, hle, cond_true, ha1]
          exact ih n sets _ (by omega) (by omega) hk hs hl (by simp; omega)
        · have hidx := idx_not hmem
          rw [hidx, hmapl] at hle ⊢
          by_cases h60 : sets.length = 60
          · have b1 : ((sets.length : Int) == 60) = true := beq_iff_eq.2 (by omega)
            rw [if_pos ⟨hmem, h60⟩, b1, cond_true]
            exact ⟨_, _, rfl⟩
          · have b1 : ((sets.length : Int) == 60) = false := beq_eq_false_iff_ne.2 (by omega)
            have b2 : ((sets.length : Int) == (sets.length : Int)) = true := beq_self_eq_true _
            have hl2 : decide (sets.length + ([out] : List (List Bool)).length ≤ lim) = true := dt (by simp only [List.length_cons, List.length_nil]; omega)
            rw [if_neg (fun h => h60 h.2), if_neg hmem, b1, cond_false, b2, cond_true, hl2, cond_true, hle, cond_true, ha1]
            have hmp : sets.map listB ++ [aftA L N ms q a] = (sets ++ [out]).map listB := by rw [List.map_append, ← hout]; rfl
            rw [hmp]
            refine ih n (sets ++ [out]) _ (by omega) (by omega) ?_ (fun s hs' => ?_) (by simp; omega) (by simp; omega)
            · rw [← hmp, List.getElem?_append_left (by rw [List.length_map]; exact hkl)]; exact hk
            · rcases List.mem_append.1 hs' with h | h
              · exact hs s h
              · obtain rfl := List.mem_singleton.1 h; exact o2
end
end Go.Proofs.YtffkhhblppfbfaaGreatDoor.Ev
