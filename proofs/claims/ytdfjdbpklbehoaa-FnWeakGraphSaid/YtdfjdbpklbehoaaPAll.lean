/- Plain laws, in one text. -/
import Derived.Test.YtdfjdbpklbehoaaGD13b
import Derived.Test.YtdfjdbpklbehoaaEvZ
import Derived.Test.YtdfjdbpklbehoaaEvSort
namespace Go.Proofs.Ytdfjdbpklbehoaa.Ev
open Go
set_option linter.unusedVariables false
set_option linter.unusedSimpArgs false
theorem act1_ok (L N : Nat) (n : Int) : f72 L N n = some (decide (-4 ≤ n ∧ n ≤ 4)) := by
  show f72.b L N some n = _
  unfold f72.b f72.b'
  by_cases h : n ≥ -4
  · rw [dt h, cond_true]; congr 1; by_cases h2 : n ≤ 4
    · rw [dt h2, dt (by omega)]
    · rw [df h2, df (by omega)]
  · rw [df h, cond_false, df (by omega)]
theorem in_ok (L N : Nat) (n a b : Int) : f96 L N n a b = some (decide (a ≤ n ∧ n ≤ b)) := by
  show f96.b L N some n a b = _
  unfold f96.b f96.b'
  by_cases h : n ≥ a
  · rw [dt h, cond_true]; congr 1; by_cases h2 : n ≤ b
    · rw [dt h2, dt (by omega)]
    · rw [df h2, df (by omega)]
  · rw [df h, cond_false, df (by omega)]
theorem act2_ok (L N : Nat) (n : Int) : f97 L N n = some (decide (-4 ≤ n ∧ n ≤ 4)) := by
  show f97.b L N some n = _
  unfold f97.b f97.b'
  rw [in_ok]; rfl
def gsize (ms : List (List Move)) : Nat := (ms.map List.length).sum
theorem gsize_row {ms : List (List Move)} : ∀ r ∈ ms, r.length ≤ gsize ms := by
  intro r hr
  unfold gsize
  induction ms with
  | nil => cases hr
  | cons a ms ih =>
    rw [List.map_cons, List.sum_cons]
    rcases List.mem_cons.1 hr with rfl | hr
    · omega
    · have := ih hr; omega
theorem allN_true (k i : Nat) : allN (fun _ => true) k i = true := by
  induction k generalizing i with
  | zero => rfl
  | succ k ih => exact ih (i + 1)
def lessM (a b : Move) : Bool := decide (a.act < b.act ∨ (a.act = b.act ∧ a.to < b.to))
def mvOk (n : Nat) (m : Move) : Bool := decide (-4 ≤ m.act ∧ m.act ≤ 4) && decide (0 ≤ m.to ∧ m.to < (n : Int))
def atOk (n : Nat) (r : List Move) (k : Nat) : Bool := mvOk n (r.getD k ⟨0, 0⟩) && (decide (k = 0) || lessM (r.getD (k - 1) ⟨0, 0⟩) (r.getD k ⟨0, 0⟩))
def rowOk (n : Nat) (r : List Move) : Bool := allN (atOk n r) r.length 0
def graphOk (g : Graph) : Bool := decide (1 ≤ g.moves.length ∧ g.moves.length ≤ 60) && allN (fun i => rowOk g.moves.length (g.moves.getD i [])) g.moves.length 0
theorem atD {α : Type} (x : List α) (d : α) (i : Nat) : listAt x d i = x.getD i d := rfl
theorem less2_ok (L N : Nat) (a b : Move) : f98 L N a b = some (lessM a b) := by
  show f98.b L N some a b = _
  unfold f98.b f98.b' lessM
  by_cases h : a.act < b.act
  · rw [dt h, cond_true, dt (by omega)]
  · rw [df h, cond_false]
    by_cases h2 : a.act = b.act
    · have : (a.act == b.act) = true := by simpa using h2
      rw [this, cond_true]
      by_cases h3 : a.to < b.to
      · rw [dt h3, dt (by omega)]
      · rw [df h3, df (by omega)]
    · have : (a.act == b.act) = false := by simpa using h2
      rw [this, cond_false, df (by omega)]
theorem cmp_ok (L N : Nat) (a b : Int) : f108 L N a b = some (if a < b then -1 else if a > b then 1 else 0) := by
  show f108.b L N some a b = _
  unfold f108.b f108.b'
  have h0 : ∀ a, f136 L N a = some false := fun a => by
    show f136.b L N some a = _
    unfold f136.b f136.b'
    simp
  simp only [h0, Option.bind_some, cond_false]
  by_cases h : a < b
  · rw [dt h, cond_true, if_pos h]
  · rw [df h, cond_false, if_neg h]
    by_cases h2 : a > b
    · rw [dt h2, cond_true, if_pos h2]
    · rw [df h2, cond_false, if_neg h2]
theorem byMove_ok (L N : Nat) (a b : Move) : ∃ r : Int, f73 L N a b = some r ∧ decide (r ≥ 0) = !lessM a b := by
  show ∃ r, f73.b L N some a b = some r ∧ _
  unfold f73.b f73.b' lessM
  simp only [cmp_ok, Option.bind_some]
  by_cases h : a.act < b.act
  · rw [if_pos h]
    exact ⟨-1, rfl, by rw [dt (show a.act < b.act ∨ _ from .inl h)]; rfl⟩
  · rw [if_neg h]
    by_cases h2 : a.act > b.act
    · rw [if_pos h2]
      exact ⟨1, rfl, by rw [df (show ¬ (a.act < b.act ∨ a.act = b.act ∧ a.to < b.to) by omega)]; rfl⟩
    · rw [if_neg h2]
      refine ⟨_, rfl, ?_⟩
      by_cases h3 : a.to < b.to
      · rw [if_pos h3, dt (show a.act < b.act ∨ a.act = b.act ∧ a.to < b.to by omega)]; rfl
      · rw [if_neg h3, df (show ¬ (a.act < b.act ∨ a.act = b.act ∧ a.to < b.to) by omega)]
        by_cases h4 : a.to > b.to
        · rw [if_pos h4]; rfl
        · rw [if_neg h4]; rfl
end Go.Proofs.Ytdfjdbpklbehoaa.Ev
namespace Go.Proofs.Ytdfjdbpklbehoaa.Ev
open Go
set_option linter.unusedVariables false
set_option linter.unusedSimpArgs false
theorem getD_lt {α : Type} {x : List α} {d : α} {i : Nat} (h : i < x.length) : x.getD i d = x[i] := by
  rw [List.getD_eq_getElem?_getD, List.getElem?_eq_getElem h]; rfl
theorem pred_cast {k : Nat} (h : 0 < k) (h2 : k < 9223372036854775807) : wi ((k : Int) - 1) = ((k - 1 : Nat) : Int) := by
  rw [wi_id (by omega) (by omega)]; omega
theorem mv_eta (m : Move) : Move.mk m.act m.to = m := by cases m; rfl
theorem gok2_ok (L N : Nat) (g : Graph) (hL : 1048576 < L) (hs : g.moves.length + gsize g.moves ≤ 1048576) : f58 L N g = some (graphOk g) := by
  show f58.b L N some g = _
  unfold f58.b f58.b' graphOk
  generalize hms : g.moves = ms
  rw [hms] at hs
  rw [in_ok]
  simp only [Option.bind_some]
  by_cases hr : 1 ≤ (ms.length : Int) ∧ (ms.length : Int) ≤ 60
  · rw [dt hr, dt (show 1 ≤ ms.length ∧ ms.length ≤ 60 by omega)]
    simp only [Bool.not_true, cond_false, Bool.true_and]
    refine (all_loop (l := fun n i => f58.l0 L N (f58.p0_e0 L N some) (fun z => f58.p0_r L N some z) n i ms) (len := ms.length) (q := fun i => rowOk ms.length (ms.getD i [])) (rt := some true) (rf := some false) (fun n i hi => ?_) (fun n => ?_) L 0 (by omega) (by omega)).trans ?_
    · show f58.s0 L N _ _ (f58.l0 L N _ _ n) i ms = _
      unfold f58.s0 f58.s0'
      simp only [lt_cast hi, cond_true, getD_lt hi]
      have hrow := gsize_row _ (List.getElem_mem hi)
      refine (all_loop (l := fun n k => f58.l1 L N (fun z6 z7 => f58.p1_e2 L N (f58.p0_e0 L N some) (fun z => f58.p0_r L N some z) (f58.l0 L N (f58.p0_e0 L N some) (fun z => f58.p0_r L N some z) _) z6 z7) (fun z15 z16 z17 => f58.p1_r L N (f58.p0_e0 L N some) (fun z => f58.p0_r L N some z) (f58.l0 L N (f58.p0_e0 L N some) (fun z => f58.p0_r L N some z) _) z15 z16 z17) n i k ms) (len := (ms[i]).length) (q := atOk ms.length ms[i]) (rt := f58.l0 L N (f58.p0_e0 L N some) (fun z => f58.p0_r L N some z) n ((i + 1 : Nat) : Int) ms) (rf := some false) (fun n' k hk => ?_) (fun n' => ?_) L 0 (by omega) (by omega)).trans (by rw [Nat.sub_zero]; rfl)
      · show f58.s1 L N _ _ (f58.l1 L N _ _ n') i k ms = _
        unfold f58.s1 f58.s1'
        have hw : wi ((ms.length : Int) - 1) = (ms.length : Int) - 1 := wi_id (by omega) (by omega)
        simp only [lt_cast hi, le0, cond_true, Bool.and_true, Bool.true_and, Int.toNat_natCast, at_lt hi, lt_cast hk, at_lt hk, act2_ok, in_ok, Option.bind_some, less2_ok, hw, mv_eta, wi_nat (show k < 9223372036854775807 by omega)]
        unfold atOk mvOk
        rw [getD_lt hk]
        by_cases hA : -4 ≤ (ms[i])[k].act ∧ (ms[i])[k].act ≤ 4
        · by_cases hB : 0 ≤ (ms[i])[k].to ∧ (ms[i])[k].to < (ms.length : Int)
          · rw [dt hA, dt hB, dt (show 0 ≤ (ms[i])[k].to ∧ (ms[i])[k].to ≤ (ms.length : Int) - 1 by omega)]
            simp only [Bool.not_true, cond_false, Bool.true_and]
            by_cases hk0 : k = 0
            · subst hk0
              rfl
            · have hp : k - 1 < (ms[i]).length := by omega
              rw [dt (show (k : Int) > 0 by omega), cond_true, pred_cast (by omega) (by omega)]
              simp only [le0, lt_cast hp, Bool.and_true, cond_true, Int.toNat_natCast, at_lt hp, Option.bind_some, df hk0, Bool.false_or, getD_lt hp]
              cases lessM (ms[i])[k - 1] (ms[i])[k] <;> rfl
          · rw [dt hA, df hB, df (show ¬ (0 ≤ (ms[i])[k].to ∧ (ms[i])[k].to ≤ (ms.length : Int) - 1) by omega)]
            rfl
        · rw [df hA]
          rfl
      · show f58.s1 L N _ _ (f58.l1 L N _ _ n') i (ms[i]).length ms = _
        unfold f58.s1 f58.s1'
        simp only [lt_cast hi, le0, cond_true, Bool.and_true, Bool.true_and, Int.toNat_natCast, at_lt hi, ge_cast (Nat.lt_irrefl _), cond_false]
        show f58.l0 L N _ _ n (wi ((i : Int) + 1)) ms = _
        rw [wi_nat (by omega)]
    · show f58.s0 L N _ _ (f58.l0 L N _ _ n) ms.length ms = _
      unfold f58.s0 f58.s0'
      simp only [ge_cast (Nat.lt_irrefl _), cond_false]
      rfl
    · rw [Nat.sub_zero]
      cases allN (fun i => rowOk ms.length (ms.getD i [])) ms.length 0 <;> rfl
  · rw [df hr, df (show ¬ (1 ≤ ms.length ∧ ms.length ≤ 60) by omega)]
    rfl
theorem gok1_ok (L N : Nat) (g : Graph) (hL : 1048576 < L) (hs : g.moves.length + gsize g.moves ≤ 1048576) : f32 L N g = some (graphOk g) := by
  show f32.b L N some g = _
  unfold f32.b f32.b' graphOk
  generalize hms : g.moves = ms
  rw [hms] at hs
  by_cases h1 : (ms.length : Int) < 1
  · rw [dt h1, cond_true, df (show ¬ (1 ≤ ms.length ∧ ms.length ≤ 60) by omega)]; rfl
  · rw [df h1, cond_false]
    by_cases h2 : (ms.length : Int) > 60
    · rw [dt h2, cond_true, df (show ¬ (1 ≤ ms.length ∧ ms.length ≤ 60) by omega)]; rfl
    · rw [df h2, cond_false, dt (show 1 ≤ ms.length ∧ ms.length ≤ 60 by omega)]
      simp only [Bool.true_and]
      unfold f32.j0'
      refine (all_loop (l := fun n i => f32.l0 L N (f32.p0_e0 L N some) (fun z => f32.p0_r L N some z) n ms (ms.length : Int) i ms) (len := ms.length) (q := fun i => rowOk ms.length (ms.getD i [])) (rt := some true) (rf := some false) (fun n i hi => ?_) (fun n => ?_) L 0 (by omega) (by omega)).trans ?_
      · show f32.s0 L N _ _ (f32.l0 L N _ _ n) ms (ms.length : Int) i ms = _
        unfold f32.s0 f32.s0'
        simp only [lt_cast hi, le0, Bool.and_true, cond_true, Int.toNat_natCast, at_lt hi, getD_lt hi]
        have hrow := gsize_row _ (List.getElem_mem hi)
        refine (all_loop (l := fun n k => f32.l1 L N (fun z15 z16 z17 z18 => f32.p1_e2 L N (f32.p0_e0 L N some) (fun z => f32.p0_r L N some z) (f32.l0 L N (f32.p0_e0 L N some) (fun z => f32.p0_r L N some z) _) z15 z16 z17 z18) (fun z30 z31 z32 z33 z34 => f32.p1_r L N (f32.p0_e0 L N some) (fun z => f32.p0_r L N some z) (f32.l0 L N (f32.p0_e0 L N some) (fun z => f32.p0_r L N some z) _) z30 z31 z32 z33 z34) n ms[i] ms (ms.length : Int) i ms[i] ((ms[i]).length : Int) k ms) (len := (ms[i]).length) (q := atOk ms.length ms[i]) (rt := f32.l0 L N (f32.p0_e0 L N some) (fun z => f32.p0_r L N some z) n ms (ms.length : Int) ((i + 1 : Nat) : Int) ms) (rf := some false) (fun n' k hk => ?_) (fun n' => ?_) L 0 (by omega) (by omega)).trans (by rw [Nat.sub_zero]; rfl)
        · show f32.s1 L N _ _ (f32.l1 L N _ _ n') ms[i] ms (ms.length : Int) i ms[i] ((ms[i]).length : Int) k ms = _
          unfold f32.s1 f32.s1'
          simp only [le0, cond_true, Bool.and_true, Bool.true_and, Int.toNat_natCast, lt_cast hk, at_lt hk, act1_ok, Option.bind_some, mv_eta, wi_nat (show k < 9223372036854775807 by omega)]
          unfold atOk mvOk
          rw [getD_lt hk]
          by_cases hA : -4 ≤ (ms[i])[k].act ∧ (ms[i])[k].act ≤ 4
          · rw [dt hA]
            simp only [Bool.not_true, cond_false, Bool.true_and]
            by_cases hB0 : (ms[i])[k].to < 0
            · rw [dt hB0, df (show ¬ (0 ≤ (ms[i])[k].to ∧ (ms[i])[k].to < (ms.length : Int)) by omega)]; rfl
            · rw [df hB0, cond_false]
              by_cases hB1 : (ms[i])[k].to ≥ (ms.length : Int)
              · rw [dt hB1, df (show ¬ (0 ≤ (ms[i])[k].to ∧ (ms[i])[k].to < (ms.length : Int)) by omega)]; rfl
              · rw [df hB1, cond_false, dt (show 0 ≤ (ms[i])[k].to ∧ (ms[i])[k].to < (ms.length : Int) by omega)]
                by_cases hk0 : k = 0
                · subst hk0
                  rfl
                · have hp : k - 1 < (ms[i]).length := by omega
                  rw [dt (show (k : Int) > 0 by omega), cond_true, pred_cast (by omega) (by omega)]
                  obtain ⟨r, hr, hd⟩ := byMove_ok L N (ms[i])[k - 1] (ms[i])[k]
                  simp only [le0, lt_cast hp, Bool.and_true, cond_true, Int.toNat_natCast, at_lt hp, hr, Option.bind_some, hd, df hk0, Bool.false_or, Bool.true_and, getD_lt hp]
                  cases lessM (ms[i])[k - 1] (ms[i])[k] <;> rfl
          · rw [df hA]
            rfl
        · show f32.s1 L N _ _ (f32.l1 L N _ _ n') ms[i] ms (ms.length : Int) i ms[i] ((ms[i]).length : Int) (ms[i]).length ms = _
          unfold f32.s1 f32.s1'
          simp only [ge_cast (Nat.lt_irrefl _), cond_false]
          show f32.l0 L N _ _ n ms (ms.length : Int) (wi ((i : Int) + 1)) ms = _
          rw [wi_nat (by omega)]
      · show f32.s0 L N _ _ (f32.l0 L N _ _ n) ms (ms.length : Int) ms.length ms = _
        unfold f32.s0 f32.s0'
        simp only [ge_cast (Nat.lt_irrefl _), cond_false]
        rfl
      · rw [Nat.sub_zero]
        cases allN (fun i => rowOk ms.length (ms.getD i [])) ms.length 0 <;> rfl
theorem graphOk_mv {g : Graph} (h : graphOk g = true) : 1 ≤ g.moves.length ∧ g.moves.length ≤ 60 ∧ ∀ (i : Nat) (hi : i < g.moves.length) (k : Nat) (hk : k < (g.moves[i]).length), -4 ≤ (g.moves[i])[k].act ∧ (g.moves[i])[k].act ≤ 4 ∧ 0 ≤ (g.moves[i])[k].to ∧ (g.moves[i])[k].to < (g.moves.length : Int) := by
  unfold graphOk at h
  simp only [Bool.and_eq_true, decide_eq_true_eq] at h
  refine ⟨h.1.1, h.1.2, fun i hi k hk => ?_⟩
  have h1 := allN_get _ 0 h.2 i (by omega) (by omega)
  simp only [getD_lt hi] at h1
  have h2 := allN_get _ 0 h1 k (by omega) (by omega)
  unfold atOk mvOk at h2
  rw [getD_lt hk] at h2
  simp only [Bool.and_eq_true, decide_eq_true_eq] at h2
  exact ⟨h2.1.1.1, h2.1.1.2, h2.1.2.1, h2.1.2.2⟩
end Go.Proofs.Ytdfjdbpklbehoaa.Ev
namespace Go.Proofs.Ytdfjdbpklbehoaa.Ev
open Go
set_option linter.unusedVariables false
def BOk (c : List Int) : Prop := c.length ≤ 2000 ∧ ∀ b ∈ c, 0 ≤ b ∧ b ≤ 255
theorem BOk.at {c : List Int} (h : BOk c) (i : Nat) : 0 ≤ listAt c (0 : Int) i ∧ listAt c (0 : Int) i ≤ 255 := by
  by_cases hi : i < c.length
  · rw [at_lt hi]; exact h.2 _ (List.getElem_mem hi)
  · have : listAt c (0 : Int) i = 0 := by
      unfold listAt
      rw [List.getD_eq_getElem?_getD, List.getElem?_eq_none (by omega)]; rfl
    omega
theorem xor_nonneg {a b : Int} (a0 : 0 ≤ a) (a1 : a < 9223372036854775808) (b0 : 0 ≤ b) (b1 : b < 9223372036854775808) :
    0 ≤ IntKind.wrap .i64 ((BitVec.ofInt (IntKind.bits .i64) a ^^^ BitVec.ofInt (IntKind.bits .i64) b).toNat) := by
  have key : ((BitVec.ofInt (IntKind.bits .i64) a ^^^ BitVec.ofInt (IntKind.bits .i64) b).toNat) < 9223372036854775808 := by
    rw [BitVec.toNat_xor]
    have h1 : (BitVec.ofInt (IntKind.bits .i64) a).toNat < 2 ^ 63 := by
      rw [BitVec.toNat_ofInt]
      have : ((2 ^ IntKind.bits .i64 : Nat) : Int) = 18446744073709551616 := by decide
      rw [this]; omega
    have h2 : (BitVec.ofInt (IntKind.bits .i64) b).toNat < 2 ^ 63 := by
      rw [BitVec.toNat_ofInt]
      have : ((2 ^ IntKind.bits .i64 : Nat) : Int) = 18446744073709551616 := by decide
      rw [this]; omega
    have := Nat.xor_lt_two_pow h1 h2
    omega
  have := wi_id (n := ((BitVec.ofInt (IntKind.bits .i64) a ^^^ BitVec.ofInt (IntKind.bits .i64) b).toNat : Int)) (by omega) (by omega)
  unfold wi at this
  rw [this]; omega
theorem tmod_range {x n : Int} (h0 : 0 ≤ x) (h1 : 1 ≤ n) : 0 ≤ Int.tmod x n ∧ Int.tmod x n < n :=
  ⟨Int.tmod_nonneg n h0, Int.tmod_lt_of_pos x (by omega)⟩
theorem pick_ok (L N : Nat) {c : List Int} (hb : BOk c) {p n : Int} (p0 : 0 ≤ p) (p1 : p ≤ 1099511627776) (n1 : 1 ≤ n) : ∃ r, f91 L N c p n = some (r, c, p + 1) ∧ 0 ≤ r ∧ r < n := by
  show ∃ r, f91.b L N (fun a0 a1 a2 => some (a0, a1, a2)) c p n = _ ∧ _
  unfold f91.b f91.b' f91.j0'
  have hw : wi (p + 1) = p + 1 := wi_id (by omega) (by omega)
  have hw1 : wi (p + 1 - 1) = p := by
    have h1 : p + 1 - 1 = p := by omega
    rw [h1]; exact wi_id (by omega) (by omega)
  rw [df (show ¬ n < 1 by omega), cond_false, hw, hw1]
  have hl := hb.1
  by_cases he : c.length = 0
  · have : ((c.length : Int) == 0) = true := by rw [beq_iff_eq]; omega
    rw [this, cond_true]
    exact ⟨0, rfl, by omega, by omega⟩
  · have : ((c.length : Int) == 0) = false := by simp; intro h; simp [h] at he
    rw [this, cond_false]
    by_cases hlt : p < (c.length : Int)
    · rw [dt hlt, cond_true, dt p0, Bool.true_and, cond_true, df (show ¬ n = 0 by omega), cond_false]
      have := hb.at p.toNat
      rw [wi_id (by omega) (by omega)]
      have := tmod_range this.1 n1
      exact ⟨_, rfl, this.1, this.2⟩
    · rw [df hlt, cond_false]
      have hq := tmod_range (n := (c.length : Int)) p0 (by omega)
      have h7 : wi (wi (p * 7) + 3) = p * 7 + 3 := by rw [wi_id (n := p * 7) (by omega) (by omega), wi_id (by omega) (by omega)]
      have hr := tmod_range (x := p * 7 + 3) (n := (c.length : Int)) (by omega) (by omega)
      rw [df (show ¬ (c.length : Int) = 0 by omega), cond_false, dt hq.1, dt hq.2, Bool.true_and, cond_true, h7, dt hr.1, dt hr.2, Bool.true_and, cond_true, df (show ¬ n = 0 by omega)]
      simp only [cond_false, show decide ((64 : Int) = 0) = false from rfl]
      have b1 := hb.at (Int.tmod p (c.length : Int)).toNat
      have b2 := hb.at (Int.tmod (p * 7 + 3) (c.length : Int)).toNat
      generalize listAt c (0 : Int) (Int.tmod p (c.length : Int)).toNat = x1 at b1 ⊢
      generalize listAt c (0 : Int) (Int.tmod (p * 7 + 3) (c.length : Int)).toNat = x2 at b2 ⊢
      have hd0 : 0 ≤ Int.tdiv p (c.length : Int) := Int.tdiv_nonneg p0 (by omega)
      have hd1 : Int.tdiv p (c.length : Int) ≤ p := Int.tdiv_le_self _ p0
      generalize Int.tdiv p (c.length : Int) = q at hd0 hd1 ⊢
      rw [wi_id (n := x1) (by omega) (by omega), wi_id (n := x2) (by omega) (by omega), wi_id (n := x1 * 131) (by omega) (by omega), wi_id (n := x2 * 1117) (by omega) (by omega), wi_id (n := x1 * 131 + x2 * 1117) (by omega) (by omega),
        wi_id (n := p * 29) (by omega) (by omega), wi_id (n := x1 * 131 + x2 * 1117 + p * 29) (by omega) (by omega), wi_id (n := q) (by omega) (by omega), wi_id (n := q * 53) (by omega) (by omega), wi_id (n := x1 * 131 + x2 * 1117 + p * 29 + q * 53) (by omega) (by omega)]
      have ha0 : 0 ≤ x1 * 131 + x2 * 1117 + p * 29 + q * 53 := by omega
      have ha1 : x1 * 131 + x2 * 1117 + p * 29 + q * 53 < 1000000000000000 := by omega
      generalize x1 * 131 + x2 * 1117 + p * 29 + q * 53 = a at ha0 ha1 ⊢
      have hs0 : 0 ≤ Int.tdiv a 64 := Int.tdiv_nonneg ha0 (by omega)
      have hs1 : Int.tdiv a 64 ≤ a := Int.tdiv_le_self _ ha0
      generalize Int.tdiv a 64 = s at hs0 hs1 ⊢
      rw [wi_id (n := s) (by omega) (by omega)]
      have := tmod_range (xor_nonneg ha0 (by omega) hs0 (by omega)) n1
      exact ⟨_, rfl, this.1, this.2⟩
theorem open_ok (L N : Nat) {x : List Int} (hx : DatOk (.sl (.int .u8)) x) : ∃ c, f68 L N x = some (c, 0) ∧ BOk c := by
  have hb : ∀ b ∈ x, 0 ≤ b ∧ b ≤ 255 := by
    intro b hb
    have h1 := hx (.sl (x.map fun n => [.int .u8 n])) (by simp only [enc, List.mem_cons, List.not_mem_nil, or_false])
    cases h1 with | sl _ h1 h2 =>
    have h3 := h2 [.int .u8 b] (List.mem_map.2 ⟨b, hb, rfl⟩) (.int .u8 b) (.head _)
    cases h3 with | int _ _ h3 =>
    simp only [Lit.wf, Bool.and_eq_true, decide_eq_true_eq] at h3
    exact h3
  show ∃ c, f68.b L N (fun a0 a1 => some (a0, a1)) x = _ ∧ _
  unfold f68.b f68.b'
  by_cases h : (x.length : Int) > 2000
  · rw [dt h, cond_true]
    have hs : slB (0 : Int) (2000 : Int) x.length = true := by
      unfold slB
      rw [dt (show (0 : Int) ≤ 0 by omega), dt (show (0 : Int) ≤ 2000 by omega), dt (show (2000 : Int) ≤ (x.length : Int) by omega)]; rfl
    rw [hs, cond_true]
    refine ⟨_, rfl, ?_, fun b hb' => ?_⟩
    · unfold slX
      rw [List.length_take]
      have : (2000 : Int).toNat - (0 : Int).toNat = 2000 := rfl
      rw [this]; omega
    · unfold slX at hb'
      exact hb b (List.mem_of_mem_drop (List.mem_of_mem_take hb'))
  · rw [df h, cond_false]
    exact ⟨x, rfl, by omega, hb⟩
theorem do_ok (L N : Nat) {c : List Int} (hb : BOk c) {p : Int} (p0 : 0 ≤ p) (p1 : p ≤ 1099511600000) : ∃ r, f134 L N c p = some (r, c, p + 2) ∧ -4 ≤ r ∧ r ≤ 4 := by
  show ∃ r, f134.b L N (fun a0 a1 a2 => some (a0, a1, a2)) c p = _ ∧ _
  unfold f134.b f134.b'
  obtain ⟨r, hr, r0, r1⟩ := pick_ok L N hb p0 (by omega) (show (1 : Int) ≤ 3 by omega)
  rw [hr]
  simp only [Option.bind_some]
  by_cases h : r > 0
  · rw [dt h, cond_true]
    obtain ⟨s, hs, s0, s1⟩ := pick_ok L N hb (p := p + 1) (by omega) (by omega) (show (1 : Int) ≤ 5 by omega)
    rw [hs]
    simp only [Option.bind_some]
    rw [wi_id (by omega) (by omega)]
    exact ⟨_, by rw [show p + 1 + 1 = p + 2 by omega], by omega, by omega⟩
  · rw [df h, cond_false]
    obtain ⟨s, hs, s0, s1⟩ := pick_ok L N hb (p := p + 1) (by omega) (by omega) (show (1 : Int) ≤ 9 by omega)
    rw [hs]
    simp only [Option.bind_some]
    rw [wi_id (by omega) (by omega)]
    exact ⟨_, by rw [show p + 1 + 1 = p + 2 by omega], by omega, by omega⟩
end Go.Proofs.Ytdfjdbpklbehoaa.Ev
namespace Go.Proofs.Ytdfjdbpklbehoaa.Ev
open Go
set_option linter.unusedVariables false
mutual
def nodes : Tree → Nat
  | .mk _ _ ps => 1 + nodess ps
def nodess : List Tree → Nat
  | [] => 0
  | p :: r => nodes p + nodess r
end
theorem nodes_pos (t : Tree) : 1 ≤ nodes t := by cases t; simp [nodes]
theorem nodess_len : ∀ ps : List Tree, ps.length ≤ nodess ps
  | [] => by simp
  | p :: r => by have := nodess_len r; have := nodes_pos p; simp [nodess]; omega
theorem nodess_drop {ps : List Tree} {i : Nat} (h : i < ps.length) : nodess (ps.drop i) = nodes ps[i] + nodess (ps.drop (i + 1)) := by
  rw [List.drop_eq_getElem_cons h]; rfl
theorem nodess_drop_le : ∀ (ps : List Tree) (i : Nat), nodess (ps.drop i) ≤ nodess ps
  | [], i => by simp
  | p :: r, 0 => by simp
  | p :: r, i + 1 => by have := nodess_drop_le r i; simp [nodess]; omega
theorem nodes_get {ps : List Tree} {i : Nat} (h : i < ps.length) : nodes ps[i] ≤ nodess ps := by
  have h1 := nodess_drop h
  have h2 := nodess_drop_le ps i
  omega
end Go.Proofs.Ytdfjdbpklbehoaa.Ev
namespace Go.Proofs.Ytdfjdbpklbehoaa.Ev
open Go
set_option linter.unusedVariables false
set_option linter.unusedSimpArgs false
theorem tree_eta (t : Tree) : Tree.mk t.op t.n t.parts = t := by cases t; rfl
theorem nodes_mk (o n : Int) (t : Tree) : nodes (Tree.mk o n t.parts) = nodes t := by cases t; simp [nodes, Tree.parts]
theorem pow3_pos (d : Nat) : 1 ≤ 3 ^ d := Nat.one_le_pow _ _ (by omega)
theorem pow2_pos (d : Nat) : 1 ≤ 2 ^ d := Nat.one_le_pow _ _ (by omega)
theorem good_draw (L N : Nat) {c : List Int} (hb : BOk c) : ∀ (m d : Nat) (p n : Int) (b : Bool), d < m → d ≤ 6 → 0 ≤ p → p + 20 * ((3 ^ d : Nat) : Int) ≤ 1099511000000 → 0 ≤ n →
    ∃ t p', f147 L N m c p (d : Int) n b = some (t, c, p') ∧ p ≤ p' ∧ p' ≤ p + 20 * ((3 ^ d : Nat) : Int) ∧ nodes t + 1 ≤ 3 * 2 ^ d := by
  intro m
  induction m with
  | zero => intro d p n b h; omega
  | succ m ih =>
    intro d p n b hdm hd p0 pb n0
    have h3 := pow3_pos d
    have h2 := pow2_pos d
    show ∃ t p', f147.b L N (f147 L N m) (fun a0 a1 a2 => some (a0, a1, a2)) c p (d : Int) n b = _ ∧ _
    unfold f147.b f147.b'
  
    have tail : ∀ (v q : Int) (call : Bool), 0 ≤ v → (d = 0 → v < 2) → p ≤ q → q ≤ p + 2 → (call = true → 0 < n) → (v = 0 ∨ 1 ≤ v) →
        ∃ t p', f147.j0' L N (f147 L N m) (fun a0 a1 a2 => some (a0, a1, a2)) (d : Int) n b v call c q (0 : Int) (0 : Int) = some (t, c, p') ∧ p ≤ p' ∧ p' ≤ p + 20 * ((3 ^ d : Nat) : Int) ∧ nodes t + 1 ≤ 3 * 2 ^ d := by
      intro v q call v0 vd hq0 hq1 hcall _
      unfold f147.j0'
      cases call with
      | true =>
        rw [cond_true]
        obtain ⟨r, hr, r0, r1⟩ := pick_ok L N hb (p := q) (n := n) (by omega) (by omega) (by have := hcall rfl; omega)
        rw [hr]
        simp only [Option.bind_some]
        exact ⟨_, _, rfl, by omega, by omega, by simp only [nodes, nodess]; omega⟩
      | false =>
        rw [cond_false]
        by_cases hv0 : v = 0
        · rw [show (v == 0) = true by simpa using hv0, cond_true]
          exact ⟨_, _, rfl, by omega, by omega, by simp only [nodes, nodess]; omega⟩
        · rw [show (v == 0) = false by simpa using hv0, cond_false]
          by_cases hv5 : v < 5
          · rw [dt hv5, cond_true]
            obtain ⟨r, hr, r0, r1⟩ := do_ok L N hb (p := q) (by omega) (by omega)
            rw [hr]
            simp only [Option.bind_some]
            by_cases hdz : d = 0
            · subst hdz
              rw [show (((0 : Nat) : Int) == 0) = true from rfl, cond_true]
              exact ⟨_, _, rfl, by omega, by omega, by simp [nodes, nodess]⟩
            · obtain ⟨d', rfl⟩ : ∃ d', d = d' + 1 := ⟨d - 1, by omega⟩
              have hpw : ((3 ^ (d' + 1) : Nat) : Int) = 3 * ((3 ^ d' : Nat) : Int) := by rw [Nat.pow_succ]; omega
              have hpw2 : 2 ^ (d' + 1) = 2 * 2 ^ d' := by rw [Nat.pow_succ]; omega
              have hw : wi (((d' + 1 : Nat) : Int) - 1) = (d' : Int) := by rw [wi_id (by omega) (by omega)]; omega
              have h3' := pow3_pos d'
              rw [show ((((d' + 1 : Nat) : Int)) == 0) = false by simp; omega, cond_false, hw]
              have hmax : (bif decide ((d' : Int) > 0) then (d' : Int) else 0) = (d' : Int) := by
                by_cases h : (d' : Int) > 0
                · rw [dt h, cond_true]
                · rw [df h, cond_false]; omega
              rw [hmax]
              obtain ⟨t, p', e, e1, e2, e3⟩ := ih d' (q + 2) n true (by omega) (by omega) (by omega) (by omega) n0
              rw [e]
              simp only [Option.bind_some]
              exact ⟨_, _, rfl, by omega, by omega, by simp only [nodes, nodess]; omega⟩
          · rw [df hv5, cond_false]
            have hdz : d ≠ 0 := fun h => by have := vd h; omega
            obtain ⟨d', rfl⟩ : ∃ d', d = d' + 1 := ⟨d - 1, by omega⟩
            have hpw : ((3 ^ (d' + 1) : Nat) : Int) = 3 * ((3 ^ d' : Nat) : Int) := by rw [Nat.pow_succ]; omega
            have hpw2 : 2 ^ (d' + 1) = 2 * 2 ^ d' := by rw [Nat.pow_succ]; omega
            have hw : wi (((d' + 1 : Nat) : Int) - 1) = (d' : Int) := by rw [wi_id (by omega) (by omega)]; omega
            have h3' := pow3_pos d'
            by_cases hv5' : v = 5
            · rw [show (v == 5) = true by simpa using hv5', cond_true]
              obtain ⟨r, hr, r0, r1⟩ := pick_ok L N hb (p := q) (n := 4) (by omega) (by omega) (by omega)
              rw [hr]
              simp only [Option.bind_some, hw]
              obtain ⟨t, p', e, e1, e2, e3⟩ := ih d' (q + 1) n b (by omega) (by omega) (by omega) (by omega) n0
              rw [e]
              simp only [Option.bind_some]
              exact ⟨_, _, rfl, by omega, by omega, by simp only [nodes, nodess]; omega⟩
            · rw [show (v == 5) = false by simpa using hv5', cond_false, hw]
              obtain ⟨t, p', e, e1, e2, e3⟩ := ih d' q n b (by omega) (by omega) (by omega) (by omega) n0
              obtain ⟨t2, p2, f, f1, f2, f3⟩ := ih d' p' n b (by omega) (by omega) (by omega) (by omega) n0
              rw [e]
              simp only [Option.bind_some, f, tree_eta]
              cases hv8 : (v == 8) with
              | true =>
                rw [cond_true]
                exact ⟨_, _, rfl, by omega, by omega, by simp only [nodes, nodess]; omega⟩
              | false =>
                rw [cond_false]
                exact ⟨_, _, rfl, by omega, by omega, by simp only [nodes, nodess]; omega⟩
    have mid : ∀ (v q : Int), 0 ≤ v → (d = 0 → v < 2) → p ≤ q → q ≤ p + 2 →
        ∃ t p', f147.j1' L N (f147 L N m) (fun a0 a1 a2 => some (a0, a1, a2)) (d : Int) n b v c q (0 : Int) (0 : Int) = some (t, c, p') ∧ p ≤ p' ∧ p' ≤ p + 20 * ((3 ^ d : Nat) : Int) ∧ nodes t + 1 ≤ 3 * 2 ^ d := by
      intro v q v0 vd hq0 hq1
      unfold f147.j1'
      by_cases h2' : v < 2
      · rw [dt h2', cond_true]
        by_cases hn : n > 0
        · rw [dt hn, cond_true]
          exact tail v q b v0 vd hq0 hq1 (fun _ => by omega) (by omega)
        · rw [df hn, cond_false]
          exact tail v q false v0 vd hq0 hq1 (fun h => by cases h) (by omega)
      · rw [df h2', cond_false]
        exact tail v q false v0 vd hq0 hq1 (fun h => by cases h) (by omega)
    obtain ⟨r, hr, r0, r1⟩ := pick_ok L N hb (p := p) (n := 9) p0 (by omega) (by omega)
    rw [hr]
    simp only [Option.bind_some]
    by_cases hdz : d = 0
    · subst hdz
      obtain ⟨s, hs, s0, s1⟩ := pick_ok L N hb (p := p + 1) (n := 2) (by omega) (by omega) (by omega)
      rw [show (((0 : Nat) : Int) == 0) = true from rfl, cond_true, hs]
      simp only [Option.bind_some]
      exact mid s (p + 1 + 1) s0 (fun _ => s1) (by omega) (by omega)
    · rw [show ((d : Int) == 0) = false by simp; omega, cond_false]
      exact mid r (p + 1) r0 (fun h => absurd h hdz) (by omega) (by omega)
theorem term_draw (L N : Nat) (hN : 8 ≤ N) {c : List Int} (hb : BOk c) {p n : Int} (p0 : 0 ≤ p) (pb : p ≤ 1000000000) (n0 : 0 ≤ n) :
    ∃ t p', f131 L N c p n = some (t, c, p') ∧ p ≤ p' ∧ p' ≤ p + 10000 ∧ nodes t ≤ 50 := by
  show ∃ t p', f131.b' L N (fun a0 a1 a2 => some (a0, a1, a2)) c p n = _ ∧ _
  unfold f131.b'
  obtain ⟨r, hr, r0, r1⟩ := pick_ok L N hb (p := p) (n := 4) p0 (by omega) (by omega)
  obtain ⟨k, rfl⟩ := Int.eq_ofNat_of_zero_le r0
  have hw : wi (1 + (k : Int)) = ((k + 1 : Nat) : Int) := by rw [wi_id (by omega) (by omega)]; omega
  have h3 : ((3 ^ (k + 1) : Nat) : Int) ≤ 81 := by have := Nat.pow_le_pow_right (n := 3) (by omega) (show k + 1 ≤ 4 by omega); omega
  have h2 : 2 ^ (k + 1) ≤ 16 := by have := Nat.pow_le_pow_right (n := 2) (by omega) (show k + 1 ≤ 4 by omega); omega
  obtain ⟨t, p', e, e1, e2, e3⟩ := good_draw L N hb N (k + 1) (p + 1) n false (by omega) (by omega) (by omega) (by omega) n0
  obtain ⟨s, hs, s0, s1⟩ := pick_ok L N hb (p := p') (n := 24) (by omega) (by omega) (by omega)
  rw [hr]
  simp only [Option.bind_some, hw, e, hs, tree_eta]
  by_cases q0 : s = 0
  · rw [show (s == 0) = true by simpa using q0, cond_true]
    exact ⟨_, _, rfl, by omega, by omega, by rw [nodes_mk]; omega⟩
  · rw [show (s == 0) = false by simpa using q0, cond_false]
    by_cases q1 : s = 1
    · obtain ⟨u, hu, u0, u1⟩ := pick_ok L N hb (p := p' + 1) (n := 8) (by omega) (by omega) (by omega)
      rw [show (s == 1) = true by simpa using q1, cond_true, hu]
      simp only [Option.bind_some]
      exact ⟨_, _, rfl, by omega, by omega, by rw [nodes_mk]; omega⟩
    · rw [show (s == 1) = false by simpa using q1, cond_false]
      by_cases q2 : s = 2
      · rw [show (s == 2) = true by simpa using q2, cond_true]
        have hlen := nodess_len t.parts
        have hnt : nodes t = 1 + nodess t.parts := by cases t; rfl
        have hlim := lim_eq
        have hle : decide (([(Tree.mk (0 : Int) (0 : Int) [])] : (List Tree)).length + t.parts.length ≤ lim) = true := dt (by simp only [List.length_cons, List.length_nil]; omega)
        rw [hle, cond_true]
        refine ⟨_, _, rfl, by omega, by omega, ?_⟩
        show 1 + (nodes (Tree.mk 0 0 []) + nodess t.parts) ≤ 50
        simp only [nodes, nodess]
        omega
      · rw [show (s == 2) = false by simpa using q2, cond_false]
        exact ⟨_, _, rfl, by omega, by omega, by omega⟩
theorem defs_draw (L N : Nat) (hN : 8 ≤ N) (hL : 8 ≤ L) {c : List Int} (hb : BOk c) {p : Int} (p0 : 0 ≤ p) (pb : p ≤ 1000000000) :
    ∃ ds p', f130 L N c p = some (ds, c, p') ∧ p ≤ p' ∧ p' ≤ p + 10000 ∧ ds.length ≤ 3 ∧ ∀ d ∈ ds, nodes d ≤ 50 := by
  have hlim := lim_eq
  show ∃ ds p', f130.b L N (fun a0 a1 a2 => some (a0, a1, a2)) c p = _ ∧ _
  unfold f130.b f130.b'
  obtain ⟨r, hr, r0, r1⟩ := pick_ok L N hb (p := p) (n := 4) p0 (by omega) (by omega)
  obtain ⟨k, rfl⟩ := Int.eq_ofNat_of_zero_le r0
  rw [hr]
  simp only [Option.bind_some]
  have fin : ∀ (q : Int) (ds : List Tree), p ≤ q → q ≤ p + 9000 → ds.length = k → (∀ d ∈ ds, nodes d ≤ 50) → ∃ ds' p', f130.p0_e0' L N (fun a0 a1 a2 => some (a0, a1, a2)) (k : Int) c q ds = some (ds', c, p') ∧ p ≤ p' ∧ p' ≤ p + 10000 ∧ ds'.length ≤ 3 ∧ ∀ d ∈ ds', nodes d ≤ 50 := by
    intro q ds hq0 hq1 hl hd
    unfold f130.p0_e0'
    have plain : ∀ q', p ≤ q' → q' ≤ p + 10000 → ∃ ds' p', f130.j0' L N (fun a0 a1 a2 => some (a0, a1, a2)) (k : Int) false c q' ds = some (ds', c, p') ∧ p ≤ p' ∧ p' ≤ p + 10000 ∧ ds'.length ≤ 3 ∧ ∀ d ∈ ds', nodes d ≤ 50 := fun q' h1 h2 => by
      unfold f130.j0'
      rw [cond_false]
      exact ⟨_, _, rfl, h1, h2, by omega, hd⟩
    by_cases hk : (k : Int) > 0
    · rw [dt hk, cond_true]
      obtain ⟨s, hs, s0, s1⟩ := pick_ok L N hb (p := q) (n := 20) (by omega) (by omega) (by omega)
      rw [hs]
      simp only [Option.bind_some]
      cases hs0 : (s == 0) with
      | false => exact plain _ (by omega) (by omega)
      | true =>
        unfold f130.j0'
        rw [cond_true]
        obtain ⟨u, hu, u0, u1⟩ := pick_ok L N hb (p := q + 1) (n := (k : Int)) (by omega) (by omega) (by omega)
        obtain ⟨k1, rfl⟩ := Int.eq_ofNat_of_zero_le u0
        have hw : wi ((k : Int) + 1) = ((k + 1 : Nat) : Int) := wi_nat (by omega)
        obtain ⟨v, hv, v0, v1⟩ := pick_ok L N hb (p := q + 1 + 1) (n := ((k + 1 : Nat) : Int)) (by omega) (by omega) (by omega)
        have hkl : k1 < ds.length := by omega
        simp only [hu, Option.bind_some, hw, hv, le0, lt_cast hkl, Bool.and_true, cond_true, Int.toNat_natCast]
        refine ⟨_, _, rfl, by omega, by omega, by simp [hl]; omega, fun d hdm => ?_⟩
        rcases List.mem_or_eq_of_mem_set hdm with h | h
        · exact hd d h
        · rw [h]; simp [nodes, nodess]
    · rw [df hk, cond_false]
      exact plain q hq0 (by omega)
  have key : ∀ (n i : Nat) (q : Int) (ds : List Tree), i ≤ k → k - i < n → ds.length = i → (∀ d ∈ ds, nodes d ≤ 50) → p ≤ q → q ≤ p + 1 + 2000 * (i : Int) →
      ∃ ds' p', f130.l0 L N (fun z6 z7 z8 z9 => f130.p0_e0 L N (fun a0 a1 a2 => some (a0, a1, a2)) z6 z7 z8 z9) n (k : Int) (i : Int) c q ds = some (ds', c, p') ∧ p ≤ p' ∧ p' ≤ p + 10000 ∧ ds'.length ≤ 3 ∧ ∀ d ∈ ds', nodes d ≤ 50 := by
    intro n
    induction n with
    | zero => intro i q ds _ h; omega
    | succ n ih =>
      intro i q ds hi hn hl hd hq0 hq1
      show ∃ ds' p', f130.s0 L N _ (f130.l0 L N _ n) (k : Int) (i : Int) c q ds = _ ∧ _
      unfold f130.s0 f130.s0'
      by_cases hlt : i < k
      · obtain ⟨s, hs, s0, s1⟩ := pick_ok L N hb (p := q) (n := 3) (by omega) (by omega) (by omega)
        obtain ⟨k2, rfl⟩ := Int.eq_ofNat_of_zero_le s0
        have hw : wi (1 + (k2 : Int)) = ((k2 + 1 : Nat) : Int) := by rw [wi_id (by omega) (by omega)]; omega
        have h3 : ((3 ^ (k2 + 1) : Nat) : Int) ≤ 81 := by have := Nat.pow_le_pow_right (n := 3) (by omega) (show k2 + 1 ≤ 4 by omega); omega
        have h2 : 2 ^ (k2 + 1) ≤ 16 := by have := Nat.pow_le_pow_right (n := 2) (by omega) (show k2 + 1 ≤ 4 by omega); omega
        obtain ⟨t, p', e, e1, e2, e3⟩ := good_draw L N hb N (k2 + 1) (q + 1) (k : Int) false (by omega) (by omega) (by omega) (by omega) (by omega)
        have hle : decide (ds.length + ([t] : List Tree).length ≤ lim) = true := dt (by simp only [List.length_cons, List.length_nil]; omega)
        simp only [lt_cast hlt, cond_true, hs, Option.bind_some, hw, e, hle]
        rw [wi_nat (by omega)]
        refine ih (i + 1) p' _ (by omega) (by omega) (by simp [hl]) (fun d hdm => ?_) (by omega) (by omega)
        rcases List.mem_append.1 hdm with h | h
        · exact hd d h
        · rw [List.mem_singleton.1 h]; omega
      · simp only [ge_cast hlt, cond_false]
        have hi' : i = k := by omega
        subst hi'
        exact fin q ds hq0 (by omega) hl hd
  exact key L 0 (p + 1) [] (by omega) (by omega) rfl (fun d h => by cases h) (by omega) (by omega)
theorem called_draw (L N : Nat) (hN : 8 ≤ N) (hL : 8 ≤ L) {c : List Int} (hb : BOk c) {p : Int} (p0 : 0 ≤ p) (pb : p ≤ 100000000) :
    ∃ t ds p', f103 L N c p = some (t, ds, c, p') ∧ p ≤ p' ∧ p' ≤ p + 30000 ∧ nodes t ≤ 50 ∧ ds.length ≤ 3 ∧ ∀ d ∈ ds, nodes d ≤ 50 := by
  show ∃ t ds p', f103.b' L N (fun a0 a1 a2 a3 => some (a0, a1, a2, a3)) c p = _ ∧ _
  unfold f103.b'
  obtain ⟨ds, p1, e, e1, e2, e3, e4⟩ := defs_draw L N hN hL hb p0 (by omega)
  obtain ⟨t, p2, f, f1, f2, f3⟩ := term_draw L N hN hb (p := p1) (n := (ds.length : Int)) (by omega) (by omega) (by omega)
  rw [e]
  simp only [Option.bind_some, f]
  have plain : ∀ q, p ≤ q → q ≤ p + 30000 → ∃ t' ds' p', f103.j0' L N (fun a0 a1 a2 a3 => some (a0, a1, a2, a3)) ds false c q (0 : Int) (0 : Int) t.op t.n t.parts = some (t', ds', c, p') ∧ p ≤ p' ∧ p' ≤ p + 30000 ∧ nodes t' ≤ 50 ∧ ds'.length ≤ 3 ∧ ∀ d ∈ ds', nodes d ≤ 50 := fun q h1 h2 => by
    unfold f103.j0'
    rw [cond_false]
    exact ⟨_, _, _, rfl, h1, h2, by show nodes (Tree.mk t.op t.n t.parts) ≤ 50; rw [tree_eta]; exact f3, e3, e4⟩
  by_cases hk : (ds.length : Int) > 0
  · rw [dt hk, cond_true]
    obtain ⟨s, hs, s0, s1⟩ := pick_ok L N hb (p := p2) (n := 3) (by omega) (by omega) (by omega)
    rw [hs]
    simp only [Option.bind_some]
    cases hs0 : (s == 0) with
    | false => exact plain _ (by omega) (by omega)
    | true =>
      unfold f103.j0'
      rw [cond_true]
      obtain ⟨u, hu, u0, u1⟩ := pick_ok L N hb (p := p2 + 1) (n := (ds.length : Int)) (by omega) (by omega) (by omega)
      rw [hu]
      simp only [Option.bind_some]
      exact ⟨_, _, _, rfl, by omega, by omega, by simp [nodes, nodess], e3, e4⟩
  · rw [df hk, cond_false]
    exact plain p2 (by omega) (by omega)
end Go.Proofs.Ytdfjdbpklbehoaa.Ev
namespace Go.Proofs.Ytdfjdbpklbehoaa.Ev
open Go
set_option linter.unusedVariables false
set_option linter.unusedSimpArgs false
inductive WT : Tree → Nat → Prop
  | nil : WT (.mk 0 0 []) 1
  | act (n : Int) (t : Tree) (k : Nat) (hn : -4 ≤ n ∧ n ≤ 4) (h : WT t k) : WT (.mk 1 n [t]) (k + 1)
  | sum (a b : Tree) (i j : Nat) (ha : WT a i) (hb : WT b j) : WT (.mk 2 0 [a, b]) (i + j + 1)
  | par (a b : Tree) (i j : Nat) (ha : WT a i) (hb : WT b j) : WT (.mk 3 0 [a, b]) (i + j + 1)
  | hide (n : Int) (t : Tree) (k : Nat) (hn : 0 ≤ n ∧ n ≤ 3) (h : WT t k) : WT (.mk 4 n [t]) (k + 1)
  | call (n : Int) (hn : 0 ≤ n ∧ n ≤ 2) : WT (.mk 5 n []) 1
theorem WT.pos {t : Tree} {k : Nat} (h : WT t k) : 1 ≤ k := by cases h <;> omega
theorem WT.nodes_eq {t : Tree} {k : Nat} (h : WT t k) : nodes t = k := by
  induction h with
  | nil => simp [nodes, nodess]
  | act n t k hn h ih => simp only [nodes, nodess]; omega
  | sum a b i j ha hb iha ihb => simp only [nodes, nodess]; omega
  | par a b i j ha hb iha ihb => simp only [nodes, nodess]; omega
  | hide n t k hn h ih => simp only [nodes, nodess]; omega
  | call n hn => simp [nodes, nodess]
inductive CL (n : Int) : Bool → Tree → Prop
  | call (b : Bool) (x : Int) (ps : List Tree) (h : x < n) : CL n b (.mk 5 x ps)
  | stop (x : Int) (ps : List Tree) : CL n true (.mk 1 x ps)
  | node (b : Bool) (o x : Int) (ps : List Tree) (ho : o ≠ 5) (h : ∀ p ∈ ps, CL n b p) : CL n b (.mk o x ps)
theorem CL.sub {n : Int} {o x : Int} {ps : List Tree} (h : CL n false (.mk o x ps)) (ho : o ≠ 5) : ∀ p ∈ ps, CL n false p := by
  cases h with
  | call b x ps h => exact absurd rfl ho
  | node b o x ps ho h => exact h
theorem CL.sub2 {n : Int} {o x : Int} {ps : List Tree} (h : CL n true (.mk o x ps)) (ho : o ≠ 5) (h1 : o ≠ 1) : ∀ p ∈ ps, CL n true p := by
  cases h with
  | call b x ps h => exact absurd rfl ho
  | stop x ps => exact absurd rfl h1
  | node b o x ps ho h => exact h
theorem CL.lt {n : Int} {b : Bool} {x : Int} {ps : List Tree} (h : CL n b (.mk 5 x ps)) : x < n := by
  cases h with
  | call b x ps h => exact h
  | node b o x ps ho h => exact absurd rfl ho
theorem l2Nodes_ok (L N : Nat) : ∀ (m : Nat) (t : Tree), nodes t ≤ m → nodes t < L → ∃ r : Int, f152 L N m t = some r ∧ 0 ≤ r ∧ r ≤ 1000 ∧ (1 ≤ r → r < 1000 → WT t r.toNat) := by
  intro m
  induction m with
  | zero => intro t h; have := nodes_pos t; omega
  | succ m ih =>
    intro t ht hL
    obtain ⟨o, x, ps⟩ := t
    simp only [nodes] at ht hL
    have hpl := nodess_len ps
    show ∃ r, f152.b L N (f152 L N m) some (.mk o x ps) = some r ∧ _
    unfold f152.b f152.b'
    simp only [Tree.op, Tree.n, Tree.parts]
  
    have sub : ∀ p ∈ ps, ∃ r : Int, f152 L N m p = some r ∧ 0 ≤ r ∧ r ≤ 1000 ∧ (1 ≤ r → r < 1000 → WT p r.toNat) := fun p hp => by
      obtain ⟨i, hi, rfl⟩ := List.mem_iff_getElem.1 hp
      have := nodes_get hi
      exact ih _ (by omega) (by omega)
    obtain ⟨L', rfl⟩ : ∃ L', L = L' + 1 := ⟨L - 1, by omega⟩
    have fin : ∀ (c : Nat) (ok : Bool) (P : Prop), c ≤ 2 → (ok = true → P) →
        (P → (c = 0 → ps = [] → WT (.mk o x ps) 1) ∧ (∀ a k, c = 1 → ps = [a] → WT a k → WT (.mk o x ps) (k + 1)) ∧ (∀ a b i j, c = 2 → ps = [a, b] → WT a i → WT b j → WT (.mk o x ps) (i + j + 1))) →
        ∃ r : Int, f152.j2' (L' + 1) N (f152 (L' + 1) N m) some (fun s24 s25 s26 s27 s28 s29 => f152.l0 (L' + 1) N (f152 (L' + 1) N m) (fun z30 => f152.p0_e1 (L' + 1) N (f152 (L' + 1) N m) some z30) (fun z32 z33 => f152.p0_r (L' + 1) N (f152 (L' + 1) N m) some z32 z33) (L' + 1) s24 s25 s26 s27 s28 s29) (c : Int) ok o x ps = some r ∧ 0 ≤ r ∧ r ≤ 1000 ∧ (1 ≤ r → r < 1000 → WT (.mk o x ps) r.toNat) := by
      intro c ok P hc2 hok hP
      unfold f152.j2'
      cases ok with
      | false => rw [Bool.not_false, cond_true]; exact ⟨0, rfl, by omega, by omega, fun h => by omega⟩
      | true =>
        obtain ⟨w0, w1, w2⟩ := hP (hok rfl)
        rw [Bool.not_true, cond_false]
        by_cases hlen : ps.length = c
        · rw [show ((ps.length : Int) != (c : Int)) = false by simp [hlen], cond_false]
          unfold f152.j1'
          match ps, hlen, sub, hpl with
          | [], hlen, sub, hpl =>
            have hc : c = 0 := by simpa using hlen.symm
            subst hc
            show ∃ r, f152.s0 _ N _ _ _ _ _ _ _ _ _ [] = some r ∧ _
            unfold f152.s0 f152.s0'
            rw [show decide ((0 : Int) < ((0 : Nat) : Int)) = false from rfl, cond_false]
            exact ⟨1, rfl, by omega, by omega, fun _ _ => w0 rfl rfl⟩
          | [a], hlen, sub, hpl =>
            have hc : c = 1 := by simpa using hlen.symm
            subst hc
            obtain ⟨r1, a1, a2, a3, a4⟩ := sub a (.head _)
            obtain ⟨L2, rfl⟩ : ∃ L2, L' = L2 + 1 := ⟨L' - 1, by simp only [List.length_cons, List.length_nil] at hpl; omega⟩
            show ∃ r, f152.s0 _ N _ _ _ _ _ _ _ _ _ [a] = some r ∧ _
            unfold f152.s0 f152.s0'
            rw [show decide ((0 : Int) < ((1 : Nat) : Int)) = true from rfl, cond_true]
            simp only [show (decide ((0 : Int) ≤ 0) && decide ((0 : Int) < (([a] : List Tree).length : Int))) = true from rfl, cond_true, show listAt [a] (Ty.dflt (.st 1)) (0 : Int).toNat = a from rfl, a1, Option.bind_some]
            by_cases hr : r1 = 0
            · rw [show (r1 == 0) = true by simpa using hr, cond_true]
              exact ⟨0, rfl, by omega, by omega, fun h => by omega⟩
            · rw [show (r1 == 0) = false by simpa using hr, cond_false]
              have hw : wi (1 + r1) = 1 + r1 := wi_id (by omega) (by omega)
              show ∃ r, f152.s0 _ N _ _ _ _ _ _ _ _ _ [a] = some r ∧ _
              unfold f152.s0 f152.s0'
              rw [show decide (wi ((0 : Int) + 1) < ((1 : Nat) : Int)) = false from rfl, cond_false, hw]
              refine ⟨_, rfl, ?_⟩
              by_cases hb : 1 + r1 < 1000
              · rw [dt hb, cond_true]
                refine ⟨by omega, by omega, fun _ _ => ?_⟩
                have := w1 a r1.toNat rfl rfl (a4 (by omega) (by omega))
                rw [show (1 + r1).toNat = r1.toNat + 1 by omega]; exact this
              · rw [df hb, cond_false]; exact ⟨by omega, by omega, fun _ h => by omega⟩
          | [a, b], hlen, sub, hpl =>
            have hc : c = 2 := by simpa using hlen.symm
            subst hc
            obtain ⟨r1, a1, a2, a3, a4⟩ := sub a (.head _)
            obtain ⟨r2, b1, b2, b3, b4⟩ := sub b (.tail _ (.head _))
            obtain ⟨L2, rfl⟩ : ∃ L2, L' = L2 + 2 := ⟨L' - 2, by simp only [List.length_cons, List.length_nil] at hpl; omega⟩
            show ∃ r, f152.s0 _ N _ _ _ _ _ _ _ _ _ [a, b] = some r ∧ _
            unfold f152.s0 f152.s0'
            rw [show decide ((0 : Int) < ((2 : Nat) : Int)) = true from rfl, cond_true]
            simp only [show (decide ((0 : Int) ≤ 0) && decide ((0 : Int) < (([a, b] : List Tree).length : Int))) = true from rfl, cond_true, show listAt [a, b] (Ty.dflt (.st 1)) (0 : Int).toNat = a from rfl, a1, Option.bind_some]
            by_cases hr : r1 = 0
            · rw [show (r1 == 0) = true by simpa using hr, cond_true]
              exact ⟨0, rfl, by omega, by omega, fun h => by omega⟩
            · rw [show (r1 == 0) = false by simpa using hr, cond_false]
              have hw : wi (1 + r1) = 1 + r1 := wi_id (by omega) (by omega)
              show ∃ r, f152.s0 _ N _ _ _ _ _ _ _ _ _ [a, b] = some r ∧ _
              unfold f152.s0 f152.s0'
              rw [show decide (wi ((0 : Int) + 1) < ((2 : Nat) : Int)) = true from rfl, cond_true, hw]
              simp only [show (decide ((0 : Int) ≤ wi ((0 : Int) + 1)) && decide (wi ((0 : Int) + 1) < (([a, b] : List Tree).length : Int))) = true from rfl, cond_true, show listAt [a, b] (Ty.dflt (.st 1)) (wi ((0 : Int) + 1)).toNat = b from rfl, b1, Option.bind_some]
              by_cases hr2 : r2 = 0
              · rw [show (r2 == 0) = true by simpa using hr2, cond_true]
                exact ⟨0, rfl, by omega, by omega, fun h => by omega⟩
              · rw [show (r2 == 0) = false by simpa using hr2, cond_false]
                show ∃ r, f152.s0 _ N _ _ _ _ _ _ _ _ _ [a, b] = some r ∧ _
                unfold f152.s0 f152.s0'
                rw [show decide (wi (wi ((0 : Int) + 1) + 1) < ((2 : Nat) : Int)) = false from rfl, cond_false]
                refine ⟨_, rfl, ?_⟩
                by_cases hb : 1 + r1 < 1000
                · rw [dt hb, cond_true, show wi (1 + r1 + r2) = 1 + r1 + r2 from wi_id (by omega) (by omega)]
                  by_cases hb2 : 1 + r1 + r2 < 1000
                  · rw [dt hb2, cond_true]
                    refine ⟨by omega, by omega, fun _ _ => ?_⟩
                    have := w2 a b r1.toNat r2.toNat rfl rfl (a4 (by omega) (by omega)) (b4 (by omega) (by omega))
                    rw [show (1 + r1 + r2).toNat = r1.toNat + r2.toNat + 1 by omega]; exact this
                  · rw [df hb2, cond_false]; exact ⟨by omega, by omega, fun _ h => by omega⟩
                · rw [df hb, cond_false, show wi (1000 + r2) = 1000 + r2 from wi_id (by omega) (by omega), df (by omega), cond_false]
                  exact ⟨by omega, by omega, fun _ h => by omega⟩
          | _ :: _ :: _ :: _, hlen, sub, hpl => simp at hlen; omega
        · rw [show ((ps.length : Int) != (c : Int)) = true by simp; omega, cond_true]
          exact ⟨0, rfl, by omega, by omega, fun h => by omega⟩
    by_cases h0 : o = 0
    · subst h0
      rw [show ((0 : Int) == 0) = true from rfl, cond_true]
      exact fin 0 (x == 0) (x = 0) (by omega) (by simp) fun hx => ⟨fun _ hp => by rw [hx, hp]; exact .nil, fun _ _ h => by omega, fun _ _ _ _ h => by omega⟩
    · rw [show (o == 0) = false by simpa using h0, cond_false]
      by_cases h1 : o = 1
      · subst h1
        rw [show ((1 : Int) == 1) = true from rfl, cond_true, act2_ok, Option.bind_some]
        exact fin 1 _ (-4 ≤ x ∧ x ≤ 4) (by omega) (fun h => of_decide_eq_true h) fun hx => ⟨fun h => by omega, fun a k _ hp hw => by rw [hp]; exact .act x a k hx hw, fun _ _ _ _ h => by omega⟩
      · rw [show (o == 1) = false by simpa using h1, cond_false]
        by_cases h2 : o = 2
        · subst h2
          rw [show ((2 : Int) == 2) = true from rfl, cond_true]
          unfold f152.j0'
          rw [cond_true]
          exact fin 2 (x == 0) (x = 0) (by omega) (by simp) fun hx => ⟨fun h => by omega, fun _ _ h => by omega, fun a b i j _ hp hi hj => by rw [hx, hp]; exact .sum a b i j hi hj⟩
        · rw [show (o == 2) = false by simpa using h2, cond_false]
          unfold f152.j0'
          by_cases h3 : o = 3
          · subst h3
            rw [show ((3 : Int) == 3) = true from rfl, cond_true]
            exact fin 2 (x == 0) (x = 0) (by omega) (by simp) fun hx => ⟨fun h => by omega, fun _ _ h => by omega, fun a b i j _ hp hi hj => by rw [hx, hp]; exact .par a b i j hi hj⟩
          · rw [show (o == 3) = false by simpa using h3, cond_false]
            by_cases h4 : o = 4
            · subst h4
              rw [show ((4 : Int) == 4) = true from rfl, cond_true, in_ok, Option.bind_some]
              exact fin 1 _ (0 ≤ x ∧ x ≤ 3) (by omega) (fun h => of_decide_eq_true h) fun hx => ⟨fun h => by omega, fun a k _ hp hw => by rw [hp]; exact .hide x a k hx hw, fun _ _ _ _ h => by omega⟩
            · rw [show (o == 4) = false by simpa using h4, cond_false]
              by_cases h5 : o = 5
              · subst h5
                rw [show ((5 : Int) == 5) = true from rfl, cond_true, in_ok, Option.bind_some]
                exact fin 0 _ (0 ≤ x ∧ x ≤ 2) (by omega) (fun h => of_decide_eq_true h) fun hx => ⟨fun _ hp => by rw [hp]; exact .call x hx, fun _ _ h => by omega, fun _ _ _ _ h => by omega⟩
              · rw [show (o == 5) = false by simpa using h5, cond_false]
                exact fin 0 false False (by omega) (fun h => by cases h) fun h => h.elim
end Go.Proofs.Ytdfjdbpklbehoaa.Ev
namespace Go.Proofs.Ytdfjdbpklbehoaa.Ev
open Go
set_option linter.unusedVariables false
set_option linter.unusedSimpArgs false
theorem l2Calls_ok (L N : Nat) : ∀ (m : Nat) (t : Tree) (b : Bool), nodes t ≤ m → nodes t < L → nodes t ≤ 1048576 → ∃ c : Int, f158 L N m t b = some c ∧ ∀ n : Int, c < n → CL n b t := by
  intro m
  induction m with
  | zero => intro t b h; have := nodes_pos t; omega
  | succ m ih =>
    intro t b ht hL hsz
    obtain ⟨o, x, ps⟩ := t
    simp only [nodes] at ht hL hsz
    have hpl := nodess_len ps
    show ∃ c, f158.b L N (f158 L N m) some (.mk o x ps) b = some c ∧ _
    unfold f158.b f158.b'
    simp only [Tree.op, Tree.n, Tree.parts]
    by_cases h5 : o = 5
    · subst h5
      rw [show ((5 : Int) == 5) = true from rfl, cond_true]
      exact ⟨x, rfl, fun n h => .call b x ps h⟩
    · rw [show (o == 5) = false by simpa using h5, cond_false]
      by_cases hb : b = true ∧ o = 1
      · obtain ⟨rfl, rfl⟩ := hb
        refine ⟨-1, ?_, fun n _ => .stop x ps⟩
        obtain ⟨L', rfl⟩ : ∃ L', L = L' + 1 := ⟨L - 1, by omega⟩
        show f158.s0 _ N _ _ _ _ _ _ _ _ ps = _
        unfold f158.s0 f158.s0'
        by_cases h0 : (0 : Int) < (ps.length : Int)
        · rw [dt h0]; rfl
        · rw [df h0]; rfl
      · have key : ∀ (n i : Nat) (c : Int), i ≤ ps.length → ps.length - i < n → (∀ (j : Nat) (hj : j < ps.length), j < i → ∀ q : Int, c < q → CL q b ps[j]) →
            ∃ c' : Int, f158.l0 L N (f158 L N m) (fun z13 => f158.p0_e0 L N (f158 L N m) some z13) n b c (i : Int) o x ps = some c' ∧ ∀ q : Int, c' < q → ∀ p ∈ ps, CL q b p := by
          intro n
          induction n with
          | zero => intro i c _ h; omega
          | succ n ihn =>
            intro i c hi hn hc
            show ∃ c', f158.s0 L N _ _ (f158.l0 L N _ _ n) b c (i : Int) o x ps = some c' ∧ _
            unfold f158.s0 f158.s0'
            by_cases hlt : i < ps.length
            · have hg := nodes_get hlt
              obtain ⟨c2, e, hc2⟩ := ih ps[i] b (by omega) (by omega) (by omega)
              have go : ∃ c', f158.j0' L N (f158 L N m) (fun z13 => f158.p0_e0 L N (f158 L N m) some z13) (f158.l0 L N (f158 L N m) (fun z13 => f158.p0_e0 L N (f158 L N m) some z13) n) b c (i : Int) o x ps = some c' ∧ ∀ q : Int, c' < q → ∀ p ∈ ps, CL q b p := by
                unfold f158.j0'
                simp only [le0, lt_cast hlt, Bool.and_true, cond_true, Int.toNat_natCast, at_lt hlt, e, Option.bind_some]
                rw [wi_nat (by omega)]
                refine ihn (i + 1) _ (by omega) (by omega) fun j hj hji q hq => ?_
                by_cases hgt : c2 > c
                · rw [dt hgt, cond_true] at hq
                  by_cases e : j = i
                  · subst e; exact hc2 q hq
                  · exact hc j hj (by omega) q (by omega)
                · rw [df hgt, cond_false] at hq
                  by_cases e : j = i
                  · subst e; exact hc2 q (by omega)
                  · exact hc j hj (by omega) q hq
              rw [lt_cast hlt, cond_true]
              cases b with
              | true =>
                have h1 : o ≠ 1 := fun h => hb ⟨rfl, h⟩
                rw [cond_true, show (o == 1) = false by simpa using h1, Bool.not_false, cond_true]
                exact go
              | false => exact go
            · rw [ge_cast hlt, cond_false]
              exact ⟨c, rfl, fun q hq p hp => by
                obtain ⟨j, hj, rfl⟩ := List.mem_iff_getElem.1 hp
                exact hc j hj (by omega) q hq⟩
        obtain ⟨c, e, hc⟩ := key L 0 (-1) (by omega) (by omega) (fun j hj h => by omega)
        exact ⟨c, e, fun n hn => .node b o x ps h5 (hc n hn)⟩
theorem fits_ok (L N : Nat) (t : Tree) (n : Int) (h : nodes t ≤ 1000) (hN : 1000 ≤ N) (hL : 1000 < L) : ∃ r, f149 L N t n = some r ∧ (r = true → ∃ k, k ≤ 24 ∧ WT t k ∧ (0 ≤ n ∧ n ≤ 3) ∧ CL n false t) := by
  obtain ⟨r, e, r0, r1, hw⟩ := l2Nodes_ok L N N t (by omega) (by omega)
  obtain ⟨c, f, hc⟩ := l2Calls_ok L N N t false (by omega) (by omega) (by omega)
  have hok : f159 L N t = some (decide (1 ≤ r ∧ r ≤ 24)) := by
    show f159.b' L N some t = _
    unfold f159.b'
    rw [tree_eta, e, Option.bind_some, in_ok, Option.bind_some]
  show ∃ r, f149.b' L N some t n = some r ∧ _
  unfold f149.b'
  rw [tree_eta, hok, Option.bind_some]
  by_cases h1 : 1 ≤ r ∧ r ≤ 24
  · rw [dt h1, cond_true, in_ok, Option.bind_some]
    by_cases h2 : 0 ≤ n ∧ n ≤ 3
    · rw [dt h2, cond_true, f, Option.bind_some]
      refine ⟨_, rfl, fun h3 => ⟨r.toNat, by omega, hw (by omega) (by omega), h2, hc n (of_decide_eq_true h3)⟩⟩
    · rw [df h2, cond_false]
      exact ⟨false, rfl, fun h => by cases h⟩
  · rw [df h1, cond_false]
    exact ⟨false, rfl, fun h => by cases h⟩
def DefsW (ds : List Tree) : Prop := ds.length ≤ 3 ∧ ∀ d ∈ ds, ∃ k, k ≤ 24 ∧ WT d k ∧ CL (ds.length : Int) false d ∧ CL 0 true d
theorem defsOk_ok (L N : Nat) (ds : List Tree) (h : ∀ d ∈ ds, nodes d ≤ 1000) (hl : ds.length ≤ 1000) (hN : 1000 ≤ N) (hL : 1001 < L) : ∃ r, f148 L N ds = some r ∧ (r = true → DefsW ds) := by
  show ∃ r, f148.b L N some ds = some r ∧ _
  unfold f148.b f148.b'
  have key : ∀ (n i : Nat), i ≤ ds.length → ds.length - i < n → (∀ (j : Nat) (hj : j < ds.length), j < i → ∃ k, k ≤ 24 ∧ WT ds[j] k ∧ CL (ds.length : Int) false ds[j] ∧ CL 0 true ds[j]) →
      ∃ r, f148.l0 L N (fun z2 => f148.p0_e0 L N some z2) (fun z8 z9 => f148.p0_r L N some z8 z9) n ds (i : Int) = some r ∧ (r = true → DefsW ds) := by
    intro n
    induction n with
    | zero => intro i _ h; omega
    | succ n ih =>
      intro i hi hn hd
      show ∃ r, f148.s0 L N _ _ (f148.l0 L N _ _ n) ds (i : Int) = some r ∧ _
      unfold f148.s0 f148.s0'
      by_cases hlt : i < ds.length
      · have hdn := h ds[i] (List.getElem_mem hlt)
        obtain ⟨r, e, hr⟩ := fits_ok L N ds[i] (ds.length : Int) hdn hN (by omega)
        obtain ⟨c, f, hc⟩ := l2Calls_ok L N N ds[i] true (by omega) (by omega) (by omega)
        simp only [lt_cast hlt, le0, Bool.and_true, cond_true, Int.toNat_natCast, at_lt hlt, e, f, Option.bind_some]
        cases r with
        | false => exact ⟨false, rfl, fun h => by cases h⟩
        | true =>
          rw [Bool.not_true, cond_false]
          by_cases h0 : c ≥ 0
          · rw [dt h0, cond_true]; exact ⟨false, rfl, fun h => by cases h⟩
          · rw [df h0, cond_false, wi_nat (by omega)]
            refine ih (i + 1) (by omega) (by omega) fun j hj hji => ?_
            by_cases e : j = i
            · subst e
              obtain ⟨k, a1, a2, a3, a4⟩ := hr rfl
              exact ⟨k, a1, a2, a4, hc 0 (by omega)⟩
            · exact hd j hj (by omega)
      · rw [ge_cast hlt, cond_false]
        refine ⟨_, rfl, fun h3 => ⟨?_, fun d hd' => ?_⟩⟩
        · have h3 : ((ds.length : Int) ≤ 3) := of_decide_eq_true h3
          omega
        · obtain ⟨j, hj, rfl⟩ := List.mem_iff_getElem.1 hd'
          exact hd j hj (by omega)
  exact key L 0 (by omega) (by omega) (fun j hj h => by omega)
theorem l1t_ok (L N : Nat) {n : Int} (h : -4 ≤ n ∧ n ≤ 4) : ∃ s, f162 L N n = some s ∧ s.size ≤ 3 := by
  have hc : n = -4 ∨ n = -3 ∨ n = -2 ∨ n = -1 ∨ n = 0 ∨ n = 1 ∨ n = 2 ∨ n = 3 ∨ n = 4 := by omega
  rcases hc with rfl | rfl | rfl | rfl | rfl | rfl | rfl | rfl | rfl <;> exact ⟨_, rfl, by decide⟩
theorem l6dec_ok (L N m : Nat) {n : Int} (h : 0 ≤ n ∧ n ≤ 2) : ∃ s, f160 L N (m + 1) n = some s ∧ s.size ≤ 3 := by
  have hc : n = 0 ∨ n = 1 ∨ n = 2 := by omega
  rcases hc with rfl | rfl | rfl <;> exact ⟨_, rfl, by decide⟩
theorem bif_y {c : Bool} {α : Type} {a b : α} (h : c = true) : (bif c then a else b) = a := by rw [h]; rfl
theorem text1 (L' N' m : Nat) (a : Tree) (s : ByteArray) (e : f150 (L' + 3) (N' + 1) m a = some s) (b0 : ByteArray) (o n : Int) (k : Nat) (hb : b0.size ≤ 9) (hs : s.size ≤ 20 * k) (hk : k ≤ 100000) :
    ∃ r, f150.l0 (L' + 3) (N' + 1) (f150 (L' + 3) (N' + 1) m) (fun z17 => f150.p0_e1 (L' + 3) (N' + 1) (f150 (L' + 3) (N' + 1) m) some z17) (L' + 3) b0 (0 : Int) o n [a] = some r ∧ r.size ≤ 20 * (k + 1) := by
  have hsz : ∀ a b : ByteArray, (a ++ b).size = a.size + b.size := fun a b => ByteArray.size_append
  have z1 : (ByteArray.mk #[32]).size = 1 := rfl
  have z2 : (ByteArray.mk #[41]).size = 1 := rfl
  show ∃ r, f150.s0 _ _ _ _ _ b0 (0 : Int) o n [a] = some r ∧ _
  unfold f150.s0 f150.s0'
  rw [show decide ((0 : Int) < (([a] : List Tree).length : Int)) = true from rfl, cond_true, bif_y (dt (by omega)), show (decide ((0 : Int) ≤ 0) && true) = true from rfl, cond_true, show listAt [a] (Ty.dflt (.st 1)) (0 : Int).toNat = a from rfl, e, Option.bind_some, bif_y (dt (by rw [hsz]; omega))]
  show ∃ r, f150.s0 _ _ _ _ _ ((b0 ++ ByteArray.mk #[32]) ++ s) (wi ((0 : Int) + 1)) o n [a] = some r ∧ _
  unfold f150.s0 f150.s0'
  rw [show decide (wi ((0 : Int) + 1) < (([a] : List Tree).length : Int)) = false from rfl, cond_false]
  show ∃ r, f150.p0_e1' _ _ _ some ((b0 ++ ByteArray.mk #[32]) ++ s) = some r ∧ _
  unfold f150.p0_e1'
  rw [bif_y (dt (by rw [hsz, hsz]; omega))]
  exact ⟨_, rfl, by rw [hsz, hsz, hsz]; omega⟩
theorem text2 (L' N' m : Nat) (a b : Tree) (s u : ByteArray) (e : f150 (L' + 3) (N' + 1) m a = some s) (f : f150 (L' + 3) (N' + 1) m b = some u) (b0 : ByteArray) (o n : Int) (i j : Nat) (hb : b0.size ≤ 9) (hs : s.size ≤ 20 * i) (hu : u.size ≤ 20 * j) (hk : i + j ≤ 100000) :
    ∃ r, f150.l0 (L' + 3) (N' + 1) (f150 (L' + 3) (N' + 1) m) (fun z17 => f150.p0_e1 (L' + 3) (N' + 1) (f150 (L' + 3) (N' + 1) m) some z17) (L' + 3) b0 (0 : Int) o n [a, b] = some r ∧ r.size ≤ 20 * (i + j + 1) := by
  have hsz : ∀ a b : ByteArray, (a ++ b).size = a.size + b.size := fun a b => ByteArray.size_append
  have z1 : (ByteArray.mk #[32]).size = 1 := rfl
  have z2 : (ByteArray.mk #[41]).size = 1 := rfl
  show ∃ r, f150.s0 _ _ _ _ _ b0 (0 : Int) o n [a, b] = some r ∧ _
  unfold f150.s0 f150.s0'
  rw [show decide ((0 : Int) < (([a, b] : List Tree).length : Int)) = true from rfl, cond_true, bif_y (dt (by omega)), show (decide ((0 : Int) ≤ 0) && true) = true from rfl, cond_true, show listAt [a, b] (Ty.dflt (.st 1)) (0 : Int).toNat = a from rfl, e, Option.bind_some, bif_y (dt (by rw [hsz]; omega))]
  show ∃ r, f150.s0 _ _ _ _ _ ((b0 ++ ByteArray.mk #[32]) ++ s) (wi ((0 : Int) + 1)) o n [a, b] = some r ∧ _
  unfold f150.s0 f150.s0'
  rw [show decide (wi ((0 : Int) + 1) < (([a, b] : List Tree).length : Int)) = true from rfl, cond_true, bif_y (dt (by rw [hsz, hsz]; omega)), show (decide ((0 : Int) ≤ wi ((0 : Int) + 1)) && true) = true from rfl, cond_true, show listAt [a, b] (Ty.dflt (.st 1)) (wi ((0 : Int) + 1)).toNat = b from rfl, f, Option.bind_some, bif_y (dt (by rw [hsz, hsz, hsz]; omega))]
  show ∃ r, f150.s0 _ _ _ _ _ _ (wi (wi ((0 : Int) + 1) + 1)) o n [a, b] = some r ∧ _
  unfold f150.s0 f150.s0'
  rw [show decide (wi (wi ((0 : Int) + 1) + 1) < (([a, b] : List Tree).length : Int)) = false from rfl, cond_false]
  show ∃ r, f150.p0_e1' _ _ _ some _ = some r ∧ _
  unfold f150.p0_e1'
  rw [bif_y (dt (by rw [hsz, hsz, hsz, hsz]; omega))]
  exact ⟨_, rfl, by rw [hsz, hsz, hsz, hsz, hsz]; omega⟩
theorem l2Text_ok (L N : Nat) (hN : 1 ≤ N) (hL : 8 ≤ L) : ∀ (t : Tree) (k : Nat), WT t k → k ≤ 100000 → ∀ m, k ≤ m → ∃ s, f150 L N m t = some s ∧ s.size ≤ 20 * k := by
  obtain ⟨N', rfl⟩ : ∃ N', N = N' + 1 := ⟨N - 1, by omega⟩
  obtain ⟨L', rfl⟩ : ∃ L', L = L' + 3 := ⟨L - 3, by omega⟩
  have hsz : ∀ a b : ByteArray, (a ++ b).size = a.size + b.size := fun a b => ByteArray.size_append
  intro t k h
  induction h with
  | nil =>
    intro _ m hm
    obtain ⟨m, rfl⟩ : ∃ m', m = m' + 1 := ⟨m - 1, by omega⟩
    exact ⟨_, rfl, by decide⟩
  | call n hn =>
    intro _ m hm
    obtain ⟨m, rfl⟩ : ∃ m', m = m' + 1 := ⟨m - 1, by omega⟩
    obtain ⟨s, e, hs⟩ := l6dec_ok (L' + 3) (N' + 1) N' hn
    show ∃ s, f150.b _ _ (f150 (L' + 3) (N' + 1) m) some (.mk 5 n []) = some s ∧ _
    unfold f150.b f150.b'
    simp only [Tree.op, Tree.n, Tree.parts]
    rw [show ((5 : Int) == 0) = false from rfl, cond_false, show ((5 : Int) == 5) = true from rfl, cond_true, e, Option.bind_some]
    rw [dt (show (ByteArray.mk #[88]).size + s.size ≤ 4611686018427387904 by have : (ByteArray.mk #[88]).size = 1 := rfl; omega), cond_true]
    exact ⟨_, rfl, by rw [hsz]; have : (ByteArray.mk #[88]).size = 1 := rfl; omega⟩
  | act n a k hn ha ih =>
    intro hk m hm
    obtain ⟨m, rfl⟩ : ∃ m', m = m' + 1 := ⟨m - 1, by omega⟩
    obtain ⟨s, e, hs⟩ := ih (by omega) m (by omega)
    obtain ⟨u, f, hu⟩ := l1t_ok (L' + 3) (N' + 1) hn
    show ∃ s, f150.b _ _ (f150 (L' + 3) (N' + 1) m) some (.mk 1 n [a]) = some s ∧ _
    unfold f150.b f150.b'
    have z1 : ((ByteArray.mk #[40]) ++ (ByteArray.mk #[97, 99, 116])).size = 4 := rfl
    have z2 : (ByteArray.mk #[32]).size = 1 := rfl
    have z3 : (ByteArray.mk #[41]).size = 1 := rfl
    have z4 : (((ByteArray.mk #[40]) ++ (ByteArray.mk #[97, 99, 116])) ++ (ByteArray.mk #[32])).size = 5 := rfl
    have w : f161 (L' + 3) (N' + 1) = some [(ByteArray.mk #[]), (ByteArray.mk #[97, 99, 116]), (ByteArray.mk #[115, 117, 109]), (ByteArray.mk #[112, 97, 114]), (ByteArray.mk #[104, 105, 100, 101])] := rfl
    simp only [Tree.op, Tree.n, Tree.parts, w, Option.bind_some]
    rw [show ((1 : Int) == 0) = false from rfl, cond_false, show ((1 : Int) == 5) = false from rfl, cond_false, show ((1 : Int) == 1) = true from rfl]
    simp only [show listAt [(ByteArray.mk #[]), (ByteArray.mk #[97, 99, 116]), (ByteArray.mk #[115, 117, 109]), (ByteArray.mk #[112, 97, 114]), (ByteArray.mk #[104, 105, 100, 101])] ByteArray.empty (1 : Int).toNat = ByteArray.mk #[97, 99, 116] from rfl, f, Option.bind_some, cond_true]
    rw [bif_y (by rfl), bif_y (by rfl), bif_y (by rw [z1, z2]; rfl), bif_y (by rw [z4]; exact dt (by omega))]
    unfold f150.j1' f150.j0'
    rw [show ((1 : Int) == 4) = false from rfl, cond_false]
    generalize hb0 : (((ByteArray.mk #[40]) ++ (ByteArray.mk #[97, 99, 116])) ++ (ByteArray.mk #[32])) ++ u = b0
    have hb0s : b0.size ≤ 8 := by rw [← hb0, hsz, z4]; omega
    exact text1 L' N' m a s e b0 1 n k (by omega) hs (by omega)
  | hide n a k hn ha ih =>
    intro hk m hm
    obtain ⟨m, rfl⟩ : ∃ m', m = m' + 1 := ⟨m - 1, by omega⟩
    obtain ⟨s, e, hs⟩ := ih (by omega) m (by omega)
    have hw : wi (n + 1) = n + 1 := wi_id (by omega) (by omega)
    obtain ⟨u, f, hu⟩ := l1t_ok (L' + 3) (N' + 1) (n := n + 1) (by omega)
    show ∃ s, f150.b _ _ (f150 (L' + 3) (N' + 1) m) some (.mk 4 n [a]) = some s ∧ _
    unfold f150.b f150.b'
    have z1 : ((ByteArray.mk #[40]) ++ (ByteArray.mk #[104, 105, 100, 101])).size = 5 := rfl
    have z2 : (ByteArray.mk #[32]).size = 1 := rfl
    have z4 : (((ByteArray.mk #[40]) ++ (ByteArray.mk #[104, 105, 100, 101])) ++ (ByteArray.mk #[32])).size = 6 := rfl
    have w : f161 (L' + 3) (N' + 1) = some [(ByteArray.mk #[]), (ByteArray.mk #[97, 99, 116]), (ByteArray.mk #[115, 117, 109]), (ByteArray.mk #[112, 97, 114]), (ByteArray.mk #[104, 105, 100, 101])] := rfl
    simp only [Tree.op, Tree.n, Tree.parts, w, Option.bind_some]
    rw [show ((4 : Int) == 0) = false from rfl, cond_false, show ((4 : Int) == 5) = false from rfl, cond_false, show ((4 : Int) == 1) = false from rfl]
    simp only [show listAt [(ByteArray.mk #[]), (ByteArray.mk #[97, 99, 116]), (ByteArray.mk #[115, 117, 109]), (ByteArray.mk #[112, 97, 114]), (ByteArray.mk #[104, 105, 100, 101])] ByteArray.empty (4 : Int).toNat = ByteArray.mk #[104, 105, 100, 101] from rfl, cond_false]
    rw [bif_y (by rfl), bif_y (by rfl)]
    unfold f150.j1' f150.j0'
    rw [show ((4 : Int) == 4) = true from rfl, cond_true, bif_y (by rw [z1, z2]; rfl), hw, f, Option.bind_some, bif_y (by rw [z4]; exact dt (by omega))]
    generalize hb0 : (((ByteArray.mk #[40]) ++ (ByteArray.mk #[104, 105, 100, 101])) ++ (ByteArray.mk #[32])) ++ u = b0
    have hb0s : b0.size ≤ 9 := by rw [← hb0, hsz, z4]; omega
    exact text1 L' N' m a s e b0 4 n k (by omega) hs (by omega)
  | sum a b i j ha hb iha ihb =>
    intro hk m hm
    obtain ⟨m, rfl⟩ : ∃ m', m = m' + 1 := ⟨m - 1, by omega⟩
    obtain ⟨s, e, hs⟩ := iha (by omega) m (by omega)
    obtain ⟨u, f, hu⟩ := ihb (by omega) m (by omega)
    show ∃ s, f150.b _ _ (f150 (L' + 3) (N' + 1) m) some (.mk 2 0 [a, b]) = some s ∧ _
    unfold f150.b f150.b'
    have w : f161 (L' + 3) (N' + 1) = some [(ByteArray.mk #[]), (ByteArray.mk #[97, 99, 116]), (ByteArray.mk #[115, 117, 109]), (ByteArray.mk #[112, 97, 114]), (ByteArray.mk #[104, 105, 100, 101])] := rfl
    simp only [Tree.op, Tree.n, Tree.parts, w, Option.bind_some]
    rw [show ((2 : Int) == 0) = false from rfl, cond_false, show ((2 : Int) == 5) = false from rfl, cond_false, show ((2 : Int) == 1) = false from rfl]
    simp only [show listAt [(ByteArray.mk #[]), (ByteArray.mk #[97, 99, 116]), (ByteArray.mk #[115, 117, 109]), (ByteArray.mk #[112, 97, 114]), (ByteArray.mk #[104, 105, 100, 101])] ByteArray.empty (2 : Int).toNat = ByteArray.mk #[115, 117, 109] from rfl, cond_false]
    rw [bif_y (by rfl), bif_y (by rfl)]
    unfold f150.j1' f150.j0'
    rw [show ((2 : Int) == 4) = false from rfl, cond_false]
    exact text2 L' N' m a b s u e f _ 2 0 i j (by decide) hs hu (by omega)
  | par a b i j ha hb iha ihb =>
    intro hk m hm
    obtain ⟨m, rfl⟩ : ∃ m', m = m' + 1 := ⟨m - 1, by omega⟩
    obtain ⟨s, e, hs⟩ := iha (by omega) m (by omega)
    obtain ⟨u, f, hu⟩ := ihb (by omega) m (by omega)
    show ∃ s, f150.b _ _ (f150 (L' + 3) (N' + 1) m) some (.mk 3 0 [a, b]) = some s ∧ _
    unfold f150.b f150.b'
    have w : f161 (L' + 3) (N' + 1) = some [(ByteArray.mk #[]), (ByteArray.mk #[97, 99, 116]), (ByteArray.mk #[115, 117, 109]), (ByteArray.mk #[112, 97, 114]), (ByteArray.mk #[104, 105, 100, 101])] := rfl
    simp only [Tree.op, Tree.n, Tree.parts, w, Option.bind_some]
    rw [show ((3 : Int) == 0) = false from rfl, cond_false, show ((3 : Int) == 5) = false from rfl, cond_false, show ((3 : Int) == 1) = false from rfl]
    simp only [show listAt [(ByteArray.mk #[]), (ByteArray.mk #[97, 99, 116]), (ByteArray.mk #[115, 117, 109]), (ByteArray.mk #[112, 97, 114]), (ByteArray.mk #[104, 105, 100, 101])] ByteArray.empty (3 : Int).toNat = ByteArray.mk #[112, 97, 114] from rfl, cond_false]
    rw [bif_y (by rfl), bif_y (by rfl)]
    unfold f150.j1' f150.j0'
    rw [show ((3 : Int) == 4) = false from rfl, cond_false]
    exact text2 L' N' m a b s u e f _ 3 0 i j (by decide) hs hu (by omega)
end Go.Proofs.Ytdfjdbpklbehoaa.Ev
namespace Go.Proofs.Ytdfjdbpklbehoaa.Ev
open Go
set_option linter.unusedVariables false
set_option linter.unusedSimpArgs false
theorem bif_n {c : Bool} {α : Type} {a b : α} (h : c = false) : (bif c then a else b) = b := by rw [h]; rfl
def visS (l : List Step) : Nat := (l.filter fun s => s.act != 0).length
def tauS (l : List Step) : Nat := (l.filter fun s => s.act == 0).length
theorem len_vt : ∀ l : List Step, l.length = visS l + tauS l
  | [] => rfl
  | s :: l => by
    have ih := len_vt l
    unfold visS tauS at *
    by_cases h : s.act = 0
    · simp [h]; omega
    · simp [h]; omega
theorem visS_app (a b : List Step) : visS (a ++ b) = visS a + visS b := by unfold visS; rw [List.filter_append, List.length_append]
theorem tauS_app (a b : List Step) : tauS (a ++ b) = tauS a + tauS b := by unfold tauS; rw [List.filter_append, List.length_append]
theorem visS_map {f : Step → Step} (h : ∀ s, (f s).act = s.act) : ∀ l : List Step, visS (l.map f) = visS l
  | [] => rfl
  | s :: l => by
    have ih := visS_map h l
    unfold visS at *
    rw [List.map_cons, List.filter_cons, List.filter_cons, h s]
    split <;> simp [ih]
theorem tauS_map {f : Step → Step} (h : ∀ s, (f s).act = s.act) : ∀ l : List Step, tauS (l.map f) = tauS l
  | [] => rfl
  | s :: l => by
    have ih := tauS_map h l
    unfold tauS at *
    rw [List.map_cons, List.filter_cons, List.filter_cons, h s]
    split <;> simp [ih]
theorem visS_sub {p : Step → Bool} (l : List Step) : visS (l.filter p) ≤ visS l := by
  unfold visS
  rw [List.filter_filter]
  have h := List.length_filter_le p (l.filter fun s => s.act != 0)
  rw [List.filter_filter] at h
  refine Nat.le_trans (Nat.le_of_eq ?_) h
  congr 1
  apply List.filter_congr
  intro x _
  exact Bool.and_comm _ _
theorem tauS_sub {p : Step → Bool} (l : List Step) : tauS (l.filter p) ≤ tauS l := by
  unfold tauS
  rw [List.filter_filter]
  have h := List.length_filter_le p (l.filter fun s => s.act == 0)
  rw [List.filter_filter] at h
  refine Nat.le_trans (Nat.le_of_eq ?_) h
  congr 1
  apply List.filter_congr
  intro x _
  exact Bool.and_comm _ _
def leftS (b : Tree) (s : Step) : Step := ⟨s.act, .mk 3 0 [s.thn, b]⟩
def rightS (a : Tree) (s : Step) : Step := ⟨s.act, .mk 3 0 [a, s.thn]⟩
def tauRow (x : Step) (right : List Step) : List Step := if x.act ≠ 0 then (right.filter fun y => x.act == wi (0 - y.act)).map fun y => ⟨0, .mk 3 0 [x.thn, y.thn]⟩ else []
theorem tauRow_vis (x : Step) (right : List Step) : visS (tauRow x right) = 0 := by
  unfold tauRow visS
  split
  · rw [List.length_eq_zero_iff, List.filter_eq_nil_iff]
    intro s hs
    obtain ⟨y, -, rfl⟩ := List.mem_map.1 hs
    simp
  · rfl
theorem tauRow_len (x : Step) (right : List Step) : (tauRow x right).length ≤ if x.act ≠ 0 then visS right else 0 := by
  unfold tauRow
  by_cases h : x.act ≠ 0
  · rw [if_pos h, if_pos h, List.length_map]
    unfold visS
    have e : (right.filter fun y => x.act == wi (0 - y.act)) = ((right.filter fun y => y.act != 0).filter fun y => x.act == wi (0 - y.act)) := by
      rw [List.filter_filter]
      apply List.filter_congr
      intro y _
      by_cases hy : y.act = 0
      · have : (x.act == wi (0 - y.act)) = false := by
          rw [hy]
          have : wi (0 - 0) = 0 := by rw [wi_id (by omega) (by omega)]; omega
          rw [this]; simpa using h
        rw [this]; rfl
      · have : (y.act != 0) = true := by simpa using hy
        rw [this, Bool.and_true]
    rw [e]
    exact List.length_filter_le _ _
  · rw [if_neg h, if_neg h]; simp
theorem taus_len (right : List Step) : ∀ left : List Step, (left.flatMap fun x => tauRow x right).length ≤ visS left * visS right
  | [] => by simp
  | x :: l => by
    have ih := taus_len right l
    have h := tauRow_len x right
    rw [List.flatMap_cons, List.length_append]
    have hv : visS (x :: l) = (if x.act ≠ 0 then 1 else 0) + visS l := by
      unfold visS
      rw [List.filter_cons]
      by_cases hx : x.act = 0
      · simp [hx]
      · have : (x.act != 0) = true := by simpa using hx
        simp [hx]; omega
    rw [hv, Nat.add_mul]
    by_cases hx : x.act ≠ 0
    · rw [if_pos hx] at h; rw [if_pos hx, Nat.one_mul]; omega
    · rw [if_neg hx] at h; rw [if_neg hx, Nat.zero_mul]; omega
theorem taus_vis (right : List Step) : ∀ left : List Step, visS (left.flatMap fun x => tauRow x right) = 0
  | [] => rfl
  | x :: l => by rw [List.flatMap_cons, visS_app, tauRow_vis, taus_vis right l]
theorem nloop1 (L' N : Nat) (self : Tree → Option Int) (a : Tree) (r1 : Int) (e : self a = some r1) (h1 : 1 ≤ r1) (h2 : r1 ≤ 998) (o x : Int) :
    f152.l0 (L' + 3) N self (fun z30 => f152.p0_e1 (L' + 3) N self some z30) (fun z32 z33 => f152.p0_r (L' + 3) N self some z32 z33) (L' + 3) (1 : Int) (1 : Int) (0 : Int) o x [a] = some (1 + r1) := by
  have hw : wi (1 + r1) = 1 + r1 := wi_id (by omega) (by omega)
  show f152.s0 _ N _ _ _ _ (1 : Int) (1 : Int) (0 : Int) o x [a] = _
  unfold f152.s0 f152.s0'
  rw [bif_y (by rfl), bif_y (by rfl)]
  show ((self a).bind _) = _
  rw [e, Option.bind_some, show (r1 == 0) = false by simp; omega, cond_false]
  show f152.s0 _ N _ _ _ _ (1 : Int) _ (wi ((0 : Int) + 1)) o x [a] = _
  unfold f152.s0 f152.s0'
  rw [bif_n (by rfl), hw, dt (show 1 + r1 < 1000 by omega), cond_true]
  rfl
theorem nloop2 (L' N : Nat) (self : Tree → Option Int) (a b : Tree) (r1 r2 : Int) (e : self a = some r1) (f : self b = some r2) (h1 : 1 ≤ r1) (h2 : 1 ≤ r2) (h3 : r1 + r2 ≤ 998) (o x : Int) :
    f152.l0 (L' + 3) N self (fun z30 => f152.p0_e1 (L' + 3) N self some z30) (fun z32 z33 => f152.p0_r (L' + 3) N self some z32 z33) (L' + 3) (2 : Int) (1 : Int) (0 : Int) o x [a, b] = some (1 + r1 + r2) := by
  have hw : wi (1 + r1) = 1 + r1 := wi_id (by omega) (by omega)
  have hw2 : wi (1 + r1 + r2) = 1 + r1 + r2 := wi_id (by omega) (by omega)
  show f152.s0 _ N _ _ _ _ (2 : Int) (1 : Int) (0 : Int) o x [a, b] = _
  unfold f152.s0 f152.s0'
  rw [bif_y (by rfl), bif_y (by rfl)]
  show ((self a).bind _) = _
  rw [e, Option.bind_some, show (r1 == 0) = false by simp; omega, cond_false]
  show f152.s0 _ N _ _ _ _ (2 : Int) _ (wi ((0 : Int) + 1)) o x [a, b] = _
  unfold f152.s0 f152.s0'
  rw [bif_y (by rfl), bif_y (by rfl)]
  show ((self b).bind _) = _
  rw [f, Option.bind_some, show (r2 == 0) = false by simp; omega, cond_false]
  show f152.s0 _ N _ _ _ _ (2 : Int) _ (wi (wi ((0 : Int) + 1) + 1)) o x [a, b] = _
  unfold f152.s0 f152.s0'
  rw [bif_n (by rfl), hw, dt (show 1 + r1 < 1000 by omega), cond_true, hw2, dt (show 1 + r1 + r2 < 1000 by omega), cond_true]
  rfl
theorem l2Nodes_wt (L N : Nat) (hL : 3 ≤ L) : ∀ (t : Tree) (k : Nat), WT t k → k ≤ 999 → ∀ m, k ≤ m → f152 L N m t = some (k : Int) := by
  obtain ⟨L', rfl⟩ : ∃ L', L = L' + 3 := ⟨L - 3, by omega⟩
  intro t k h
  induction h with
  | nil =>
    intro _ m hm
    obtain ⟨m, rfl⟩ : ∃ m', m = m' + 1 := ⟨m - 1, by omega⟩
    rfl
  | call x hx =>
    intro _ m hm
    obtain ⟨m, rfl⟩ : ∃ m', m = m' + 1 := ⟨m - 1, by omega⟩
    have hc : x = 0 ∨ x = 1 ∨ x = 2 := by omega
    rcases hc with rfl | rfl | rfl <;> rfl
  | act n a k hn ha ih =>
    intro hk m hm
    obtain ⟨m, rfl⟩ : ∃ m', m = m' + 1 := ⟨m - 1, by omega⟩
    have hp := ha.pos
    have e := ih (by omega) m (by omega)
    show f152.b (L' + 3) N (f152 (L' + 3) N m) some (.mk 1 n [a]) = _
    unfold f152.b f152.b'
    rw [bif_n (by rfl), bif_y (by rfl)]
    show ((f97 (L' + 3) N n).bind _) = _
    rw [act2_ok, Option.bind_some, dt hn]
    unfold f152.j2'
    rw [bif_n (by rfl), bif_n (by rfl)]
    unfold f152.j1'
    refine (nloop1 L' N _ a (k : Int) e (by omega) (by omega) 1 n).trans ?_
    rw [show ((k + 1 : Nat) : Int) = 1 + (k : Int) by omega]
  | hide n a k hn ha ih =>
    intro hk m hm
    obtain ⟨m, rfl⟩ : ∃ m', m = m' + 1 := ⟨m - 1, by omega⟩
    have hp := ha.pos
    have e := ih (by omega) m (by omega)
    show f152.b (L' + 3) N (f152 (L' + 3) N m) some (.mk 4 n [a]) = _
    unfold f152.b f152.b'
    rw [bif_n (by rfl), bif_n (by rfl), bif_n (by rfl)]
    unfold f152.j0'
    rw [bif_n (by rfl), bif_y (by rfl)]
    show ((f96 (L' + 3) N n 0 3).bind _) = _
    rw [in_ok, Option.bind_some, dt hn]
    unfold f152.j2'
    rw [bif_n (by rfl), bif_n (by rfl)]
    unfold f152.j1'
    refine (nloop1 L' N _ a (k : Int) e (by omega) (by omega) 4 n).trans ?_
    rw [show ((k + 1 : Nat) : Int) = 1 + (k : Int) by omega]
  | sum a b i j ha hb iha ihb =>
    intro hk m hm
    obtain ⟨m, rfl⟩ : ∃ m', m = m' + 1 := ⟨m - 1, by omega⟩
    have hpa := ha.pos
    have hpb := hb.pos
    have e := iha (by omega) m (by omega)
    have f := ihb (by omega) m (by omega)
    show f152.b (L' + 3) N (f152 (L' + 3) N m) some (.mk 2 0 [a, b]) = _
    unfold f152.b f152.b'
    rw [bif_n (by rfl), bif_n (by rfl), bif_y (by rfl)]
    unfold f152.j0'
    rw [bif_y (by rfl)]
    unfold f152.j2'
    rw [bif_n (by rfl), bif_n (by rfl)]
    unfold f152.j1'
    refine (nloop2 L' N _ a b (i : Int) (j : Int) e f (by omega) (by omega) (by omega) 2 0).trans ?_
    rw [show ((i + j + 1 : Nat) : Int) = 1 + (i : Int) + (j : Int) by omega]
  | par a b i j ha hb iha ihb =>
    intro hk m hm
    obtain ⟨m, rfl⟩ : ∃ m', m = m' + 1 := ⟨m - 1, by omega⟩
    have hpa := ha.pos
    have hpb := hb.pos
    have e := iha (by omega) m (by omega)
    have f := ihb (by omega) m (by omega)
    show f152.b (L' + 3) N (f152 (L' + 3) N m) some (.mk 3 0 [a, b]) = _
    unfold f152.b f152.b'
    rw [bif_n (by rfl), bif_n (by rfl), bif_n (by rfl)]
    unfold f152.j0'
    rw [bif_y (by rfl)]
    unfold f152.j2'
    rw [bif_n (by rfl), bif_n (by rfl)]
    unfold f152.j1'
    refine (nloop2 L' N _ a b (i : Int) (j : Int) e f (by omega) (by omega) (by omega) 3 0).trans ?_
    rw [show ((i + j + 1 : Nat) : Int) = 1 + (i : Int) + (j : Int) by omega]
section
variable {R : Type} (L N : Nat) (self : Tree → List Tree → Option (List Step))
theorem par0 (K : Int → Int → List Tree → List Step → List Step → List Step → Option R) (o x : Int) (a b : Tree) (left right : List Step) (hl : left.length ≤ 1000000) :
    ∀ (n i : Nat) (out : List Step), i ≤ left.length → left.length - i < n → out.length + (left.length - i) ≤ lim →
      f151.l0 L N self K n (i : Int) o x [a, b] out left right = K o x [a, b] (out ++ (left.drop i).map (leftS b)) left right := by
  intro n
  induction n with
  | zero => intro i out _ h; omega
  | succ n ih =>
    intro i out hi hn ho
    show f151.s0 L N self _ (f151.l0 L N self _ n) (i : Int) o x [a, b] out left right = _
    unfold f151.s0 f151.s0'
    by_cases hlt : i < left.length
    · have g1 : (decide ((0 : Int) ≤ 1) && decide ((1 : Int) < (([a, b] : List Tree).length : Int))) = true := rfl
      have g2 : listAt [a, b] (Ty.dflt (.st 1)) (1 : Int).toNat = b := rfl
      have hle : decide (out.length + ([Step.mk (left[i]).act (Tree.mk 3 0 [(left[i]).thn, b])] : List Step).length ≤ lim) = true := dt (by simp only [List.length_cons, List.length_nil]; omega)
      simp only [lt_cast hlt, le0, Bool.and_true, cond_true, Int.toNat_natCast, at_lt hlt, g1, g2, tree_eta, hle]
      rw [wi_nat (by omega), ih (i + 1) _ (by omega) (by omega) (by simp only [List.length_append, List.length_cons, List.length_nil]; omega), List.drop_eq_getElem_cons hlt, List.map_cons, List.append_assoc]
      rfl
    · simp only [ge_cast hlt, cond_false]
      rw [List.drop_eq_nil_of_le (by omega), List.map_nil, List.append_nil]
theorem par1 (K : List Step → List Step → List Step → Option R) (o x : Int) (a b : Tree) (left right : List Step) (hl : right.length ≤ 1000000) :
    ∀ (n i : Nat) (out : List Step), i ≤ right.length → right.length - i < n → out.length + (right.length - i) ≤ lim →
      f151.l1 L N self K n (i : Int) o x [a, b] out left right = K (out ++ (right.drop i).map (rightS a)) left right := by
  intro n
  induction n with
  | zero => intro i out _ h; omega
  | succ n ih =>
    intro i out hi hn ho
    show f151.s1 L N self _ (f151.l1 L N self _ n) (i : Int) o x [a, b] out left right = _
    unfold f151.s1 f151.s1'
    by_cases hlt : i < right.length
    · have g1 : (decide ((0 : Int) ≤ 0) && decide ((0 : Int) < (([a, b] : List Tree).length : Int))) = true := rfl
      have g2 : listAt [a, b] (Ty.dflt (.st 1)) (0 : Int).toNat = a := rfl
      have hle : decide (out.length + ([Step.mk (right[i]).act (Tree.mk 3 0 [a, (right[i]).thn])] : List Step).length ≤ lim) = true := dt (by simp only [List.length_cons, List.length_nil]; omega)
      rw [g1, g2]
      simp only [lt_cast hlt, le0, Bool.and_true, cond_true, Int.toNat_natCast, at_lt hlt, tree_eta, hle]
      rw [wi_nat (by omega), ih (i + 1) _ (by omega) (by omega) (by simp only [List.length_append, List.length_cons, List.length_nil]; omega), List.drop_eq_getElem_cons hlt, List.map_cons, List.append_assoc]
      rfl
    · simp only [ge_cast hlt, cond_false]
      rw [List.drop_eq_nil_of_le (by omega), List.map_nil, List.append_nil]
theorem par3 (K : Int → List Step → List Step → List Step → Option R) (left right : List Step) (hl : right.length ≤ 1000000) (i : Nat) (hi : i < left.length) :
    ∀ (n j : Nat) (out : List Step), j ≤ right.length → right.length - j < n → out.length + (right.length - j) ≤ lim →
      f151.l3 L N self K n (i : Int) (j : Int) out left right = K (i : Int) (out ++ tauRow left[i] (right.drop j)) left right := by
  intro n
  induction n with
  | zero => intro j out _ h; omega
  | succ n ih =>
    intro j out hj hn ho
    show f151.s3 L N self _ (f151.l3 L N self _ n) (i : Int) (j : Int) out left right = _
    unfold f151.s3 f151.s3'
    by_cases hlt : j < right.length
    · rw [List.drop_eq_getElem_cons hlt]
      have hle : decide (out.length + ([Step.mk 0 (Tree.mk 3 0 [(left[i]).thn, (right[j]).thn])] : List Step).length ≤ lim) = true := dt (by simp only [List.length_cons, List.length_nil]; omega)
      simp only [lt_cast hlt, lt_cast hi, le0, Bool.and_true, cond_true, Int.toNat_natCast, at_lt hlt, at_lt hi]
      by_cases h0 : (left[i]).act = 0
      · rw [show ((left[i]).act != 0) = false by simpa using h0, cond_false]
        unfold f151.j0'
        rw [cond_false, wi_nat (by omega), ih (j + 1) _ (by omega) (by omega) (by omega)]
        unfold tauRow
        rw [if_neg (fun h => h h0), if_neg (fun h => h h0)]
      · rw [show ((left[i]).act != 0) = true by simpa using h0, cond_true]
        unfold f151.j0'
        cases hc : ((left[i]).act == wi (0 - (right[j]).act)) with
        | false =>
          rw [cond_false, wi_nat (by omega), ih (j + 1) _ (by omega) (by omega) (by omega)]
          unfold tauRow
          rw [if_pos h0, if_pos h0, List.filter_cons, hc]
          rfl
        | true =>
          simp only [lt_cast hlt, lt_cast hi, le0, Bool.and_true, cond_true, Int.toNat_natCast, at_lt hlt, at_lt hi, tree_eta, hle]
          rw [wi_nat (by omega), ih (j + 1) _ (by omega) (by omega) (by simp only [List.length_append, List.length_cons, List.length_nil]; omega)]
          unfold tauRow
          rw [if_pos h0, if_pos h0, List.filter_cons, hc, if_pos rfl, List.map_cons, List.append_assoc]
          rfl
    · simp only [ge_cast hlt, cond_false]
      rw [List.drop_eq_nil_of_le (by omega)]
      have : tauRow left[i] [] = [] := by unfold tauRow; split <;> rfl
      rw [this, List.append_nil]
theorem par2 (hL : 1000001 < L) (k : List Step → Option R) (left right : List Step) (hl : left.length ≤ 1000000) (hr : right.length ≤ 1000000) :
    ∀ (n i : Nat) (out : List Step), i ≤ left.length → left.length - i < n → out.length + (left.length - i) * right.length ≤ lim →
      f151.l2 L N self (fun z31 => f151.p2_e5 L N self k z31) n (i : Int) out left right = k (out ++ (left.drop i).flatMap fun x => tauRow x right) := by
  intro n
  induction n with
  | zero => intro i out _ h; omega
  | succ n ih =>
    intro i out hi hn ho
    show f151.s2 L N self _ (f151.l2 L N self _ n) (i : Int) out left right = _
    unfold f151.s2 f151.s2'
    by_cases hlt : i < left.length
    · have hstep : (left.length - i) * right.length = (left.length - (i + 1)) * right.length + right.length := by
        rw [show left.length - i = (left.length - (i + 1)) + 1 by omega, Nat.add_mul, Nat.one_mul]
      rw [lt_cast hlt, cond_true]
      refine (par3 L N self _ left right hr i hlt L 0 out (by omega) (by omega) (by omega)).trans ?_
      show f151.l2 L N self _ n (wi ((i : Int) + 1)) (out ++ tauRow left[i] (right.drop 0)) left right = _
      have htl : (tauRow left[i] right).length ≤ right.length := by
        have h1 := tauRow_len left[i] right
        have h2 := len_vt right
        split at h1 <;> omega
      rw [List.drop_zero, wi_nat (by omega), ih (i + 1) _ (by omega) (by omega) (by rw [List.length_append]; omega), List.drop_eq_getElem_cons hlt, List.flatMap_cons, List.append_assoc]
    · rw [ge_cast hlt, cond_false, List.drop_eq_nil_of_le (by omega), List.flatMap_nil, List.append_nil]
      rfl
def nmS (x : Int) : Int := wi ((bif decide ((wi (0 - x)) > x) then (wi (0 - x)) else x) - 1)
def keepH' (x : Int) (s : Step) : Bool := s.act == 0 || nmS s.act != x
theorem hide4 (k : List Step → Option R) (o x : Int) (ps : List Tree) (st : List Step) (hl : st.length ≤ 1000000) :
    ∀ (n i : Nat) (out : List Step), i ≤ st.length → st.length - i < n → out.length + (st.length - i) ≤ lim →
      f151.l4 L N self (fun z59 => f151.p4_e9 L N self k z59) n (i : Int) o x ps out st = k (out ++ ((st.drop i).filter (keepH' x)).map fun s => ⟨s.act, .mk 4 x [s.thn]⟩) := by
  intro n
  induction n with
  | zero => intro i out _ h; omega
  | succ n ih =>
    intro i out hi hn ho
    show f151.s4 L N self _ (f151.l4 L N self _ n) (i : Int) o x ps out st = _
    unfold f151.s4 f151.s4'
    by_cases hlt : i < st.length
    · rw [List.drop_eq_getElem_cons hlt, List.filter_cons]
      have hnm : f163 L N (st[i]).act = some (nmS (st[i]).act) := rfl
      have hle : decide (out.length + ([Step.mk (st[i]).act (Tree.mk 4 x [(st[i]).thn])] : List Step).length ≤ lim) = true := dt (by simp only [List.length_cons, List.length_nil]; omega)
      simp only [lt_cast hlt, le0, Bool.and_true, cond_true, Int.toNat_natCast, at_lt hlt, hnm, Option.bind_some]
      have go : ∀ c : Bool, c = keepH' x st[i] → f151.j1' L N self (fun z59 => f151.p4_e9 L N self k z59) (f151.l4 L N self (fun z59 => f151.p4_e9 L N self k z59) n) (i : Int) c o x ps out st
          = k (out ++ (if keepH' x st[i] = true then st[i] :: (st.drop (i + 1)).filter (keepH' x) else (st.drop (i + 1)).filter (keepH' x)).map fun s => ⟨s.act, .mk 4 x [s.thn]⟩) := by
        intro c hc
        subst hc
        unfold f151.j1'
        cases hk : keepH' x st[i] with
        | true =>
          simp only [lt_cast hlt, le0, Bool.and_true, cond_true, Int.toNat_natCast, at_lt hlt, tree_eta, hle]
          rw [wi_nat (by omega), ih (i + 1) _ (by omega) (by omega) (by simp only [List.length_append, List.length_cons, List.length_nil]; omega), if_pos trivial, List.map_cons, List.append_assoc]
          rfl
        | false =>
          rw [cond_false, wi_nat (by omega), ih (i + 1) _ (by omega) (by omega) (by omega), if_neg (by simp)]
      cases h0 : ((st[i]).act == 0) with
      | true => rw [cond_true]; exact go true (by unfold keepH'; rw [h0]; rfl)
      | false => rw [cond_false]; exact go _ (by unfold keepH'; rw [h0]; rfl)
    · rw [ge_cast hlt, cond_false, List.drop_eq_nil_of_le (by omega), List.filter_nil, List.map_nil, List.append_nil]
      rfl
end
def SOk (n : Int) (u : Nat) (s : Step) : Prop := (-4 ≤ s.act ∧ s.act ≤ 4) ∧ ∃ k', WT s.thn k' ∧ k' ≤ u ∧ CL n false s.thn
def Res (n : Int) (u : Nat) (r : Option (List Step)) : Prop := ∃ st, r = some st ∧ (∀ s ∈ st, SOk n u s) ∧ visS st ≤ u ∧ tauS st ≤ u * u
theorem steps_gen (L N : Nat) (hL : 1000001 < L) (ds : List Tree) (c e : Nat) (hc : 1 ≤ c ∧ c ≤ 24) (Q : Tree → Prop)
    (hQ2 : ∀ a b, Q (.mk 2 0 [a, b]) → Q a ∧ Q b) (hQ3 : ∀ a b, Q (.mk 3 0 [a, b]) → Q a ∧ Q b) (hQ4 : ∀ x a, Q (.mk 4 x [a]) → Q a)
    (hcall : ∀ m x, 0 ≤ x → x < (ds.length : Int) → Q (.mk 5 x []) → e ≤ m → Res (ds.length : Int) c (f151 L N (m + 1) (.mk 5 x []) ds)) :
    ∀ (t : Tree) (k : Nat), WT t k → k ≤ 24 → CL (ds.length : Int) false t → Q t → ∀ m, k + e ≤ m → Res (ds.length : Int) (c * k) (f151 L N m t ds) := by
  have hlim := lim_eq
  have hck : ∀ k, k ≤ 24 → c * k ≤ 576 := fun k hk => Nat.le_trans (Nat.mul_le_mul hc.2 hk) (by omega)
  have hlen : ∀ (st : List Step) (u : Nat), u ≤ 576 → visS st ≤ u → tauS st ≤ u * u → st.length ≤ 332352 := fun st u hu h1 h2 => by
    have h3 := len_vt st
    have h4 : u * u ≤ 576 * 576 := Nat.mul_le_mul hu hu
    omega
  intro t k h
  induction h with
  | nil =>
    intro _ _ _ m hm
    obtain ⟨m, rfl⟩ : ∃ m', m = m' + 1 := ⟨m - 1, by omega⟩
    have e0 : f151 L N (m + 1) (.mk 0 0 []) ds = some ([] : List Step) := rfl
    exact ⟨([] : List Step), e0, (fun s hs => by cases hs), Nat.zero_le _, Nat.zero_le _⟩
  | call x hx =>
    intro _ hcl hq m hm
    obtain ⟨m, rfl⟩ : ∃ m', m = m' + 1 := ⟨m - 1, by omega⟩
    rw [Nat.mul_one]
    exact hcall m x hx.1 hcl.lt hq (by omega)
  | act n a k hn ha ih =>
    intro hk hcl hq m hm
    obtain ⟨m, rfl⟩ : ∃ m', m = m' + 1 := ⟨m - 1, by omega⟩
    refine ⟨[⟨n, a⟩], ?_, fun s hs => ?_, ?_, ?_⟩
    · show f151.b L N (f151 L N m) some (.mk 1 n [a]) ds = _
      unfold f151.b f151.b'
      rw [bif_y (by rfl), bif_y (by rfl), bif_y (by rfl)]
      show some ([] ++ [Step.mk n (Tree.mk a.op a.n a.parts)]) = _
      rw [tree_eta]
      rfl
    · rw [List.mem_singleton.1 hs]
      have h1 : 1 * k ≤ c * (k + 1) := Nat.mul_le_mul hc.1 (by omega)
      exact ⟨hn, k, ha, by omega, hcl.sub (by decide) a (.head _)⟩
    · have h1 : 1 * 1 ≤ c * (k + 1) := Nat.mul_le_mul hc.1 (by omega)
      have h2 := List.length_filter_le (fun s : Step => s.act != 0) [⟨n, a⟩]
      unfold visS
      simp only [List.length_cons, List.length_nil] at h2 ⊢
      omega
    · have h1 : 1 * 1 ≤ c * (k + 1) := Nat.mul_le_mul hc.1 (by omega)
      have h3 : 1 * 1 ≤ (c * (k + 1)) * (c * (k + 1)) := Nat.mul_le_mul (by omega) (by omega)
      have h2 := List.length_filter_le (fun s : Step => s.act == 0) [⟨n, a⟩]
      unfold tauS
      simp only [List.length_cons, List.length_nil] at h2 ⊢
      omega
  | sum a b i j ha hb iha ihb =>
    intro hk hcl hq m hm
    obtain ⟨m, rfl⟩ : ∃ m', m = m' + 1 := ⟨m - 1, by omega⟩
    obtain ⟨qa, qb⟩ := hQ2 a b hq
    have hs := hcl.sub (by decide)
    obtain ⟨sa, ea, pa, va, ta⟩ := iha (by omega) (hs a (.head _)) qa m (by omega)
    obtain ⟨sb, eb, pb, vb, tb⟩ := ihb (by omega) (hs b (.tail _ (.head _))) qb m (by omega)
    have hu : c * (i + j + 1) = c * i + c * j + c := by rw [Nat.mul_add, Nat.mul_add, Nat.mul_one]
    have hla := hlen sa _ (hck i (by omega)) va ta
    have hlb := hlen sb _ (hck j (by omega)) vb tb
    refine ⟨sa ++ sb, ?_, fun s hs' => ?_, ?_, ?_⟩
    · show f151.b L N (f151 L N m) some (.mk 2 0 [a, b]) ds = _
      unfold f151.b f151.b'
      rw [bif_n (by rfl), bif_y (by rfl), bif_y (by rfl)]
      show ((f151 L N m a ds).bind _) = _
      rw [ea, Option.bind_some, bif_y (by rfl)]
      show ((f151 L N m b ds).bind _) = _
      rw [eb, Option.bind_some, dt (show sa.length + sb.length ≤ lim by omega), cond_true]
    · rcases List.mem_append.1 hs' with h | h
      · obtain ⟨h1, k', h2, h3, h4⟩ := pa s h; exact ⟨h1, k', h2, by omega, h4⟩
      · obtain ⟨h1, k', h2, h3, h4⟩ := pb s h; exact ⟨h1, k', h2, by omega, h4⟩
    · rw [visS_app]; omega
    · rw [tauS_app]
      generalize c * i = u at *
      generalize c * j = v at *
      generalize c * (i + j + 1) = w at *
      have h1 : (u + v) * (u + v) ≤ w * w := Nat.mul_le_mul (by omega) (by omega)
      have h2 : (u + v) * (u + v) = u * u + v * v + 2 * (u * v) := by rw [Nat.add_mul, Nat.mul_add, Nat.mul_add, Nat.mul_comm v u]; omega
      omega
  | par a b i j ha hb iha ihb =>
    intro hk hcl hq m hm
    obtain ⟨m, rfl⟩ : ∃ m', m = m' + 1 := ⟨m - 1, by omega⟩
    obtain ⟨qa, qb⟩ := hQ3 a b hq
    have hs := hcl.sub (by decide)
    have cla := hs a (.head _)
    have clb := hs b (.tail _ (.head _))
    obtain ⟨sa, ea, pa, va, ta⟩ := iha (by omega) cla qa m (by omega)
    obtain ⟨sb, eb, pb, vb, tb⟩ := ihb (by omega) clb qb m (by omega)
    have hu : c * (i + j + 1) = c * i + c * j + c := by rw [Nat.mul_add, Nat.mul_add, Nat.mul_one]
    have hui : i ≤ c * i := by have := Nat.mul_le_mul_right i hc.1; omega
    have huj : j ≤ c * j := by have := Nat.mul_le_mul_right j hc.1; omega
    have hla := hlen sa _ (hck i (by omega)) va ta
    have hlb := hlen sb _ (hck j (by omega)) vb tb
    have hti := taus_len sb sa
    have htv := taus_vis sb sa
    have hmul : sa.length * sb.length ≤ 332352 * 332352 := Nat.mul_le_mul hla hlb
    have mkp : ∀ (p q : Tree) (i' j' : Nat), WT p i' → WT q j' → CL (ds.length : Int) false p → CL (ds.length : Int) false q → i' ≤ c * i → j' ≤ c * j → ∃ k', WT (.mk 3 0 [p, q]) k' ∧ k' ≤ c * (i + j + 1) ∧ CL (ds.length : Int) false (.mk 3 0 [p, q]) := fun p q i' j' h1 h2 h3 h4 h5 h6 =>
      ⟨i' + j' + 1, .par p q i' j' h1 h2, by omega, .node false 3 0 [p, q] (by decide) fun x hx => by
        rcases List.mem_cons.1 hx with rfl | hx
        · exact h3
        · rw [List.mem_singleton.1 hx]; exact h4⟩
    refine ⟨(sa.map (leftS b) ++ sb.map (rightS a)) ++ sa.flatMap fun x => tauRow x sb, ?_, fun s hs' => ?_, ?_, ?_⟩
    · show f151.b L N (f151 L N m) some (.mk 3 0 [a, b]) ds = _
      unfold f151.b f151.b'
      rw [bif_n (by rfl), bif_n (by rfl), bif_y (by rfl), bif_y (by rfl)]
      show ((f151 L N m a ds).bind _) = _
      rw [ea, Option.bind_some, bif_y (by rfl)]
      show ((f151 L N m b ds).bind _) = _
      rw [eb, Option.bind_some]
      refine (par0 L N (f151 L N m) _ 3 0 a b sa sb (by omega) L 0 [] (by omega) (by omega) (by simp only [List.length_nil]; omega)).trans ?_
      refine (par1 L N (f151 L N m) _ 3 0 a b sa sb (by omega) L 0 _ (by omega) (by omega) (by simp only [List.length_append, List.length_map, List.length_nil, List.length_drop]; omega)).trans ?_
      refine (par2 L N (f151 L N m) hL some sa sb (by omega) (by omega) L 0 _ (by omega) (by omega) (by simp only [List.length_append, List.length_map, List.length_nil, List.length_drop, Nat.sub_zero]; omega)).trans ?_
      simp only [List.drop_zero, List.nil_append]
    · rcases List.mem_append.1 hs' with h | h
      · rcases List.mem_append.1 h with h | h
        · obtain ⟨y, hy, rfl⟩ := List.mem_map.1 h
          obtain ⟨h1, k', h2, h3, h4⟩ := pa y hy
          exact ⟨h1, mkp y.thn b k' j h2 hb h4 clb h3 huj⟩
        · obtain ⟨y, hy, rfl⟩ := List.mem_map.1 h
          obtain ⟨h1, k', h2, h3, h4⟩ := pb y hy
          exact ⟨h1, mkp a y.thn i k' ha h2 cla h4 hui h3⟩
      · obtain ⟨x, hx, h⟩ := List.mem_flatMap.1 h
        unfold tauRow at h
        split at h
        · obtain ⟨y, hy, rfl⟩ := List.mem_map.1 h
          obtain ⟨-, k1, h2, h3, h4⟩ := pa x hx
          obtain ⟨-, k2, g2, g3, g4⟩ := pb y (List.mem_filter.1 hy).1
          exact ⟨(show -4 ≤ (0 : Int) ∧ (0 : Int) ≤ 4 by omega), mkp x.thn y.thn k1 k2 h2 g2 h4 g4 h3 g3⟩
        · cases h
    · rw [visS_app, visS_app, htv, visS_map (f := leftS b) (fun _ => rfl), visS_map (f := rightS a) (fun _ => rfl)]; omega
    · have ht3 : tauS (sa.flatMap fun x => tauRow x sb) ≤ visS sa * visS sb := by
        have := len_vt (sa.flatMap fun x => tauRow x sb); omega
      have hvv : visS sa * visS sb ≤ (c * i) * (c * j) := Nat.mul_le_mul va vb
      rw [tauS_app, tauS_app, tauS_map (f := leftS b) (fun _ => rfl), tauS_map (f := rightS a) (fun _ => rfl)]
      generalize c * i = u at *
      generalize c * j = v at *
      generalize c * (i + j + 1) = w at *
      have h1 : (u + v) * (u + v) ≤ w * w := Nat.mul_le_mul (by omega) (by omega)
      have h2 : (u + v) * (u + v) = u * u + v * v + 2 * (u * v) := by rw [Nat.add_mul, Nat.mul_add, Nat.mul_add, Nat.mul_comm v u]; omega
      omega
  | hide x a k hx ha ih =>
    intro hk hcl hq m hm
    obtain ⟨m, rfl⟩ : ∃ m', m = m' + 1 := ⟨m - 1, by omega⟩
    have hs := hcl.sub (by decide)
    obtain ⟨sa, ea, pa, va, ta⟩ := ih (by omega) (hs a (.head _)) (hQ4 x a hq) m (by omega)
    have hu : c * (k + 1) = c * k + c := by rw [Nat.mul_add, Nat.mul_one]
    have hla := hlen sa _ (hck k (by omega)) va ta
    refine ⟨(sa.filter (keepH' x)).map fun s => ⟨s.act, .mk 4 x [s.thn]⟩, ?_, fun s hs' => ?_, ?_, ?_⟩
    · show f151.b L N (f151 L N m) some (.mk 4 x [a]) ds = _
      unfold f151.b f151.b'
      rw [bif_n (by rfl), bif_n (by rfl), bif_n (by rfl), bif_y (by rfl), bif_y (by rfl)]
      show ((f151 L N m a ds).bind _) = _
      rw [ea, Option.bind_some]
      refine (hide4 L N (f151 L N m) some 4 x [a] sa (by omega) L 0 [] (by omega) (by omega) (by simp only [List.length_nil]; omega)).trans ?_
      simp only [List.drop_zero, List.nil_append]
    · obtain ⟨y, hy, rfl⟩ := List.mem_map.1 hs'
      obtain ⟨h1, k', h2, h3, h4⟩ := pa y (List.mem_filter.1 hy).1
      exact ⟨h1, k' + 1, .hide x y.thn k' hx h2, by omega, .node false 4 x [y.thn] (by decide) fun p hp => by rw [List.mem_singleton.1 hp]; exact h4⟩
    · rw [visS_map (f := fun s => ⟨s.act, .mk 4 x [s.thn]⟩) (fun _ => rfl)]
      have := visS_sub (p := keepH' x) sa
      omega
    · rw [tauS_map (f := fun s => ⟨s.act, .mk 4 x [s.thn]⟩) (fun _ => rfl)]
      have := tauS_sub (p := keepH' x) sa
      have h3 : (c * k) * (c * k) ≤ (c * (k + 1)) * (c * (k + 1)) := Nat.mul_le_mul (by omega) (by omega)
      omega
theorem steps_ok (L N : Nat) (hL : 1000001 < L) (ds : List Tree) (hd : DefsW ds) (t : Tree) (k : Nat) (h : WT t k) (hk : k ≤ 24) (hcl : CL (ds.length : Int) false t) (m : Nat) (hm : 60 ≤ m) :
    Res (ds.length : Int) 576 (f151 L N m t ds) := by
  have guarded : ∀ (t : Tree) (k : Nat), WT t k → k ≤ 24 → CL (ds.length : Int) false t → CL 0 true t → ∀ m, k + 0 ≤ m → Res (ds.length : Int) (1 * k) (f151 L N m t ds) :=
    steps_gen L N hL ds 1 0 ⟨by omega, by omega⟩ (fun t => CL 0 true t)
      (fun a b h => ⟨h.sub2 (by decide) (by decide) a (.head _), h.sub2 (by decide) (by decide) b (.tail _ (.head _))⟩)
      (fun a b h => ⟨h.sub2 (by decide) (by decide) a (.head _), h.sub2 (by decide) (by decide) b (.tail _ (.head _))⟩)
      (fun x a h => h.sub2 (by decide) (by decide) a (.head _))
      (fun m x h0 h1 hq _ => by have := hq.lt; omega)
  have all := steps_gen L N hL ds 24 25 ⟨by omega, by omega⟩ (fun _ => True) (fun _ _ _ => ⟨trivial, trivial⟩) (fun _ _ _ => ⟨trivial, trivial⟩) (fun _ _ _ => trivial)
      (fun m x h0 h1 _ hm => by
        obtain ⟨i, rfl⟩ := Int.eq_ofNat_of_zero_le h0
        have hi : i < ds.length := by omega
        obtain ⟨kd, k1, k2, k3, k4⟩ := hd.2 ds[i] (List.getElem_mem hi)
        obtain ⟨st, e, p, v, tt⟩ := guarded ds[i] kd k2 k1 k3 k4 m (by omega)
        refine ⟨st, ?_, fun s hs => ?_, by omega, ?_⟩
        · show f151.b L N (f151 L N m) some (.mk 5 (i : Int) []) ds = _
          unfold f151.b f151.b'
          rw [bif_n (by rfl), bif_n (by rfl), bif_n (by rfl), bif_n (by rfl), bif_y (by rfl)]
          show (bif decide ((0 : Int) ≤ (i : Int)) && decide ((i : Int) < (ds.length : Int)) then ((f151 L N m (listAt ds (Ty.dflt (.st 1)) (i : Int).toNat) ds).bind _) else none) = _
          simp only [le0, lt_cast hi, Bool.and_true, cond_true, Int.toNat_natCast, at_lt hi, e, Option.bind_some]
        · obtain ⟨h1, k', h2, h3, h4⟩ := p s hs
          exact ⟨h1, k', h2, by omega, h4⟩
        · have : (1 * kd) * (1 * kd) ≤ 24 * 24 := Nat.mul_le_mul (by omega) (by omega)
          omega)
  obtain ⟨st, e, p, v, tt⟩ := all t k h hk hcl trivial m (by omega)
  have hb : 24 * k ≤ 576 := by omega
  refine ⟨st, e, fun s hs => ?_, by omega, ?_⟩
  · obtain ⟨h1, k', h2, h3, h4⟩ := p s hs
    exact ⟨h1, k', h2, by omega, h4⟩
  · have : (24 * k) * (24 * k) ≤ 576 * 576 := Nat.mul_le_mul hb hb
    omega
end Go.Proofs.Ytdfjdbpklbehoaa.Ev
namespace Go.Proofs.Ytdfjdbpklbehoaa.Ev
open Go
set_option linter.unusedVariables false
set_option linter.unusedSimpArgs false
theorem less_irrefl (a : Move) : lessM a a = false := by unfold lessM; exact decide_eq_false (by omega)
theorem less_trans {a b c : Move} (h1 : lessM a b = true) (h2 : lessM b c = true) : lessM a c = true := by
  unfold lessM at *; have h1 := of_decide_eq_true h1; have h2 := of_decide_eq_true h2; exact decide_eq_true (by omega)
theorem less_tot {a b : Move} (h1 : lessM a b = false) (h2 : a ≠ b) : lessM b a = true := by
  unfold lessM at *
  have h1 := of_decide_eq_false h1
  obtain ⟨a1, a2⟩ := a
  obtain ⟨b1, b2⟩ := b
  have h2 : ¬ (a1 = b1 ∧ a2 = b2) := fun h => h2 (by rw [h.1, h.2])
  exact decide_eq_true (by simp only at h1 ⊢; omega)
theorem less_ne {a b : Move} (h : lessM a b = true) : a ≠ b := fun e => by rw [e, less_irrefl] at h; cases h
def RisesM (l : List Move) : Prop := l.Pairwise fun a b => lessM a b = true
theorem risesM_ext : ∀ {a b : List Move}, RisesM a → RisesM b → (∀ x, x ∈ a ↔ x ∈ b) → a = b
  | [], [], _, _, _ => rfl
  | [], y :: b, _, _, h => absurd ((h y).2 (.head _)) (by simp)
  | x :: a, [], _, _, h => absurd ((h x).1 (.head _)) (by simp)
  | x :: a, y :: b, ha, hb, h => by
    have ha' := List.pairwise_cons.1 ha
    have hb' := List.pairwise_cons.1 hb
    have hxy : x = y := by
      rcases List.mem_cons.1 ((h x).1 (.head _)) with e | e
      · exact e
      · rcases List.mem_cons.1 ((h y).2 (.head _)) with e' | e'
        · exact e'.symm
        · have q := less_trans (hb'.1 x e) (ha'.1 y e')
          rw [less_irrefl] at q; cases q
    subst hxy
    refine congrArg (x :: ·) (risesM_ext ha'.2 hb'.2 fun z => ?_)
    have := h z
    simp only [List.mem_cons] at this
    constructor
    · intro hz
      rcases this.1 (.inr hz) with e | e
      · exact absurd e.symm (less_ne (ha'.1 z hz))
      · exact e
    · intro hz
      rcases this.2 (.inr hz) with e | e
      · exact absurd e.symm (less_ne (hb'.1 z hz))
      · exact e
theorem len_asc {f : Move → Int} {B : Int} : ∀ {l : List Move} {b : Int}, (l.Pairwise fun x y => f x < f y) → (∀ x ∈ l, b ≤ f x ∧ f x < B) → b ≤ B → (l.length : Int) ≤ B - b
  | [], b, _, _, hb => by simp; omega
  | x :: l, b, hp, hb, hB => by
    obtain ⟨h1, h2⟩ := List.pairwise_cons.1 hp
    obtain ⟨h3, h4⟩ := hb x (.head _)
    have := len_asc (b := f x + 1) h2 (fun y hy => ⟨by have := h1 y hy; omega, (hb y (.tail _ hy)).2⟩) (by omega)
    rw [List.length_cons]
    omega
theorem risesM_len {l : List Move} (hr : RisesM l) (h : ∀ m ∈ l, -4 ≤ m.act ∧ m.act ≤ 4 ∧ 0 ≤ m.to ∧ m.to < 60) : l.length ≤ 540 := by
  have h1 : l.Pairwise fun x y => (x.act + 4) * 60 + x.to < (y.act + 4) * 60 + y.to := by
    refine List.Pairwise.imp_of_mem ?_ hr
    intro x y hx hy hxy
    unfold lessM at hxy
    have hxy := of_decide_eq_true hxy
    have := h x hx
    have := h y hy
    omega
  have := len_asc (B := 540) (b := 0) h1 (fun x hx => by have := h x hx; omega) (by omega)
  omega
theorem gsize_le {B : Nat} : ∀ {ms : List (List Move)}, (∀ r ∈ ms, r.length ≤ B) → gsize ms ≤ ms.length * B
  | [], _ => by simp [gsize]
  | r :: ms, h => by
    have h1 := h r (.head _)
    have h2 := gsize_le (B := B) (ms := ms) fun x hx => h x (.tail _ hx)
    unfold gsize at h2 ⊢
    rw [List.map_cons, List.sum_cons, List.length_cons, Nat.add_mul, Nat.one_mul]
    omega
theorem l3s1 {R : Type} (L N : Nat) (K : List Move → Int → Int → List Move → Option R) (xs out : List Move) (i : Nat) (hi : i < xs.length) (ho : out.length < 9223372036854775807) :
    ∀ (n k : Nat), k ≤ out.length → k < n → (∀ j (hj : j < out.length), k ≤ j → lessM xs[i] out[j] = true) →
      ∃ a : Nat, a ≤ out.length ∧ (∀ j (hj : j < out.length), a ≤ j → lessM xs[i] out[j] = true) ∧ (∀ (h : 0 < a) (ha : a - 1 < out.length), lessM xs[i] out[a - 1] = false) ∧
        f123.l1 L N K n xs (i : Int) (k : Int) out = K xs (i : Int) (a : Int) out := by
  intro n
  induction n with
  | zero => intro k _ h; omega
  | succ n ih =>
    intro k hk hn hge
    show ∃ a : Nat, _ ∧ _ ∧ _ ∧ f123.s1 L N _ (f123.l1 L N _ n) xs (i : Int) (k : Int) out = _
    unfold f123.s1 f123.s1'
    by_cases h0 : 0 < k
    · have hk1 : k - 1 < out.length := by omega
      rw [show decide ((k : Int) > 0) = true from decide_eq_true (by omega)]
      simp only [cond_true, le0, lt_cast hi, Bool.and_true, pred_cast h0 (by omega), lt_cast hk1, Int.toNat_natCast, at_lt hi, at_lt hk1, less2_ok, Option.bind_some]
      cases hc : lessM xs[i] out[k - 1] with
      | true =>
        simp only [cond_true]
        refine ih (k - 1) (by omega) (by omega) fun j hj hkj => ?_
        by_cases e : j = k - 1
        · subst e; exact hc
        · exact hge j hj (by omega)
      | false =>
        simp only [cond_false]
        exact ⟨k, hk, hge, fun _ _ => hc, rfl⟩
    · have hk0 : k = 0 := by omega
      subst hk0
      rw [show decide (((0 : Nat) : Int) > 0) = false from rfl]
      simp only [cond_false]
      exact ⟨0, by omega, hge, fun h => absurd h (by omega), rfl⟩
theorem l3s2 {R : Type} (L N : Nat) (K : List Move → Int → Int → List Move → Option R) (xs out : List Move) (i : Int) (a : Nat) (ho : out.length < 9223372036854775806) :
    ∀ (n k : Nat) (l : List Move), l.length = out.length + 1 → a ≤ k → k ≤ out.length → k - a < n → (∀ j, j < k → l[j]? = out[j]?) → (∀ j, k < j → l[j]? = out[j - 1]?) →
      ∃ l' : List Move, l'.length = out.length + 1 ∧ (∀ j, j < a → l'[j]? = out[j]?) ∧ (∀ j, a < j → l'[j]? = out[j - 1]?) ∧
        f123.l2 L N K n xs i (a : Int) (k : Int) l = K xs i (a : Int) l' := by
  intro n
  induction n with
  | zero => intro k l _ _ _ h; omega
  | succ n ih =>
    intro k l hl hak hk hn h1 h2
    show ∃ l' : List Move, _ ∧ _ ∧ _ ∧ f123.s2 L N _ (f123.l2 L N _ n) xs i (a : Int) (k : Int) l = _
    unfold f123.s2 f123.s2'
    by_cases h0 : a < k
    · have hk1 : k - 1 < l.length := by omega
      have hk2 : k < l.length := by omega
      rw [show decide ((k : Int) > (a : Int)) = true from decide_eq_true (by omega)]
      simp only [cond_true, le0, pred_cast (show 0 < k by omega) (by omega), lt_cast hk1, lt_cast hk2, Bool.and_true, Int.toNat_natCast, at_lt hk1]
      refine ih (k - 1) _ (by simp [hl]) (by omega) (by omega) (by omega) (fun j hj => ?_) (fun j hj => ?_)
      · rw [List.getElem?_set_ne (by omega)]; exact h1 j (by omega)
      · by_cases e : j = k
        · subst e
          rw [List.getElem?_set_self hk2, ← h1 (j - 1) (by omega), List.getElem?_eq_getElem hk1]
        · rw [List.getElem?_set_ne (by omega)]; exact h2 j (by omega)
    · have hk0 : k = a := by omega
      subst hk0
      rw [show decide ((k : Int) > (k : Int)) = false from decide_eq_false (by omega)]
      simp only [cond_false]
      exact ⟨l, hl, h1, h2, rfl⟩
theorem ins_rises {out : List Move} {x : Move} {a : Nat} (hr : RisesM out) (ha : a ≤ out.length) (hge : ∀ j (hj : j < out.length), a ≤ j → lessM x out[j] = true) (hlt : ∀ (h : 0 < a) (hj : a - 1 < out.length), lessM out[a - 1] x = true) :
    RisesM (out.take a ++ x :: out.drop a) := by
  unfold RisesM
  rw [List.pairwise_append, List.pairwise_cons]
  have hd : ∀ y ∈ out.drop a, lessM x y = true := fun y hy => by
    obtain ⟨j, hj, rfl⟩ := List.mem_iff_getElem.1 hy
    rw [List.getElem_drop]
    exact hge _ _ (by omega)
  have ht : ∀ y ∈ out.take a, lessM y x = true := fun y hy => by
    obtain ⟨j, hj, rfl⟩ := List.mem_iff_getElem.1 hy
    rw [List.length_take] at hj
    rw [List.getElem_take]
    have h1 := hlt (by omega) (by omega)
    by_cases e : j = a - 1
    · subst e; exact h1
    · exact less_trans (List.pairwise_iff_getElem.1 hr j (a - 1) (by omega) (by omega) (by omega)) h1
  refine ⟨List.Pairwise.sublist (List.take_sublist _ _) hr, ⟨hd, List.Pairwise.sublist (List.drop_sublist _ _) hr⟩, fun y hy z hz => ?_⟩
  rcases List.mem_cons.1 hz with rfl | hz
  · exact ht y hy
  · exact less_trans (ht y hy) (hd z hz)
theorem l3Sorted_ok (L N : Nat) (xs : List Move) (hx : xs.length ≤ 1099511627776) (hL : xs.length + 2 < L) :
    ∃ ys, f123 L N xs = some ys ∧ RisesM ys ∧ (∀ v, v ∈ ys ↔ v ∈ xs) ∧ ys.length ≤ xs.length := by
  have hlim := lim_eq
  show ∃ ys, f123.b L N some xs = some ys ∧ _
  unfold f123.b f123.b'
  have key : ∀ (n i : Nat) (out : List Move), i ≤ xs.length → xs.length - i < n → out.length ≤ i → RisesM out → (∀ v, v ∈ out ↔ v ∈ xs.take i) →
      ∃ ys, f123.l0 L N (fun z3 => f123.p0_e0 L N some z3) n xs (i : Int) out = some ys ∧ RisesM ys ∧ (∀ v, v ∈ ys ↔ v ∈ xs) ∧ ys.length ≤ xs.length := by
    intro n
    induction n with
    | zero => intro i out _ h; omega
    | succ n ih =>
      intro i out hi hn hlen hr hmem
      show ∃ ys, f123.s0 L N _ (f123.l0 L N _ n) xs (i : Int) out = _ ∧ _
      unfold f123.s0 f123.s0'
      by_cases hlt : i < xs.length
      · simp only [lt_cast hlt, cond_true]
        obtain ⟨a, ha, hge, hla, e⟩ := l3s1 L N (fun z14 z15 z16 z17 => f123.p1_e2 L N (fun z3 => f123.p0_e0 L N some z3) (f123.l0 L N (fun z3 => f123.p0_e0 L N some z3) n) z14 z15 z16 z17) xs out i hlt (by omega) L out.length (Nat.le_refl _) (by omega) (fun j hj h => absurd hj (by omega))
        have hmem' : ∀ v, v ∈ xs.take (i + 1) ↔ v ∈ xs.take i ∨ v = xs[i] := fun v => by
          rw [List.take_add_one, List.getElem?_eq_getElem hlt]; simp only [Option.toList_some, List.mem_append, List.mem_singleton]
        have hwi : wi ((i : Int) + 1) = ((i + 1 : Nat) : Int) := wi_nat (by omega)
        rw [e]
        have tail : (∀ (h : 0 < a) (hj : a - 1 < out.length), lessM out[a - 1] xs[i] = true) → ∃ ys, f123.j0' L N (fun z3 => f123.p0_e0 L N some z3) (f123.l0 L N (fun z3 => f123.p0_e0 L N some z3) n) (f123.l2 L N (fun z36 z37 z38 z39 => f123.p2_e4 L N (fun z3 => f123.p0_e0 L N some z3) (f123.l0 L N (fun z3 => f123.p0_e0 L N some z3) n) z36 z37 z38 z39) L) xs (i : Int) (a : Int) out = some ys ∧ RisesM ys ∧ (∀ v, v ∈ ys ↔ v ∈ xs) ∧ ys.length ≤ xs.length := by
          intro hlt2
          unfold f123.j0'
          have hle : decide (out.length + ([(Move.mk (0 : Int) (0 : Int))] : (List Move)).length ≤ lim) = true := dt (by simp only [List.length_cons, List.length_nil]; omega)
          rw [hle, cond_true, List.length_append, show ([(Move.mk (0 : Int) (0 : Int))] : List Move).length = 1 from rfl, pred_cast (by omega) (by omega), show out.length + 1 - 1 = out.length by omega]
          obtain ⟨l', q1, q2, q3, e2⟩ := l3s2 L N (fun z36 z37 z38 z39 => f123.p2_e4 L N (fun z3 => f123.p0_e0 L N some z3) (f123.l0 L N (fun z3 => f123.p0_e0 L N some z3) n) z36 z37 z38 z39) xs out (i : Int) a (by omega) L out.length (out ++ [Move.mk 0 0]) (by simp) ha (Nat.le_refl _) (by omega)
            (fun j hj => by rw [List.getElem?_append_left hj]) (fun j hj => by rw [List.getElem?_eq_none (by simp; omega), List.getElem?_eq_none (by omega)])
          rw [e2]
          unfold f123.p2_e4 f123.p2_e4'
          have hal : a < l'.length := by omega
          simp only [le0, lt_cast hlt, lt_cast hal, Bool.and_true, cond_true, Int.toNat_natCast, at_lt hlt, hwi]
          have hset : l'.set a xs[i] = out.take a ++ xs[i] :: out.drop a := by
            apply List.ext_getElem?
            intro j
            rcases Nat.lt_trichotomy j a with h | h | h
            · rw [List.getElem?_set_ne (by omega), q2 j h, List.getElem?_append_left (by rw [List.length_take]; omega), List.getElem?_take, if_pos h]
            · subst h
              rw [List.getElem?_set_self hal, List.getElem?_append_right (by rw [List.length_take]; omega), List.length_take, show j - min j out.length = 0 by omega]
              rfl
            · rw [List.getElem?_set_ne (by omega), q3 j h, List.getElem?_append_right (by rw [List.length_take]; omega), List.length_take, show j - min a out.length = (j - 1 - a) + 1 by omega, List.getElem?_cons_succ, List.getElem?_drop, show a + (j - 1 - a) = j - 1 by omega]
          rw [hset]
          refine ih (i + 1) _ (by omega) (by omega) (by simp only [List.length_append, List.length_cons, List.length_take, List.length_drop]; omega) (ins_rises hr ha hge hlt2) fun v => ?_
          rw [hmem' v, ← hmem v, List.mem_append, List.mem_cons]
          constructor
          · rintro (h | h | h)
            · exact .inl (List.mem_of_mem_take h)
            · exact .inr h
            · exact .inl (List.mem_of_mem_drop h)
          · rintro (h | h)
            · rw [← List.take_append_drop a out, List.mem_append] at h
              rcases h with h | h
              · exact .inl h
              · exact .inr (.inr h)
            · exact .inr (.inl h)
        show ∃ ys, f123.p1_e2' L N _ _ _ xs (i : Int) (a : Int) out = some ys ∧ _
        unfold f123.p1_e2'
        by_cases h0 : 0 < a
        · have ha1 : a - 1 < out.length := by omega
          rw [show decide ((a : Int) > 0) = true from decide_eq_true (by omega)]
          simp only [cond_true, le0, pred_cast h0 (by omega), lt_cast ha1, lt_cast hlt, Bool.and_true, Int.toNat_natCast, at_lt ha1, at_lt hlt, hwi]
          cases hb : Move.eqb out[a - 1] xs[i] with
          | true =>
            simp only [cond_true]
            have he : out[a - 1] = xs[i] := by
              simp only [Move.eqb, Bool.and_eq_true, beq_iff_eq] at hb
              have h1 := hb.1; have h2 := hb.2
              rw [← mv_eta out[a - 1], ← mv_eta xs[i], h1, h2]
            refine ih (i + 1) out (by omega) (by omega) (by omega) hr fun v => ?_
            rw [hmem' v, ← hmem v]
            constructor
            · exact .inl
            · rintro (h | h)
              · exact h
              · rw [h, ← he]; exact List.getElem_mem ha1
          | false =>
            simp only [cond_false]
            refine tail fun h hj => less_tot (hla h hj) fun e => ?_
            rw [e] at hb
            simp [Move.eqb] at hb
        · rw [show decide ((a : Int) > 0) = false from decide_eq_false (by omega)]
          simp only [cond_false]
          exact tail fun h => absurd h h0
      · simp only [ge_cast hlt, cond_false]
        have hi' : i = xs.length := by omega
        subst hi'
        rw [List.take_length] at hmem
        exact ⟨out, rfl, hr, hmem, hlen⟩
  exact key L 0 [] (by omega) (by omega) (Nat.le_refl _) List.Pairwise.nil (fun v => by simp)
end Go.Proofs.Ytdfjdbpklbehoaa.Ev
namespace Go.Proofs.Ytdfjdbpklbehoaa.Ev
open Go
set_option linter.unusedVariables false
set_option linter.unusedSimpArgs false
def Fwd (r : List Move) : Prop := ∀ m ∈ r, 0 ≤ m.to
def SlimR (r : List Move) : Prop := r.length ≤ 540 ∧ Fwd r
def Slim (g : Graph) : Prop := g.moves.length ≤ 60 ∧ ∀ r ∈ g.moves, SlimR r
theorem Slim.size {g : Graph} (h : Slim g) : g.moves.length + gsize g.moves ≤ 1048576 := by
  have := gsize_le fun r hr => (h.2 r hr).1
  have := h.1
  omega
def Mv60 (row : List Move) : Prop := ∀ m ∈ row, -4 ≤ m.act ∧ m.act ≤ 4 ∧ 0 ≤ m.to ∧ m.to < 60
theorem sorted_slim (L N : Nat) {row : List Move} (hl : row.length ≤ 1000000) (hm : Mv60 row) (hL : 1000002 < L) : ∃ ys, f123 L N row = some ys ∧ SlimR ys := by
  obtain ⟨ys, e, h1, h2, -⟩ := l3Sorted_ok L N row (by omega) (by omega)
  exact ⟨ys, e, risesM_len h1 fun m hmm => hm m ((h2 m).1 hmm), fun m hmm => (hm m ((h2 m).1 hmm)).2.2.1⟩
def FinG (r : Option (Graph × Bool)) : Prop := ∃ g ok, r = some (g, ok) ∧ Slim g
def InvT (n : Int) (terms : List Tree) (keys : List ByteArray) : Prop := terms.length = keys.length ∧ terms.length ≤ 60 ∧ ∀ t ∈ terms, ∃ k, k ≤ 24 ∧ WT t k ∧ CL n false t
theorem search2 {R : Type} (L N : Nat) (K : List Tree → Int → Int → ByteArray → Int → List Tree → List ByteArray → List Step → List Move → List (List Move) → Option R) (ds : List Tree) (i j : Int) (key : ByteArray) (terms : List Tree) (keys : List ByteArray) (st : List Step) (row : List Move) (rows : List (List Move)) (hk : keys.length ≤ 60) :
    ∀ (n q : Nat), q ≤ keys.length → keys.length - q < n → ∃ q' : Nat, q' ≤ keys.length ∧ f133.l2 L N K n ds i j key (q : Int) terms keys st row rows = K ds i j key (q' : Int) terms keys st row rows := by
  intro n
  induction n with
  | zero => intro q _ h; omega
  | succ n ih =>
    intro q hq hn
    show ∃ q' : Nat, _ ∧ f133.s2 L N _ (f133.l2 L N _ n) ds i j key (q : Int) terms keys st row rows = _
    unfold f133.s2 f133.s2'
    by_cases hlt : q < keys.length
    · simp only [lt_cast hlt, le0, Bool.and_true, cond_true, Int.toNat_natCast]
      cases hc : (!((listAt keys ByteArray.empty q).toList == key.toList)) with
      | true => rw [cond_true, wi_nat (by omega)]; exact ih (q + 1) (by omega) (by omega)
      | false => rw [cond_false]; exact ⟨q, hq, rfl⟩
    · rw [ge_cast hlt, cond_false]; exact ⟨q, hq, rfl⟩
theorem inner1 (L N : Nat) (hN : 1000 ≤ N) (hL : 1000002 < L) (ds : List Tree) (nn : Int) (i : Int) (st : List Step) (rows : List (List Move))
    (Ke : List Tree → Int → List Tree → List ByteArray → List Move → List (List Move) → Option (Graph × Bool)) (Kr : List Tree → Bool → Int → List Tree → List ByteArray → List Move → List (List Move) → Option (Graph × Bool))
    (hst : ∀ s ∈ st, SOk nn 576 s) (hsl : st.length ≤ 400000)
    (hKe : ∀ terms keys row, InvT nn terms keys → row.length ≤ 400000 → Mv60 row → FinG (Ke ds i terms keys row rows)) (hKr : ∀ terms keys row, FinG (Kr ds false i terms keys row rows)) :
    ∀ (n j : Nat) (terms : List Tree) (keys : List ByteArray) (row : List Move), j ≤ st.length → st.length - j < n → InvT nn terms keys → row.length ≤ j → Mv60 row →
      FinG (f133.l1 L N Ke Kr n ds i (j : Int) terms keys st row rows) := by
  have hlim := lim_eq
  intro n
  induction n with
  | zero => intro j terms keys row _ h; omega
  | succ n ih =>
    intro j terms keys row hj hn hI hrl hrow
    obtain ⟨hk1, hk2, hk3⟩ := id hI
    show FinG (f133.s1 L N _ _ (f133.l1 L N _ _ n) ds i (j : Int) terms keys st row rows)
    unfold f133.s1 f133.s1'
    by_cases hlt : j < st.length
    · obtain ⟨hact, k', hw, hk', hcl⟩ := hst st[j] (List.getElem_mem hlt)
      have hnd := hw.nodes_eq
      obtain ⟨key, e, hks⟩ := l2Text_ok L N (by omega) (by omega) (st[j]).thn k' hw (by omega) N (by omega)
      simp only [lt_cast hlt, le0, Bool.and_true, cond_true, Int.toNat_natCast, at_lt hlt, tree_eta, e, Option.bind_some]
      obtain ⟨q, hq, e2⟩ := search2 L N (fun z44 z45 z46 z47 z48 z49 z50 z51 z52 z53 => f133.p2_e4 L N Ke Kr (f133.l1 L N Ke Kr n) z44 z45 z46 z47 z48 z49 z50 z51 z52 z53) ds i (j : Int) key terms keys st row rows (by omega) L 0 (by omega) (by omega)
      refine (fun h => by rw [show f133.l2 L N (fun z44 z45 z46 z47 z48 z49 z50 z51 z52 z53 => f133.p2_e4 L N Ke Kr (f133.l1 L N Ke Kr n) z44 z45 z46 z47 z48 z49 z50 z51 z52 z53) L ds i (j : Int) key (0 : Int) terms keys st row rows = _ from e2]; exact h : FinG (f133.p2_e4' L N Ke Kr (f133.l1 L N Ke Kr n) ds i (j : Int) key (q : Int) terms keys st row rows) → _) ?_
    
      have put : ∀ (terms' : List Tree) (keys' : List ByteArray), InvT nn terms' keys' → q < 60 → FinG (f133.j1' L N Ke Kr (f133.l1 L N Ke Kr n) ds i (j : Int) (q : Int) terms' keys' st row rows) := by
        intro terms' keys' hI' hq60
        unfold f133.j1'
        have hle : decide (row.length + ([Move.mk (st[j]).act (q : Int)] : List Move).length ≤ lim) = true := dt (by simp only [List.length_cons, List.length_nil]; omega)
        simp only [lt_cast hlt, le0, Bool.and_true, cond_true, Int.toNat_natCast, at_lt hlt, hle]
        rw [wi_nat (by omega)]
        refine ih (j + 1) terms' keys' _ (by omega) (by omega) hI' (by simp only [List.length_append, List.length_cons, List.length_nil]; omega) fun m hm => ?_
        rcases List.mem_append.1 hm with h | h
        · exact hrow m h
        · rw [List.mem_singleton.1 h]; exact ⟨hact.1, hact.2, by show (0 : Int) ≤ (q : Int); omega, by show (q : Int) < 60; omega⟩
      unfold f133.p2_e4'
      by_cases hqe : q = keys.length
      · rw [show ((q : Int) == (keys.length : Int)) = true by rw [hqe]; simp, cond_true]
        by_cases h60 : q = 60
        · rw [show ((q : Int) == 60) = true by rw [h60]; rfl, cond_true]
          exact hKr terms keys row
        · rw [show ((q : Int) == 60) = false by simp; omega, cond_false]
          obtain ⟨r, f, r0, r1, hr⟩ := l2Nodes_ok L N N (st[j]).thn (by omega) (by omega)
          simp only [lt_cast hlt, le0, Bool.and_true, cond_true, Int.toNat_natCast, at_lt hlt, tree_eta, f, Option.bind_some]
          by_cases h24 : r > 24
          · rw [dt h24, cond_true]; exact hKr terms keys row
          · rw [df h24, cond_false]
            unfold f133.j0'
            have hle1 : decide (terms.length + ([(st[j]).thn] : List Tree).length ≤ lim) = true := dt (by simp only [List.length_cons, List.length_nil]; omega)
            have hle2 : decide (keys.length + ([key] : List ByteArray).length ≤ lim) = true := dt (by simp only [List.length_cons, List.length_nil]; omega)
            simp only [lt_cast hlt, le0, Bool.and_true, cond_true, Int.toNat_natCast, at_lt hlt, tree_eta, hle1, hle2]
            have hk24 : k' ≤ 24 := by
              have h1 := l2Nodes_wt L N (by omega) (st[j]).thn k' hw (by omega) N (by omega)
              rw [f] at h1
              have h1 := Option.some.inj h1
              omega
            refine put _ _ ⟨by simp [hk1], by simp; omega, fun t ht => ?_⟩ (by omega)
            rcases List.mem_append.1 ht with h | h
            · exact hk3 t h
            · rw [List.mem_singleton.1 h]; exact ⟨k', hk24, hw, hcl⟩
      · rw [show ((q : Int) == (keys.length : Int)) = false by simp; omega, cond_false]
        exact put terms keys hI (by omega)
    · rw [ge_cast hlt, cond_false]
      exact hKe terms keys row hI (by omega) hrow
theorem l3Graph_ok (L N : Nat) (hN : 1000 ≤ N) (hL : 1000002 < L) (ds : List Tree) (hd : DefsW ds) (t : Tree) (k : Nat) (hk : k ≤ 24) (hw : WT t k) (hcl : CL (ds.length : Int) false t) : FinG (f133 L N t ds) := by
  have hlim := lim_eq
  obtain ⟨key, e, hks⟩ := l2Text_ok L N (by omega) (by omega) t k hw (by omega) N (by omega)
  show FinG (f133.b L N (fun a0 a1 => some (a0, a1)) t ds)
  unfold f133.b f133.b'
  simp only [tree_eta, e, Option.bind_some]
  have key0 : ∀ (n i : Nat) (terms : List Tree) (keys : List ByteArray) (rows : List (List Move)), i ≤ terms.length → 60 - i < n → InvT (ds.length : Int) terms keys → rows.length = i → (∀ r ∈ rows, SlimR r) →
      FinG (f133.l0 L N (fun z6 => f133.p0_e0 L N (fun a0 a1 => some (a0, a1)) z6) (fun z102 z103 => f133.p0_r L N (fun a0 a1 => some (a0, a1)) z102 z103) n ds (i : Int) terms keys rows) := by
    intro n
    induction n with
    | zero => intro i terms keys rows hi h hI; omega
    | succ n ih =>
      intro i terms keys rows hi hn hI hrl hrr
      obtain ⟨hk1, hk2, hk3⟩ := id hI
      show FinG (f133.s0 L N _ _ (f133.l0 L N _ _ n) ds (i : Int) terms keys rows)
      unfold f133.s0 f133.s0'
      by_cases hlt : i < terms.length
      · obtain ⟨k', hk', hw', hcl'⟩ := hk3 terms[i] (List.getElem_mem hlt)
        obtain ⟨st, f, hs, hv, ht⟩ := steps_ok L N (by omega) ds hd terms[i] k' hw' hk' hcl' N (by omega)
        have hsl := len_vt st
        simp only [lt_cast hlt, le0, Bool.and_true, cond_true, Int.toNat_natCast, at_lt hlt, f, Option.bind_some]
        refine inner1 L N hN hL ds (ds.length : Int) (i : Int) st rows _ _ hs (by omega) (fun terms' keys' row hI' hrow' hmv => ?_) (fun terms' keys' row => ?_) L 0 terms keys [] (by omega) (by omega) hI (by simp) (fun m hm => by cases hm)
        · show FinG (f133.p1_e2' L N _ _ _ ds (i : Int) terms' keys' row rows)
          unfold f133.p1_e2'
          obtain ⟨ys, g, hys⟩ := sorted_slim L N (by omega) hmv hL
          have hle : decide (rows.length + ([ys] : List (List Move)).length ≤ lim) = true := dt (by simp only [List.length_cons, List.length_nil]; omega)
          rw [g, Option.bind_some, hle, cond_true, wi_nat (by omega)]
          by_cases hgt : i + 1 ≤ terms'.length
          · refine ih (i + 1) terms' keys' _ hgt (by omega) hI' (by simp [hrl]) fun r hr => ?_
            rcases List.mem_append.1 hr with h | h
            · exact hrr r h
            · rw [List.mem_singleton.1 h]; exact hys
          · -- no terms are left: the loop ends at once
            obtain ⟨n', rfl⟩ : ∃ n', n = n' + 1 := ⟨n - 1, by omega⟩
            show FinG (f133.s0 L N _ _ (f133.l0 L N _ _ n') ds ((i + 1 : Nat) : Int) terms' keys' _)
            unfold f133.s0 f133.s0'
            rw [ge_cast (by omega), cond_false]
            refine ⟨_, _, rfl, by simp [hrl]; omega, fun r hr => ?_⟩
            rcases List.mem_append.1 hr with h | h
            · exact hrr r h
            · rw [List.mem_singleton.1 h]; exact hys
        · exact ⟨⟨[]⟩, false, rfl, by simp, fun r hr => by cases hr⟩
      · rw [ge_cast hlt, cond_false]
        exact ⟨⟨rows⟩, true, rfl, by show rows.length ≤ 60; omega, hrr⟩
  exact key0 L 0 [t] [key] [] (by simp) (by omega) ⟨rfl, by simp, fun x hx => by rw [List.mem_singleton.1 hx]; exact ⟨k, hk, hw, hcl⟩⟩ rfl (fun r hr => by cases hr)
theorem graphOf_ok (L N : Nat) (hN : 1000 ≤ N) (hL : 1000002 < L) (t : Tree) (ds : List Tree) (ht : nodes t ≤ 1000) (hd : ∀ d ∈ ds, nodes d ≤ 1000) (hdl : ds.length ≤ 1000) : FinG (f104 L N t ds) := by
  obtain ⟨r1, e1, h1⟩ := defsOk_ok L N ds hd hdl hN (by omega)
  obtain ⟨r2, e2, h2⟩ := fits_ok L N t (ds.length : Int) ht hN (by omega)
  have hask : f132 L N t ds = some (r1 && r2) := by
    show f132.b' L N some t ds = _
    unfold f132.b'
    rw [e1, Option.bind_some, tree_eta]
    cases r1 with
    | true => rw [cond_true, e2, Option.bind_some, Bool.true_and]
    | false => rfl
  show FinG (f104.b' L N (fun a0 a1 => some (a0, a1)) t ds)
  unfold f104.b'
  rw [tree_eta, hask, Option.bind_some]
  cases hr : (r1 && r2) with
  | false => rw [Bool.not_false, cond_true]; exact ⟨⟨[]⟩, false, rfl, by simp, fun r hr => by cases hr⟩
  | true =>
    rw [Bool.and_eq_true] at hr
    obtain ⟨k, hk, hw, -, hcl⟩ := h2 hr.2
    obtain ⟨g, ok, e, hg⟩ := l3Graph_ok L N hN hL ds (h1 hr.1) t k hk hw hcl
    rw [Bool.not_true, cond_false, e, Option.bind_some]
    exact ⟨_, _, rfl, hg⟩
theorem wild_draw (L N : Nat) (hL : 1000002 < L) {c : List Int} (hb : BOk c) {p : Int} (p0 : 0 ≤ p) (pb : p ≤ 1000000000) :
    ∃ g p', f105 L N c p (6 : Int) = some (g, c, p') ∧ p ≤ p' ∧ p' ≤ p + 1000 ∧ Slim g := by
  have hlim := lim_eq
  show ∃ g p', f105.b L N (fun a0 a1 a2 => some (a0, a1, a2)) c p (6 : Int) = _ ∧ _
  unfold f105.b f105.b'
  obtain ⟨r, hr, r0, r1⟩ := pick_ok L N hb (p := p) (n := 6) p0 (by omega) (by omega)
  obtain ⟨u, hu, u0, u1⟩ := pick_ok L N hb (p := p + 1) (n := 2) (by omega) (by omega) (by omega)
  rw [hr]
  simp only [Option.bind_some, hu]
  obtain ⟨k, rfl⟩ := Int.eq_ofNat_of_zero_le r0
  have hw : wi (1 + (k : Int)) = ((k + 1 : Nat) : Int) := by rw [wi_id (by omega) (by omega)]; omega
  rw [hw]
  generalize (u == 0) = bb
  generalize hnn : k + 1 = nn
  have hnn6 : 1 ≤ nn ∧ nn ≤ 6 := by omega
  have fin : ∀ (q : Int) (s7 rows : List (List Move)), p ≤ q → q ≤ p + 900 → rows.length = nn → (∀ r ∈ rows, r.length ≤ 3 ∧ Fwd r) →
      ∃ g p', f105.p0_e0' L N (fun a0 a1 a2 => some (a0, a1, a2)) (nn : Int) c q s7 rows = some (g, c, p') ∧ p ≤ p' ∧ p' ≤ p + 1000 ∧ Slim g := by
    intro q s7 rows q0 q1 hl hrr
    unfold f105.p0_e0'
    obtain ⟨v, hv, v0, v1⟩ := pick_ok L N hb (p := q) (n := 30) (by omega) (by omega) (by omega)
    rw [hv]
    simp only [Option.bind_some]
    have h0 : 0 < rows.length := by omega
    have g0 : (decide ((0 : Int) ≤ 0) && decide ((0 : Int) < (rows.length : Int))) = true := by rw [dt (show (0 : Int) < (rows.length : Int) by omega)]; rfl
    have hl0 : listAt rows [] (0 : Int).toNat = rows[0] := at_lt h0
    obtain ⟨hr0, hf0⟩ := hrr rows[0] (List.getElem_mem h0)
    have put : ∀ m : Move, 0 ≤ m.to → Slim ⟨rows.set ((0 : Int).toNat) (rows[0] ++ [m])⟩ := fun m hm0 => by
      refine ⟨by show (rows.set _ _).length ≤ 60; rw [List.length_set]; omega, fun r hr => ?_⟩
      rcases List.mem_or_eq_of_mem_set hr with h | h
      · obtain ⟨a1, a2⟩ := hrr r h; exact ⟨by omega, a2⟩
      · rw [h]
        refine ⟨by rw [List.length_append, List.length_cons, List.length_nil]; omega, fun x hx => ?_⟩
        rcases List.mem_append.1 hx with hx | hx
        · exact hf0 x hx
        · rw [List.mem_singleton.1 hx]; exact hm0
    by_cases e0 : v = 0
    · have hle : decide ((rows[0]).length + ([Move.mk (9 : Int) (0 : Int)] : List Move).length ≤ lim) = true := dt (by simp only [List.length_cons, List.length_nil]; omega)
      rw [show (v == 0) = true by simpa using e0, cond_true, g0, cond_true, hl0, hle, cond_true, cond_true]
      exact ⟨_, _, rfl, by omega, by omega, put _ (by show (0 : Int) ≤ 0; omega)⟩
    · rw [show (v == 0) = false by simpa using e0, cond_false]
      by_cases e1 : v = 1
      · have hle : decide ((rows[0]).length + ([Move.mk (0 : Int) (nn : Int)] : List Move).length ≤ lim) = true := dt (by simp only [List.length_cons, List.length_nil]; omega)
        rw [show (v == 1) = true by simpa using e1, cond_true, g0, cond_true, hl0, hle, cond_true, cond_true]
        exact ⟨_, _, rfl, by omega, by omega, put _ (by show (0 : Int) ≤ (nn : Int); omega)⟩
      · rw [show (v == 1) = false by simpa using e1, cond_false]
        by_cases e2 : v = 2
        · rw [show (v == 2) = true by simpa using e2, cond_true]
          exact ⟨_, _, rfl, by omega, by omega, by simp, fun r hr => by cases hr⟩
        · rw [show (v == 2) = false by simpa using e2, cond_false]
          exact ⟨_, _, rfl, by omega, by omega, by show rows.length ≤ 60; omega, fun r hr => ⟨by have := (hrr r hr).1; omega, (hrr r hr).2⟩⟩
  have row1 : ∀ (K : Int → Bool → Int → List Int → Int → List Move → List (List Move) → List (List Move) → Option (Graph × List Int × Int)) (i : Int) (s22 rows : List (List Move)) (m : Nat) (j : Nat) (q : Int) (row : List Move), j < m → j ≤ 3 → row.length + j ≤ 3 → Fwd row → p ≤ q → q ≤ p + 900 - 5 * (j : Int) →
      ∃ q' row', q ≤ q' ∧ q' ≤ q + 5 * (j : Int) ∧ (row'.length ≤ 3 ∧ Fwd row') ∧ f105.l1 L N K m (nn : Int) bb i (j : Int) c q row s22 rows = K (nn : Int) bb i c q' row' s22 rows := by
    intro K i s22 rows m
    induction m with
    | zero => intro j q row h; omega
    | succ m ih =>
      intro j q row hj hj3 hrl hfw q0 q1
      show ∃ q' row', _ ∧ _ ∧ _ ∧ f105.s1 L N _ (f105.l1 L N _ m) (nn : Int) bb i (j : Int) c q row s22 rows = _
      unfold f105.s1 f105.s1'
      by_cases hj0 : j = 0
      · subst hj0
        rw [show decide (((0 : Nat) : Int) > 0) = false from rfl, cond_false]
        exact ⟨q, row, by omega, by omega, ⟨by omega, hfw⟩, rfl⟩
      · obtain ⟨j', rfl⟩ : ∃ j', j = j' + 1 := ⟨j - 1, by omega⟩
        have hwj : wi (((j' + 1 : Nat) : Int) - 1) = (j' : Int) := by rw [wi_id (by omega) (by omega)]; omega
        have put : ∀ (act z : Int), q ≤ z → z ≤ q + 4 → ∃ q' row', q ≤ q' ∧ q' ≤ q + 5 * ((j' + 1 : Nat) : Int) ∧ (row'.length ≤ 3 ∧ Fwd row') ∧ f105.j0' L N K (f105.l1 L N K m) (nn : Int) bb i ((j' + 1 : Nat) : Int) act c z row s22 rows = K (nn : Int) bb i c q' row' s22 rows := by
          intro act z z0 z1
          unfold f105.j0'
          obtain ⟨v, hv, v0, v1⟩ := pick_ok L N hb (p := z) (n := (nn : Int)) (by omega) (by omega) (by omega)
          have hle : decide (row.length + ([Move.mk act v] : List Move).length ≤ lim) = true := dt (by simp only [List.length_cons, List.length_nil]; omega)
          simp only [hv, Option.bind_some, hle, cond_true, hwj]
          obtain ⟨q', row', a1, a2, a3, a4⟩ := ih j' (z + 1) (row ++ [Move.mk act v]) (by omega) (by omega) (by simp only [List.length_append, List.length_cons, List.length_nil]; omega) (fun x hx => by
            rcases List.mem_append.1 hx with hx | hx
            · exact hfw x hx
            · rw [List.mem_singleton.1 hx]; exact v0) (by omega) (by omega)
          exact ⟨q', row', by omega, by omega, a3, a4⟩
        obtain ⟨v, hv, v0, v1⟩ := pick_ok L N hb (p := q) (n := 3) (by omega) (by omega) (by omega)
        rw [dt (show ((j' + 1 : Nat) : Int) > 0 by omega), cond_true, hv]
        simp only [Option.bind_some]
        cases bb with
        | true => exact put _ _ (by omega) (by omega)
        | false =>
          obtain ⟨w, hw', w0, w1⟩ := do_ok L N hb (p := q + 1) (by omega) (by omega)
          rw [Bool.not_false, cond_true, hw']
          simp only [Option.bind_some]
          exact put _ _ (by omega) (by omega)
  have key : ∀ (n i : Nat) (q : Int) (s7 rows : List (List Move)), i ≤ nn → nn - i < n → rows.length = i → (∀ r ∈ rows, r.length ≤ 3 ∧ Fwd r) → p ≤ q → q ≤ p + 10 + 20 * (i : Int) →
      ∃ g p', f105.l0 L N (fun z9 z10 z11 z12 z13 => f105.p0_e0 L N (fun a0 a1 a2 => some (a0, a1, a2)) z9 z10 z11 z12 z13) n (nn : Int) bb (i : Int) c q s7 rows = some (g, c, p') ∧ p ≤ p' ∧ p' ≤ p + 1000 ∧ Slim g := by
    intro n
    induction n with
    | zero => intro i q s7 rows _ h; omega
    | succ n ih =>
      intro i q s7 rows hi hn hl hrr q0 q1
      show ∃ g p', f105.s0 L N _ (f105.l0 L N _ n) (nn : Int) bb (i : Int) c q s7 rows = _ ∧ _
      unfold f105.s0 f105.s0'
      by_cases hlt : i < nn
      · obtain ⟨v, hv, v0, v1⟩ := pick_ok L N hb (p := q) (n := 4) (by omega) (by omega) (by omega)
        obtain ⟨j, rfl⟩ := Int.eq_ofNat_of_zero_le v0
        rw [lt_cast hlt, cond_true, hv]
        simp only [Option.bind_some]
        obtain ⟨q', row', a1, a2, a3, a4⟩ := row1 (fun z24 z25 z26 z27 z28 z29 z30 z31 => f105.p1_e2 L N (fun z9 z10 z11 z12 z13 => f105.p0_e0 L N (fun a0 a1 a2 => some (a0, a1, a2)) z9 z10 z11 z12 z13) (f105.l0 L N (fun z9 z10 z11 z12 z13 => f105.p0_e0 L N (fun a0 a1 a2 => some (a0, a1, a2)) z9 z10 z11 z12 z13) n) z24 z25 z26 z27 z28 z29 z30 z31) (i : Int) s7 rows L j (q + 1) [] (by omega) (by omega) (by simp; omega) (fun x hx => by cases hx) (by omega) (by omega)
        rw [a4]
        show ∃ g p', f105.p1_e2' L N _ _ (nn : Int) bb (i : Int) c q' row' s7 rows = _ ∧ _
        unfold f105.p1_e2'
        obtain ⟨a3, a3'⟩ := a3
        obtain ⟨ys, e, h1, h2, h3⟩ := l3Sorted_ok L N row' (by omega) (by omega)
        have hle : decide (rows.length + ([ys] : List (List Move)).length ≤ lim) = true := dt (by simp only [List.length_cons, List.length_nil]; omega)
        rw [e, Option.bind_some, hle, cond_true, wi_nat (by omega)]
        refine ih (i + 1) q' s7 _ (by omega) (by omega) (by simp [hl]) (fun r hr => ?_) (by omega) (by omega)
        rcases List.mem_append.1 hr with h | h
        · exact hrr r h
        · rw [List.mem_singleton.1 h]; exact ⟨by omega, fun x hx => a3' x ((h2 x).1 hx)⟩
      · rw [ge_cast hlt, cond_false]
        exact fin q s7 rows q0 (by omega) (by omega) hrr
  exact key L 0 (p + 1 + 1) [] [] (by omega) (by omega) rfl (fun r hr => by cases hr) (by omega) (by omega)
theorem graph_draw (L N : Nat) (hN : 1000 ≤ N) (hL : 1000002 < L) {c : List Int} (hb : BOk c) {p : Int} (p0 : 0 ≤ p) (pb : p ≤ 1000000) :
    ∃ g p', f69 L N c p = some (g, c, p') ∧ p ≤ p' ∧ p' ≤ p + 40000 ∧ Slim g := by
  show ∃ g p', f69.b' L N (fun a0 a1 a2 => some (a0, a1, a2)) c p = _ ∧ _
  unfold f69.b'
  obtain ⟨r, hr, r0, r1⟩ := pick_ok L N hb (p := p) (n := 2) p0 (by omega) (by omega)
  rw [hr]
  simp only [Option.bind_some]
  by_cases h0 : r = 0
  · obtain ⟨t, ds, p1, e, e1, e2, e3, e4, e5⟩ := called_draw L N (by omega) (by omega) hb (p := p + 1) (by omega) (by omega)
    obtain ⟨g, ok, f, hg⟩ := graphOf_ok L N hN hL t ds (by omega) (fun d hd => by have := e5 d hd; omega) (by omega)
    rw [show (r == 0) = true by simpa using h0, cond_true, e]
    simp only [Option.bind_some, tree_eta, f]
    cases ok with
    | true => rw [cond_true]; exact ⟨_, _, rfl, by omega, by omega, hg⟩
    | false =>
      obtain ⟨g2, p2, f2, f3, f4, f5⟩ := wild_draw L N hL hb (p := p1) (by omega) (by omega)
      rw [cond_false, f2]
      simp only [Option.bind_some]
      exact ⟨_, _, rfl, by omega, by omega, f5⟩
  · obtain ⟨g2, p2, f2, f3, f4, f5⟩ := wild_draw L N hL hb (p := p + 1) (by omega) (by omega)
    rw [show (r == 0) = false by simpa using h0, cond_false, f2]
    simp only [Option.bind_some]
    exact ⟨_, _, rfl, by omega, by omega, f5⟩
end Go.Proofs.Ytdfjdbpklbehoaa.Ev
namespace Go.Proofs.Ytdfjdbpklbehoaa.Ev
open Go
set_option linter.unusedVariables false
set_option linter.unusedSimpArgs false
def Rises (l : List Int) : Prop := l.Pairwise (· < ·)
def Tr (l : List Bool) (t : Nat) : Prop := l.getD t false = true
theorem Tr_lt {l : List Bool} {t : Nat} (h : Tr l t) : t < l.length := by
  unfold Tr at h
  rw [List.getD_eq_getElem?_getD] at h
  by_cases hl : t < l.length
  · exact hl
  · rw [List.getElem?_eq_none (by omega)] at h; cases h
theorem Tr_set {l : List Bool} {j t : Nat} (hj : j < l.length) : Tr (l.set j true) t ↔ t = j ∨ Tr l t := by
  unfold Tr
  rw [List.getD_eq_getElem?_getD, List.getD_eq_getElem?_getD]
  by_cases h : t = j
  · subst h; rw [List.getElem?_set_self hj]; simp
  · rw [List.getElem?_set_ne (Ne.symm h)]; simp [h]
theorem Tr_replicate (n t : Nat) : ¬ Tr (List.replicate n false) t := by
  unfold Tr
  rw [List.getD_eq_getElem?_getD, List.getElem?_replicate]
  split <;> simp
def cnt : List Bool → Nat
  | [] => 0
  | b :: r => (bif b then 1 else 0) + cnt r
theorem cnt_le : ∀ l : List Bool, cnt l ≤ l.length
  | [] => Nat.le_refl _
  | b :: r => by have := cnt_le r; cases b <;> simp [cnt] <;> omega
theorem cnt_set : ∀ (l : List Bool) (j : Nat), j < l.length → l.getD j false = false → cnt (l.set j true) = cnt l + 1
  | b :: r, 0, _, h => by
    have hb : b = false := h
    subst hb
    simp [cnt]; omega
  | b :: r, j + 1, hj, h => by
    have := cnt_set r j (by simpa using hj) (by simpa using h)
    simp only [List.set_cons_succ, cnt, this]; omega
theorem cnt_replicate (n : Nat) : cnt (List.replicate n false) = 0 := by
  induction n with
  | zero => rfl
  | succ n ih => rw [List.replicate_succ]; simp [cnt, ih]
inductive Slip (ms : List (List Move)) (X : Nat → Prop) : Nat → Prop
  | base (t : Nat) (h : X t) : Slip ms X t
  | step (s t : Nat) (hs : Slip ms X s) (hl : s < ms.length) (k : Nat) (hk : k < (ms[s]).length) (ha : (ms[s])[k].act = 0) (ht : (ms[s])[k].to = (t : Int)) : Slip ms X t
theorem Slip.mono {ms : List (List Move)} {X Y : Nat → Prop} (h : ∀ t, X t → Y t) {t : Nat} (r : Slip ms X t) : Slip ms Y t := by
  induction r with
  | base t hx => exact .base t (h t hx)
  | step s t _ hl k hk ha ht ih => exact .step s t ih hl k hk ha ht
theorem Slip.iff {ms : List (List Move)} {X Y : Nat → Prop} (h : ∀ t, X t ↔ Y t) (t : Nat) : Slip ms X t ↔ Slip ms Y t := ⟨fun r => r.mono fun t hx => (h t).1 hx, fun r => r.mono fun t hx => (h t).2 hx⟩
def Leads (ms : List (List Move)) : Prop := ms.length ≤ 60 ∧ ∀ (i : Nat) (hi : i < ms.length), (ms[i]).length ≤ 1048576 ∧ ∀ (k : Nat) (hk : k < (ms[i]).length), 0 ≤ (ms[i])[k].to ∧ (ms[i])[k].to < (ms.length : Int)
theorem leads_of {g : Graph} (h : graphOk g = true) (hs : g.moves.length + gsize g.moves ≤ 1048576) : Leads g.moves := by
  obtain ⟨h1, h2, h3⟩ := graphOk_mv h
  refine ⟨h2, fun i hi => ⟨?_, fun k hk => ?_⟩⟩
  · have := gsize_row _ (List.getElem_mem hi); omega
  · have := h3 i hi k hk; exact ⟨this.2.2.1, this.2.2.2⟩
theorem Leads.nat {ms : List (List Move)} (h : Leads ms) {i : Nat} (hi : i < ms.length) {k : Nat} (hk : k < (ms[i]).length) : ∃ t : Nat, (ms[i])[k].to = (t : Int) ∧ t < ms.length := by
  obtain ⟨h1, h2⟩ := (h.2 i hi).2 k hk
  obtain ⟨t, ht⟩ := Int.eq_ofNat_of_zero_le h1
  exact ⟨t, ht, by omega⟩
end Go.Proofs.Ytdfjdbpklbehoaa.Ev
namespace Go.Proofs.Ytdfjdbpklbehoaa.Ev
open Go
set_option linter.unusedVariables false
set_option linter.unusedSimpArgs false
def QOk (ms : List (List Move)) (seen : List Bool) (q : List Int) : Prop := seen.length = ms.length ∧ (∀ v ∈ q, ∃ t : Nat, v = (t : Int) ∧ Tr seen t) ∧ (∀ t : Nat, Tr seen t → (t : Int) ∈ q) ∧ q.length = cnt seen ∧ q.Nodup
theorem QOk.add {ms : List (List Move)} {seen : List Bool} {q : List Int} (h : QOk ms seen q) {t : Nat} (ht : t < ms.length) (hf : seen.getD t false = false) : QOk ms (seen.set t true) (q ++ [(t : Int)]) := by
  obtain ⟨h1, h2, h3, h4, h5⟩ := h
  refine ⟨by simp [h1], fun v hv => ?_, fun t' ht' => ?_, ?_, ?_⟩
  · rcases List.mem_append.1 hv with hv | hv
    · obtain ⟨s, rfl, hs⟩ := h2 v hv
      exact ⟨s, rfl, (Tr_set (by omega)).2 (.inr hs)⟩
    · obtain rfl := List.mem_singleton.1 hv
      exact ⟨t, rfl, (Tr_set (by omega)).2 (.inl rfl)⟩
  · rcases (Tr_set (by omega)).1 ht' with rfl | h
    · exact List.mem_append_right _ (List.mem_singleton.2 rfl)
    · exact List.mem_append_left _ (h3 t' h)
  · rw [List.length_append, cnt_set _ _ (by omega) hf, h4]; rfl
  · refine List.nodup_append.2 ⟨h5, by simp, fun a ha b hb e => ?_⟩
    obtain rfl := List.mem_singleton.1 hb
    obtain ⟨s, hs, hT⟩ := h2 a ha
    obtain rfl : s = t := by omega
    unfold Tr at hT
    rw [hf] at hT; cases hT
theorem QOk.len {ms : List (List Move)} {seen : List Bool} {q : List Int} (h : QOk ms seen q) : q.length ≤ ms.length := by
  have := cnt_le seen
  obtain ⟨h1, -, -, h4, -⟩ := h
  omega
theorem sortI_rises {q : List Int} (h : q.Nodup) : Rises (sortI q) := by
  have h1 : (sortI q).Pairwise fun a b => decide (a ≤ b) = true := List.pairwise_mergeSort (fun a b c hab hbc => by simp only [decide_eq_true_eq] at *; omega) (fun a b => by simp only [Bool.or_eq_true, decide_eq_true_eq]; omega) q
  have h2 : (sortI q).Nodup := (List.mergeSort_perm q _).nodup_iff.2 h
  exact (h1.and h2).imp fun {a b} hab => by have := of_decide_eq_true hab.1; have := hab.2; omega
theorem slip1_ok (L N : Nat) (ms : List (List Move)) (list : List Int) (hm : Leads ms) (hl : ∀ v ∈ list, 0 ≤ v ∧ v < (ms.length : Int)) (hLl : list.length < L) (hll : list.length ≤ lim) (hL : 1048576 < L) :
    ∃ q, f112 L N ⟨ms⟩ list = some q ∧ q.length ≤ ms.length ∧ (∀ v ∈ q, 0 ≤ v ∧ v < (ms.length : Int)) ∧ (∀ t : Nat, (t : Int) ∈ q ↔ Slip ms (fun s => (s : Int) ∈ list) t) ∧ Rises q := by
  have hlim := lim_eq
  have hn := hm.1
  show ∃ q, f112.b L N some ⟨ms⟩ list = some q ∧ _
  unfold f112.b f112.b'
  have h0 : (decide ((0 : Int) ≤ (ms.length : Int)) && decide ((ms.length : Int) ≤ (lim : Int))) = true := by rw [le0, dt (by omega)]; rfl
  simp only [h0, cond_true]
  have work : ∀ (m k : Nat) (seen : List Bool) (q : List Int), k ≤ q.length → ms.length + 1 - k < m → QOk ms seen q → (∀ v ∈ q, ∃ t : Nat, v = (t : Int) ∧ Slip ms (fun s => (s : Int) ∈ list) t) → (∀ v ∈ list, v ∈ q) →
      (∀ (j : Nat) (hj : j < q.length), j < k → ∀ s : Nat, q[j] = (s : Int) → ∀ (hs : s < ms.length) (i : Nat) (hi : i < (ms[s]).length), (ms[s])[i].act = 0 → ∀ t : Nat, (ms[s])[i].to = (t : Int) → Tr seen t) →
      ∃ r, f112.l1 L N (fun z19 => f112.p1_e2 L N some z19) m (k : Int) ms seen q = some r ∧ r.length ≤ ms.length ∧ (∀ v ∈ r, 0 ≤ v ∧ v < (ms.length : Int)) ∧ (∀ t : Nat, (t : Int) ∈ r ↔ Slip ms (fun s => (s : Int) ∈ list) t) ∧ Rises r := by
    intro m
    induction m with
    | zero => intro k seen q _ h; omega
    | succ m ih =>
      intro k seen q hk hmk hq hsl hba hpr
      have hql := hq.len
      show ∃ r, f112.s1 L N _ (f112.l1 L N _ m) (k : Int) ms seen q = some r ∧ _
      unfold f112.s1 f112.s1'
      by_cases hlt : k < q.length
      · obtain ⟨s, hs, hTs⟩ := hq.2.1 _ (List.getElem_mem hlt)
        have hsn : s < ms.length := by have := Tr_lt hTs; rw [hq.1] at this; exact this
        have hrow := (hm.2 s hsn).1
        simp only [lt_cast hlt, le0, Bool.and_true, cond_true, Int.toNat_natCast, at_lt hlt, hs, lt_cast hsn, at_lt hsn]
        obtain ⟨t0, hst0, hslip0⟩ := hsl _ (List.getElem_mem hlt)
        obtain rfl : s = t0 := by rw [hs] at hst0; omega
        obtain ⟨st, g1, g2, g3, g4, g5, g6⟩ := inv_loop (l := fun n' i st => f112.l2 L N (fun z27 z28 z29 z30 => f112.p2_e4 L N (fun z19 => f112.p1_e2 L N some z19) (f112.l1 L N (fun z19 => f112.p1_e2 L N some z19) m) z27 z28 z29 z30) n' (k : Int) ms[s] ((ms[s]).length : Int) i ms st.1 st.2) (len := (ms[s]).length)
          (K := fun st : List Bool × List Int => f112.l1 L N (fun z19 => f112.p1_e2 L N some z19) m ((k + 1 : Nat) : Int) ms st.1 st.2)
          (fun i st => QOk ms st.1 st.2 ∧ (∀ v ∈ st.2, ∃ t : Nat, v = (t : Int) ∧ Slip ms (fun s => (s : Int) ∈ list) t) ∧ (∀ j : Nat, j < q.length → st.2[j]? = q[j]?) ∧ (∀ t, Tr seen t → Tr st.1 t) ∧ ∀ (i' : Nat) (hi' : i' < (ms[s]).length), i' < i → (ms[s])[i'].act = 0 → ∀ t : Nat, (ms[s])[i'].to = (t : Int) → Tr st.1 t)
          (fun n' i st hi ⟨r1, r2, r3, r4, r5⟩ => by
            show ∃ s', f112.s2 L N _ (f112.l2 L N _ n') (k : Int) ms[s] ((ms[s]).length : Int) i ms st.1 st.2 = _ ∧ _
            unfold f112.s2 f112.s2'
            obtain ⟨t, ht, htl⟩ := hm.nat hsn hi
            have hsl1 := r1.1
            simp only [le0, lt_cast hi, Bool.and_true, Bool.true_and, cond_true, Int.toNat_natCast, at_lt hi, ht, lt_cast (show t < st.1.length by omega), atD]
            unfold f112.j0'
            simp only [le0, lt_cast (show t < st.1.length by omega), Bool.and_true, cond_true, Int.toNat_natCast, wi_nat (show i < 9223372036854775807 by omega)]
            have stay : ¬ ((ms[s])[i].act = 0 ∧ ¬ Tr st.1 t) → (QOk ms st.1 st.2 ∧ (∀ v ∈ st.2, ∃ t : Nat, v = (t : Int) ∧ Slip ms (fun s => (s : Int) ∈ list) t) ∧ (∀ j : Nat, j < q.length → st.2[j]? = q[j]?) ∧ (∀ t, Tr seen t → Tr st.1 t) ∧ ∀ (i' : Nat) (hi' : i' < (ms[s]).length), i' < i + 1 → (ms[s])[i'].act = 0 → ∀ t : Nat, (ms[s])[i'].to = (t : Int) → Tr st.1 t) := by
              intro hno
              refine ⟨r1, r2, r3, r4, fun i' hi' hlt' ha' t' ht' => ?_⟩
              by_cases he : i' = i
              · subst he
                rw [ht] at ht'
                obtain rfl : t = t' := by omega
                by_cases hT : Tr st.1 t
                · exact hT
                · exact absurd ⟨ha', hT⟩ hno
              · exact r5 i' hi' (by omega) ha' t' ht'
            by_cases ha : (ms[s])[i].act = 0
            · have hb : ((ms[s])[i].act == 0) = true := by simpa using ha
              rw [hb]
              simp only [cond_true]
              cases ht2 : st.1.getD t false
              · have hqq := r1.len
                have hle : decide (st.2.length + ([(t : Int)] : List Int).length ≤ lim) = true := dt (by simp only [List.length_cons, List.length_nil]; omega)
                simp only [Bool.not_false, cond_true, hle]
                refine ⟨(st.1.set t true, st.2 ++ [(t : Int)]), rfl, r1.add htl ht2, fun v hv => ?_, fun j hj => ?_, fun t' ht' => (Tr_set (by omega)).2 (.inr (r4 t' ht')), fun i' hi' hlt' ha' t' ht' => ?_⟩
                · rcases List.mem_append.1 hv with hv | hv
                  · exact r2 v hv
                  · obtain rfl := List.mem_singleton.1 hv
                    exact ⟨t, rfl, .step s t hslip0 hsn i hi ha ht⟩
                · have hjl : j < st.2.length := by
                    have := r3 j hj
                    rw [List.getElem?_eq_getElem hj] at this
                    exact (List.getElem?_eq_some_iff.1 this).1
                  show (st.2 ++ [(t : Int)])[j]? = q[j]?
                  rw [List.getElem?_append_left hjl]; exact r3 j hj
                · by_cases he : i' = i
                  · subst he
                    rw [ht] at ht'
                    obtain rfl : t = t' := by omega
                    exact (Tr_set (by omega)).2 (.inl rfl)
                  · exact (Tr_set (by omega)).2 (.inr (r5 i' hi' (by omega) ha' t' ht'))
              · simp only [Bool.not_true, cond_false]
                exact ⟨st, rfl, stay fun h => h.2 ht2⟩
            · have hb : ((ms[s])[i].act == 0) = false := by simpa using ha
              rw [hb]
              simp only [cond_false]
              exact ⟨st, rfl, stay fun h => ha h.1⟩)
          (fun n' st _ => by
            show f112.s2 L N _ (f112.l2 L N _ n') (k : Int) ms[s] ((ms[s]).length : Int) (ms[s]).length ms st.1 st.2 = _
            unfold f112.s2 f112.s2'
            simp only [ge_cast (Nat.lt_irrefl _), cond_false]
            show f112.l1 L N _ m (wi ((k : Int) + 1)) ms st.1 st.2 = _
            rw [wi_nat (by omega)])
          L 0 (seen, q) (by omega) (by omega) ⟨hq, hsl, fun _ _ => rfl, fun _ h => h, fun _ _ h => by omega⟩
        have hlen : q.length ≤ st.2.length := by
          by_cases h0 : q.length = 0
          · omega
          · have := g4 (q.length - 1) (by omega)
            rw [List.getElem?_eq_getElem (show q.length - 1 < q.length by omega)] at this
            have := (List.getElem?_eq_some_iff.1 this).1
            omega
        refine (fun ⟨r, h1, h2⟩ => ⟨r, g1.trans h1, h2⟩ : (∃ r, _ = some r ∧ _) → ∃ r, _ = some r ∧ _) (ih (k + 1) st.1 st.2 (by omega) (by omega) g2 g3 (fun v hv => ?_) (fun j hj hjk s' hs' hsl' i hi ha t ht => ?_))
        · obtain ⟨j, hj, rfl⟩ := List.mem_iff_getElem.1 (hba v hv)
          have := g4 j hj
          rw [List.getElem?_eq_getElem hj] at this
          exact List.mem_of_getElem? this
        · by_cases hjk' : j = k
          · subst hjk'
            have := g4 j hlt
            rw [List.getElem?_eq_getElem hlt, List.getElem?_eq_getElem hj] at this
            have h9 : st.2[j] = q[j] := Option.some.inj this
            rw [hs', hs] at h9
            obtain rfl : s' = s := by omega
            exact g6 i hi hi ha t ht
          · have hjq : j < q.length := by omega
            have := g4 j hjq
            rw [List.getElem?_eq_getElem hjq, List.getElem?_eq_getElem hj] at this
            have h9 : st.2[j] = q[j] := Option.some.inj this
            exact g5 t (hpr j hjq (by omega) s' (by rw [← h9]; exact hs') hsl' i hi ha t ht)
      · have hkl : k = q.length := by omega
        subst hkl
        simp only [ge_cast (Nat.lt_irrefl _), cond_false]
        have hfs : fsort q = some () := by unfold fsort; rw [dt (by omega)]; rfl
        refine ⟨sortI q, ?_, by rw [sortI_length]; exact hql, fun v hv => ?_, fun t => ?_, sortI_rises hq.2.2.2.2⟩
        · show ((fsort q).bind fun _ => some (sortI q)) = _
          rw [hfs]; rfl
        · obtain ⟨t, rfl, hT⟩ := hq.2.1 v ((sortI_mem q v).1 hv)
          have := Tr_lt hT
          rw [hq.1] at this
          omega
        · rw [sortI_mem]
          constructor
          · intro h
            obtain ⟨t', h1, h2⟩ := hsl _ h
            obtain rfl : t = t' := by omega
            exact h2
          · intro r
            refine hq.2.2.1 t ?_
            induction r with
            | base t hx =>
              obtain ⟨t', h1, h2⟩ := hq.2.1 _ (hba _ hx)
              obtain rfl : t = t' := by omega
              exact h2
            | step s t _ hs i hi ha ht ihr =>
              obtain ⟨j, hj, hjs⟩ := List.mem_iff_getElem.1 (hq.2.2.1 s ihr)
              exact hpr j hj hj s hjs hs i hi ha t ht
  obtain ⟨st, g1, g2, g3, g4⟩ := inv_loop (l := fun n i st => f112.l0 L N (fun z6 z7 z8 => f112.p0_e0 L N some z6 z7 z8) n list (list.length : Int) i ms st.1 st.2) (len := list.length)
    (K := fun st : List Bool × List Int => f112.l1 L N (fun z19 => f112.p1_e2 L N some z19) L (0 : Int) ms st.1 st.2)
    (fun i st => QOk ms st.1 st.2 ∧ (∀ v ∈ st.2, v ∈ list) ∧ ∀ (j : Nat) (hj : j < list.length), j < i → list[j] ∈ st.2)
    (fun n i st hi ⟨r1, r2, r3⟩ => by
      show ∃ s', f112.s0 L N _ (f112.l0 L N _ n) list (list.length : Int) i ms st.1 st.2 = _ ∧ _
      unfold f112.s0 f112.s0'
      obtain ⟨h1, h2⟩ := hl _ (List.getElem_mem hi)
      obtain ⟨t, ht⟩ := Int.eq_ofNat_of_zero_le h1
      have htl : t < ms.length := by omega
      have hsl1 := r1.1
      have hqq := r1.len
      have hle : decide (st.2.length + ([(t : Int)] : List Int).length ≤ lim) = true := dt (by simp only [List.length_cons, List.length_nil]; omega)
      simp only [le0, lt_cast hi, Bool.and_true, Bool.true_and, cond_true, Int.toNat_natCast, at_lt hi, ht, lt_cast (show t < st.1.length by omega), atD, hle, wi_nat (show i < 9223372036854775807 by omega)]
      cases ht2 : st.1.getD t false
      · simp only [Bool.not_false, cond_true]
        refine ⟨(st.1.set t true, st.2 ++ [(t : Int)]), rfl, r1.add htl ht2, fun v hv => ?_, fun j hj hji => ?_⟩
        · rcases List.mem_append.1 hv with hv | hv
          · exact r2 v hv
          · obtain rfl := List.mem_singleton.1 hv
            rw [← ht]; exact List.getElem_mem hi
        · by_cases he : j = i
          · subst he
            rw [ht]; exact List.mem_append_right _ (List.mem_singleton.2 rfl)
          · exact List.mem_append_left _ (r3 j hj (by omega))
      · simp only [Bool.not_true, cond_false]
        refine ⟨st, rfl, r1, r2, fun j hj hji => ?_⟩
        by_cases he : j = i
        · subst he
          rw [ht]; exact r1.2.2.1 t ht2
        · exact r3 j hj (by omega))
    (fun n st _ => by
      show f112.s0 L N _ (f112.l0 L N _ n) list (list.length : Int) list.length ms st.1 st.2 = _
      unfold f112.s0 f112.s0'
      simp only [ge_cast (Nat.lt_irrefl _), cond_false]
      rfl)
    L 0 (List.replicate ms.length false, []) (by omega) (by omega)
    ⟨⟨by simp, fun v hv => by simp at hv, fun t h => absurd h (Tr_replicate _ t), by rw [cnt_replicate]; rfl, List.nodup_nil⟩, fun v hv => by simp at hv, fun _ _ h => by omega⟩
  have e0 : ((ms.length : Int)).toNat = ms.length := rfl
  rw [e0]
  refine (show ∃ q, _ = some q ∧ _ from ?_)
  have h1 := work L 0 st.1 st.2 (by omega) (by omega) g2 (fun v hv => by
    obtain ⟨t, rfl, -⟩ := g2.2.1 v hv
    exact ⟨t, rfl, .base t (g3 _ hv)⟩) (fun v hv => by
    obtain ⟨j, hj, rfl⟩ := List.mem_iff_getElem.1 hv
    exact g4 j hj hj) (fun _ _ h => by omega)
  obtain ⟨r, h2, h3⟩ := h1
  exact ⟨r, g1.trans h2, h3⟩
end Go.Proofs.Ytdfjdbpklbehoaa.Ev
namespace Go.Proofs.Ytdfjdbpklbehoaa.Ev
open Go
set_option linter.unusedVariables false
set_option linter.unusedSimpArgs false
theorem rows_snoc {α : Type} {P : Nat → α → Prop} {l : List α} {x : α} (h : ∀ (j : Nat) (hj : j < l.length), P j l[j]) (hx : P l.length x) : ∀ (j : Nat) (hj : j < (l ++ [x]).length), P j (l ++ [x])[j] := by
  intro j hj
  by_cases e : j < l.length
  · rw [List.getElem_append_left e]; exact h j e
  · have : j = l.length := by simp at hj; omega
    subst this
    rw [List.getElem_append_right (Nat.le_refl _)]
    simpa using hx
theorem slips2_work {R : Type} (L N : Nat) (K : Int → List (List Move) → List (List Bool) → List Bool → Option R) (ms : List (List Move)) (i0 : Nat) (hi0 : i0 < ms.length) (rows : List (List Bool)) (hm : Leads ms) (hL : 1048576 < L) :
    ∀ (m k : Nat) (seen : List Bool) (q : List Int), k ≤ q.length → ms.length + 1 - k < m → QOk ms seen q → (∀ v ∈ q, ∃ t : Nat, v = (t : Int) ∧ Slip ms (fun s => s = i0) t) → (i0 : Int) ∈ q →
      (∀ (j : Nat) (hj : j < q.length), j < k → ∀ s : Nat, q[j] = (s : Int) → ∀ (hs : s < ms.length) (i : Nat) (hi : i < (ms[s]).length), (ms[s])[i].act = 0 → ∀ t : Nat, (ms[s])[i].to = (t : Int) → Tr seen t) →
      ∃ seen' : List Bool, seen'.length = ms.length ∧ (∀ t : Nat, Tr seen' t ↔ Slip ms (fun s => s = i0) t) ∧ f122.l1 L N K m (i0 : Int) (k : Int) ms rows seen q = K (i0 : Int) ms rows seen' := by
  have hlim := lim_eq
  have hn := hm.1
  intro m
  induction m with
  | zero => intro k seen q _ h; omega
  | succ m ih =>
    intro k seen q hk hmk hq hsl hba hpr
    have hql := hq.len
    show ∃ seen', _ ∧ _ ∧ f122.s1 L N _ (f122.l1 L N _ m) (i0 : Int) (k : Int) ms rows seen q = _
    unfold f122.s1 f122.s1'
    by_cases hlt : k < q.length
    · obtain ⟨s, hs, hTs⟩ := hq.2.1 _ (List.getElem_mem hlt)
      have hsn : s < ms.length := by have := Tr_lt hTs; rw [hq.1] at this; exact this
      have hrow := (hm.2 s hsn).1
      simp only [lt_cast hlt, le0, Bool.and_true, cond_true, Int.toNat_natCast, at_lt hlt, hs, lt_cast hsn, at_lt hsn]
      obtain ⟨t0, hst0, hslip0⟩ := hsl _ (List.getElem_mem hlt)
      obtain rfl : s = t0 := by rw [hs] at hst0; omega
      obtain ⟨st, g1, g2, g3, g4, g5, g6⟩ := inv_loop (l := fun n' i st => f122.l2 L N (fun z22 z23 z24 z25 z26 z27 => f122.p2_e4 L N K (f122.l1 L N K m) z22 z23 z24 z25 z26 z27) n' (i0 : Int) (k : Int) ms[s] i ms rows st.1 st.2) (len := (ms[s]).length)
        (K := fun st : List Bool × List Int => f122.l1 L N K m (i0 : Int) ((k + 1 : Nat) : Int) ms rows st.1 st.2)
        (fun i st => QOk ms st.1 st.2 ∧ (∀ v ∈ st.2, ∃ t : Nat, v = (t : Int) ∧ Slip ms (fun s => s = i0) t) ∧ (∀ j : Nat, j < q.length → st.2[j]? = q[j]?) ∧ (∀ t, Tr seen t → Tr st.1 t) ∧ ∀ (i' : Nat) (hi' : i' < (ms[s]).length), i' < i → (ms[s])[i'].act = 0 → ∀ t : Nat, (ms[s])[i'].to = (t : Int) → Tr st.1 t)
        (fun n' i st hi ⟨r1, r2, r3, r4, r5⟩ => by
          show ∃ s', f122.s2 L N _ (f122.l2 L N _ n') (i0 : Int) (k : Int) ms[s] i ms rows st.1 st.2 = _ ∧ _
          unfold f122.s2 f122.s2'
          obtain ⟨t, ht, htl⟩ := hm.nat hsn hi
          have hsl1 := r1.1
          simp only [le0, lt_cast hi, Bool.and_true, Bool.true_and, cond_true, Int.toNat_natCast, at_lt hi, ht, lt_cast (show t < st.1.length by omega), atD]
          unfold f122.j0'
          simp only [le0, lt_cast hi, lt_cast (show t < st.1.length by omega), Bool.and_true, cond_true, Int.toNat_natCast, at_lt hi, ht, wi_nat (show i < 9223372036854775807 by omega)]
          have stay : ¬ ((ms[s])[i].act = 0 ∧ ¬ Tr st.1 t) → (QOk ms st.1 st.2 ∧ (∀ v ∈ st.2, ∃ t : Nat, v = (t : Int) ∧ Slip ms (fun s => s = i0) t) ∧ (∀ j : Nat, j < q.length → st.2[j]? = q[j]?) ∧ (∀ t, Tr seen t → Tr st.1 t) ∧ ∀ (i' : Nat) (hi' : i' < (ms[s]).length), i' < i + 1 → (ms[s])[i'].act = 0 → ∀ t : Nat, (ms[s])[i'].to = (t : Int) → Tr st.1 t) := by
            intro hno
            refine ⟨r1, r2, r3, r4, fun i' hi' hlt' ha' t' ht' => ?_⟩
            by_cases he : i' = i
            · subst he
              rw [ht] at ht'
              obtain rfl : t = t' := by omega
              by_cases hT : Tr st.1 t
              · exact hT
              · exact absurd ⟨ha', hT⟩ hno
            · exact r5 i' hi' (by omega) ha' t' ht'
          by_cases ha : (ms[s])[i].act = 0
          · have hb : ((ms[s])[i].act == 0) = true := by simpa using ha
            rw [hb]
            simp only [cond_true]
            cases ht2 : st.1.getD t false
            · have hqq := r1.len
              have hle : decide (st.2.length + ([(t : Int)] : List Int).length ≤ lim) = true := dt (by simp only [List.length_cons, List.length_nil]; omega)
              simp only [Bool.not_false, cond_true, hle]
              refine ⟨(st.1.set t true, st.2 ++ [(t : Int)]), rfl, r1.add htl ht2, fun v hv => ?_, fun j hj => ?_, fun t' ht' => (Tr_set (by omega)).2 (.inr (r4 t' ht')), fun i' hi' hlt' ha' t' ht' => ?_⟩
              · rcases List.mem_append.1 hv with hv | hv
                · exact r2 v hv
                · obtain rfl := List.mem_singleton.1 hv
                  exact ⟨t, rfl, .step s t hslip0 hsn i hi ha ht⟩
              · have hjl : j < st.2.length := by
                  have := r3 j hj
                  rw [List.getElem?_eq_getElem hj] at this
                  exact (List.getElem?_eq_some_iff.1 this).1
                show (st.2 ++ [(t : Int)])[j]? = q[j]?
                rw [List.getElem?_append_left hjl]; exact r3 j hj
              · by_cases he : i' = i
                · subst he
                  rw [ht] at ht'
                  obtain rfl : t = t' := by omega
                  exact (Tr_set (by omega)).2 (.inl rfl)
                · exact (Tr_set (by omega)).2 (.inr (r5 i' hi' (by omega) ha' t' ht'))
            · simp only [Bool.not_true, cond_false]
              exact ⟨st, rfl, stay fun h => h.2 ht2⟩
          · have hb : ((ms[s])[i].act == 0) = false := by simpa using ha
            rw [hb]
            simp only [cond_false]
            exact ⟨st, rfl, stay fun h => ha h.1⟩)
        (fun n' st _ => by
          show f122.s2 L N _ (f122.l2 L N _ n') (i0 : Int) (k : Int) ms[s] (ms[s]).length ms rows st.1 st.2 = _
          unfold f122.s2 f122.s2'
          simp only [ge_cast (Nat.lt_irrefl _), cond_false]
          show f122.l1 L N _ m (i0 : Int) (wi ((k : Int) + 1)) ms rows st.1 st.2 = _
          rw [wi_nat (by omega)])
        L 0 (seen, q) (by omega) (by omega) ⟨hq, hsl, fun _ _ => rfl, fun _ h => h, fun _ _ h => by omega⟩
      have hlen : q.length ≤ st.2.length := by
        by_cases h0 : q.length = 0
        · omega
        · have := g4 (q.length - 1) (by omega)
          rw [List.getElem?_eq_getElem (show q.length - 1 < q.length by omega)] at this
          have := (List.getElem?_eq_some_iff.1 this).1
          omega
      refine (fun ⟨r, h0, h1, h2⟩ => ⟨r, h0, h1, g1.trans h2⟩ : (∃ r, _ ∧ _ ∧ _ = _) → ∃ r, _ ∧ _ ∧ _ = _) (ih (k + 1) st.1 st.2 (by omega) (by omega) g2 g3 ?_ (fun j hj hjk s' hs' hsl' i hi ha t ht => ?_))
      · obtain ⟨j, hj, he⟩ := List.mem_iff_getElem.1 hba
        have := g4 j hj
        rw [List.getElem?_eq_getElem hj, he] at this
        exact List.mem_of_getElem? this
      · by_cases hjk' : j = k
        · subst hjk'
          have := g4 j hlt
          rw [List.getElem?_eq_getElem hlt, List.getElem?_eq_getElem hj] at this
          have h9 : st.2[j] = q[j] := Option.some.inj this
          rw [hs', hs] at h9
          obtain rfl : s' = s := by omega
          exact g6 i hi hi ha t ht
        · have hjq : j < q.length := by omega
          have := g4 j hjq
          rw [List.getElem?_eq_getElem hjq, List.getElem?_eq_getElem hj] at this
          have h9 : st.2[j] = q[j] := Option.some.inj this
          exact g5 t (hpr j hjq (by omega) s' (by rw [← h9]; exact hs') hsl' i hi ha t ht)
    · have hkl : k = q.length := by omega
      subst hkl
      simp only [ge_cast (Nat.lt_irrefl _), cond_false]
      refine ⟨seen, hq.1, fun t => ?_, rfl⟩
      constructor
      · intro h
        obtain ⟨t', h1, h2⟩ := hsl _ (hq.2.2.1 t h)
        obtain rfl : t = t' := by omega
        exact h2
      · intro r
        induction r with
        | base t hx =>
          subst hx
          obtain ⟨t', h1, h2⟩ := hq.2.1 _ hba
          obtain rfl : t = t' := by omega
          exact h2
        | step s t _ hs i hi ha ht ihr =>
          obtain ⟨j, hj, hjs⟩ := List.mem_iff_getElem.1 (hq.2.2.1 s ihr)
          exact hpr j hj hj s hjs hs i hi ha t ht
theorem l5Slips_ok (L N : Nat) (ms : List (List Move)) (hm : Leads ms) (hL : 1048576 < L) :
    ∃ rs, f122 L N ⟨ms⟩ = some rs ∧ rs.length = ms.length ∧ ∀ (j : Nat) (hj : j < rs.length), (rs[j]).length = ms.length ∧ ∀ t : Nat, Tr rs[j] t ↔ Slip ms (fun s => s = j) t := by
  have hlim := lim_eq
  have hn := hm.1
  show ∃ rs, f122.b L N some ⟨ms⟩ = some rs ∧ _
  unfold f122.b f122.b'
  have key : ∀ (n i : Nat) (rs : List (List Bool)), rs.length = i → i ≤ ms.length → ms.length - i < n → (∀ (j : Nat) (hj : j < rs.length), (rs[j]).length = ms.length ∧ ∀ t : Nat, Tr rs[j] t ↔ Slip ms (fun s => s = j) t) →
      ∃ rs', f122.l0 L N (fun z3 => f122.p0_e0 L N some z3) n (i : Int) ms rs = some rs' ∧ rs'.length = ms.length ∧ ∀ (j : Nat) (hj : j < rs'.length), (rs'[j]).length = ms.length ∧ ∀ t : Nat, Tr rs'[j] t ↔ Slip ms (fun s => s = j) t := by
    intro n
    induction n with
    | zero => intro i rs _ _ h; omega
    | succ n ih =>
      intro i rs hl hi hn' hr
      show ∃ rs', f122.s0 L N _ (f122.l0 L N _ n) (i : Int) ms rs = _ ∧ _
      unfold f122.s0 f122.s0'
      by_cases hlt : i < ms.length
      · have h0 : decide ((ms.length : Int) ≤ (lim : Int)) = true := dt (by omega)
        have e0 : ((ms.length : Int)).toNat = ms.length := rfl
        simp only [lt_cast hlt, cond_true, h0, e0, le0, List.length_replicate, Bool.and_true, Int.toNat_natCast]
        have hfalse : (List.replicate ms.length false).getD i false = false := by
          rw [List.getD, List.getElem?_replicate]; split <;> rfl
        have hQ : QOk ms ((List.replicate ms.length false).set i true) [(i : Int)] := by
          have h : QOk ms (List.replicate ms.length false) [] := ⟨by simp, fun v hv => by simp at hv, fun t h => absurd h (Tr_replicate _ t), by rw [cnt_replicate]; rfl, List.nodup_nil⟩
          exact h.add hlt hfalse
        obtain ⟨seen', q1, q2, q3⟩ := slips2_work L N (fun z10 z11 z12 z13 => f122.p1_e2 L N (fun z3 => f122.p0_e0 L N some z3) (f122.l0 L N (fun z3 => f122.p0_e0 L N some z3) n) z10 z11 z12 z13) ms i hlt rs hm hL L 0 _ _ (by simp) (by omega) hQ
          (fun v hv => by obtain rfl := List.mem_singleton.1 hv; exact ⟨i, rfl, .base i rfl⟩) (List.mem_singleton.2 rfl) (fun _ _ h => by omega)
        have q3' : f122.l1 L N (fun z10 z11 z12 z13 => f122.p1_e2 L N (fun z3 => f122.p0_e0 L N some z3) (f122.l0 L N (fun z3 => f122.p0_e0 L N some z3) n) z10 z11 z12 z13) L (i : Int) (0 : Int) ms rs ((List.replicate ms.length false).set i true) [(i : Int)] = _ := q3
        rw [q3']
        show ∃ rs', f122.p1_e2' L N _ _ (i : Int) ms rs seen' = _ ∧ _
        unfold f122.p1_e2'
        have hle : decide (rs.length + ([seen'] : List (List Bool)).length ≤ lim) = true := dt (by simp only [List.length_cons, List.length_nil]; omega)
        rw [hle, cond_true, wi_nat (by omega)]
        exact ih (i + 1) _ (by simp [hl]) (by omega) (by omega) (rows_snoc (P := fun j r => r.length = ms.length ∧ ∀ t : Nat, Tr r t ↔ Slip ms (fun s => s = j) t) hr (by rw [hl]; exact ⟨q1, q2⟩))
      · simp only [ge_cast hlt, cond_false]
        have hi' : i = ms.length := by omega
        subst hi'
        exact ⟨rs, rfl, hl, hr⟩
  exact key L 0 [] rfl (by omega) (by omega) (fun j hj => by simp at hj)
theorem slips_ok (L N : Nat) (ms : List (List Move)) (hm : Leads ms) (hL : 1048576 < L) :
    ∃ rs, f124 L N ⟨ms⟩ = some rs ∧ rs.length = ms.length ∧ ∀ (j : Nat) (hj : j < rs.length), (rs[j]).length ≤ ms.length ∧ (∀ v ∈ rs[j], 0 ≤ v ∧ v < (ms.length : Int)) ∧ ∀ t : Nat, (t : Int) ∈ rs[j] ↔ Slip ms (fun s => s = j) t := by
  have hlim := lim_eq
  have hn := hm.1
  show ∃ rs, f124.b L N some ⟨ms⟩ = some rs ∧ _
  unfold f124.b f124.b'
  have key : ∀ (n i : Nat) (rs : List (List Int)), rs.length = i → i ≤ ms.length → ms.length - i < n → (∀ (j : Nat) (hj : j < rs.length), (rs[j]).length ≤ ms.length ∧ (∀ v ∈ rs[j], 0 ≤ v ∧ v < (ms.length : Int)) ∧ ∀ t : Nat, (t : Int) ∈ rs[j] ↔ Slip ms (fun s => s = j) t) →
      ∃ rs', f124.l0 L N (fun z4 => f124.p0_e0 L N some z4) n (ms.length : Int) (i : Int) ms rs = some rs' ∧ rs'.length = ms.length ∧ ∀ (j : Nat) (hj : j < rs'.length), (rs'[j]).length ≤ ms.length ∧ (∀ v ∈ rs'[j], 0 ≤ v ∧ v < (ms.length : Int)) ∧ ∀ t : Nat, (t : Int) ∈ rs'[j] ↔ Slip ms (fun s => s = j) t := by
    intro n
    induction n with
    | zero => intro i rs _ _ h; omega
    | succ n ih =>
      intro i rs hl hi hn' hr
      show ∃ rs', f124.s0 L N _ (f124.l0 L N _ n) (ms.length : Int) (i : Int) ms rs = _ ∧ _
      unfold f124.s0 f124.s0'
      by_cases hlt : i < ms.length
      · obtain ⟨q, h1, h2, h3, h4, -⟩ := slip1_ok L N ms [(i : Int)] hm (fun v hv => by obtain rfl := List.mem_singleton.1 hv; omega) (by simp only [List.length_cons, List.length_nil]; omega) (by simp only [List.length_cons, List.length_nil]; omega) hL
        have hle : decide (rs.length + ([q] : List (List Int)).length ≤ lim) = true := dt (by simp only [List.length_cons, List.length_nil]; omega)
        have hsame : ∀ t : Nat, (t : Int) ∈ q ↔ Slip ms (fun s => s = i) t := fun t => (h4 t).trans (Slip.iff (fun s => by
          rw [List.mem_singleton]; constructor
          · intro h; omega
          · intro h; rw [h]) t)
        simp only [lt_cast hlt, cond_true, h1, Option.bind_some, hle]
        rw [wi_nat (by omega)]
        exact ih (i + 1) _ (by simp [hl]) (by omega) (by omega) (rows_snoc (P := fun j (r : List Int) => r.length ≤ ms.length ∧ (∀ v ∈ r, 0 ≤ v ∧ v < (ms.length : Int)) ∧ ∀ t : Nat, (t : Int) ∈ r ↔ Slip ms (fun s => s = j) t) hr (by rw [hl]; exact ⟨h2, h3, hsame⟩))
      · simp only [ge_cast hlt, cond_false]
        have hi' : i = ms.length := by omega
        subst hi'
        exact ⟨rs, rfl, hl, hr⟩
  exact key L 0 [] rfl (by omega) (by omega) (fun j hj => by simp at hj)
end Go.Proofs.Ytdfjdbpklbehoaa.Ev
namespace Go.Proofs.Ytdfjdbpklbehoaa.Ev
open Go
set_option linter.unusedVariables false
set_option linter.unusedSimpArgs false
theorem leM_iff (x y : Move) : leM x y = true ↔ lessM x y = true ∨ x = y := by
  unfold leM lessM
  obtain ⟨a, b⟩ := x
  obtain ⟨c, d⟩ := y
  simp only [decide_eq_true_eq, Move.mk.injEq]
  omega
theorem sortM_le (xs : List Move) : (sortM xs).Pairwise fun a b => leM a b = true := by
  refine List.pairwise_mergeSort (fun a b c h1 h2 => ?_) (fun a b => ?_) xs
  · rw [leM_iff] at *
    rcases h1 with h1 | rfl
    · rcases h2 with h2 | rfl
      · exact .inl (less_trans h1 h2)
      · exact .inl h1
    · exact h2
  · unfold leM
    simp only [Bool.or_eq_true, decide_eq_true_eq]
    omega
theorem getM {zs : List Move} {i : Nat} (h : i < zs.length) : (zs.toArray)[i]! = zs[i] := by simp [getElem!_pos, h]
theorem compact_rises {zs : List Move} (hs : zs.Pairwise fun a b => leM a b = true) : RisesM (Go.Lib.compact zs) := by
  unfold RisesM Go.Lib.compact Go.Lib.compactUpTo
  rw [List.pairwise_map]
  refine List.Pairwise.imp_of_mem ?_ (List.Pairwise.filter _ List.pairwise_lt_range)
  intro i j hi hj hij
  rw [List.mem_filter, List.mem_range] at hi hj
  have hjl := hj.1
  rw [getM hi.1, getM hj.1]
  have hk := hj.2
  unfold Go.Lib.keeps at hk
  have hk := of_decide_eq_true hk
  have hne : zs[j] ≠ zs[j - 1] := by
    rcases hk with h | h
    · omega
    · rwa [getM hj.1, getM (show j - 1 < zs.length by omega)] at h
  have hlast : lessM zs[j - 1] zs[j] = true := by
    rcases (leM_iff _ _).1 (List.pairwise_iff_getElem.1 hs (j - 1) j (by omega) (by omega) (by omega)) with h | h
    · exact h
    · exact absurd h.symm hne
  by_cases e : i = j - 1
  · subst e; exact hlast
  · rcases (leM_iff _ _).1 (List.pairwise_iff_getElem.1 hs i (j - 1) (by omega) (by omega) (by omega)) with h | h
    · exact less_trans h hlast
    · rw [h]; exact hlast
theorem compact_mem (zs : List Move) (v : Move) : v ∈ Go.Lib.compact zs ↔ v ∈ zs := by
  unfold Go.Lib.compact Go.Lib.compactUpTo
  rw [List.mem_map]
  constructor
  · rintro ⟨i, hi, rfl⟩
    rw [List.mem_filter, List.mem_range] at hi
    rw [getM hi.1]; exact List.getElem_mem hi.1
  · intro hv
    obtain ⟨i, hi, rfl⟩ := List.mem_iff_getElem.1 hv
    clear hv
    induction i with
    | zero => exact ⟨0, by rw [List.mem_filter, List.mem_range]; exact ⟨hi, by simp [Go.Lib.keeps]⟩, getM hi⟩
    | succ i ih =>
      by_cases hk : Go.Lib.keeps zs.toArray (i + 1) = true
      · exact ⟨i + 1, by rw [List.mem_filter, List.mem_range]; exact ⟨hi, hk⟩, getM hi⟩
      · have : zs[i + 1] = zs[i] := by
          unfold Go.Lib.keeps at hk
          have hk : ¬ (i + 1 = 0 ∨ zs.toArray[i + 1]! ≠ zs.toArray[i + 1 - 1]!) := fun h => hk (decide_eq_true h)
          have h2 := Classical.not_not.1 (fun h => hk (.inr h))
          rw [getM hi, Nat.add_sub_cancel, getM (show i < zs.length by omega)] at h2
          exact h2
        rw [this]
        exact ih (by omega)
theorem tidyM_rises (xs : List Move) : RisesM (tidyM xs) := compact_rises (sortM_le xs)
theorem tidyM_mem (xs : List Move) (v : Move) : v ∈ tidyM xs ↔ v ∈ xs := (compact_mem _ v).trans (sortM_mem xs v)
theorem fsortM_some {xs : List Move} (h : xs.length ≤ 1099511627776) : fsortM xs = some () := by
  unfold fsortM; rw [show decide (xs.length ≤ lim) = true from decide_eq_true (by rw [lim_eq]; exact h)]; rfl
end Go.Proofs.Ytdfjdbpklbehoaa.Ev
namespace Go.Proofs.Ytdfjdbpklbehoaa.Ev
open Go
set_option linter.unusedVariables false
set_option linter.unusedSimpArgs false
theorem flat_len_le {α β : Type} {f : α → List β} {B : Nat} : ∀ {l : List α}, (∀ x ∈ l, (f x).length ≤ B) → (l.flatMap f).length ≤ l.length * B
  | [], _ => by simp
  | x :: l, h => by
    have h1 := h x (.head _)
    have h2 := flat_len_le (f := f) (B := B) (l := l) fun y hy => h y (.tail _ hy)
    rw [List.flatMap_cons, List.length_append, List.length_cons, Nat.add_mul, Nat.one_mul]
    omega
theorem drop_cons {α : Type} {l : List α} {i : Nat} (h : i < l.length) : l.drop i = l[i] :: l.drop (i + 1) := List.drop_eq_getElem_cons h
theorem drop_end {α : Type} {l : List α} {i : Nat} (h : ¬ i < l.length) : l.drop i = [] := List.drop_eq_nil_of_le (by omega)
def wkG (sl : List (List Int)) (m : Move) : List Move := if m.act ≠ 0 then (sl.getD m.to.toNat []).map (Move.mk m.act) else []
def wkF (sl : List (List Int)) (ms : List (List Move)) (v : Int) : List Move := Move.mk 0 v :: (ms.getD v.toNat []).flatMap (wkG sl)
theorem weak3 {R : Type} (L N : Nat) (K : List (List Int) → Int → Int → List Int → Int → Int → List Move → Int → Int → List (List Move) → List Move → List (List Move) → List (List Move) → Option R) (sl : List (List Int)) (n0 i0 : Int) (li : List Int) (lli idx : Int) (row : List Move) (rl k : Int) (ts : List Int) (ms : List (List Move)) (act to : Int) (c5 rows : List (List Move)) (hts : ts.length ≤ 60) :
    ∀ (n j : Nat) (out : List Move), j ≤ ts.length → ts.length - j < n → out.length + (ts.length - j) ≤ lim →
      f88.l3 L N K n sl n0 i0 li lli idx row rl k ts (ts.length : Int) (j : Int) ms act to out c5 rows = K sl n0 i0 li lli idx row rl k ms (out ++ (ts.drop j).map (Move.mk act)) c5 rows := by
  intro n
  induction n with
  | zero => intro j out _ h; omega
  | succ n ih =>
    intro j out hj hn ho
    show f88.s3 L N _ (f88.l3 L N _ n) sl n0 i0 li lli idx row rl k ts (ts.length : Int) (j : Int) ms act to out c5 rows = _
    unfold f88.s3 f88.s3'
    by_cases hlt : j < ts.length
    · have hle : decide (out.length + ([(Move.mk act ts[j])] : (List Move)).length ≤ lim) = true := dt (by simp only [List.length_cons, List.length_nil]; omega)
      simp only [lt_cast hlt, le0, Bool.and_true, cond_true, Int.toNat_natCast, at_lt hlt, hle]
      rw [wi_nat (by omega), ih (j + 1) _ (by omega) (by omega) (by simp only [List.length_append, List.length_cons, List.length_nil]; omega), drop_cons hlt, List.map_cons, List.append_assoc]
      rfl
    · simp only [ge_cast hlt, cond_false, drop_end hlt, List.map_nil, List.append_nil]
theorem weak2 {R : Type} (L N : Nat) (hL : 1048576 < L) (k1_e2 : List (List Int) → Int → Int → List (List Move) → List Move → List (List Move) → List (List Move) → Option R) (m1 : Nat) (sl : List (List Int)) (n0 i0 : Int) (li : List Int) (lli idx : Int) (row : List Move) (ms : List (List Move)) (c5 rows : List (List Move))
    (hsl : ∀ r ∈ sl, r.length ≤ 60) (hrow : row.length ≤ 1048576) (hto : ∀ m ∈ row, 0 ≤ m.to ∧ m.to < (sl.length : Int)) :
    ∀ (n k : Nat) (out : List Move), k ≤ row.length → row.length - k < n → out.length + (row.length - k) * 60 ≤ lim →
      f88.l2 L N (fun z39 z40 z41 z42 z43 z44 z45 z46 z47 z48 => f88.p2_e4 L N k1_e2 (f88.l1 L N k1_e2 m1) z39 z40 z41 z42 z43 z44 z45 z46 z47 z48) n sl n0 i0 li lli idx row (row.length : Int) (k : Int) ms out c5 rows
        = f88.l1 L N k1_e2 m1 sl n0 i0 li lli (wi (idx + 1)) ms (out ++ (row.drop k).flatMap (wkG sl)) c5 rows := by
  intro n
  induction n with
  | zero => intro k out _ h; omega
  | succ n ih =>
    intro k out hk hn ho
    show f88.s2 L N _ (f88.l2 L N _ n) sl n0 i0 li lli idx row (row.length : Int) (k : Int) ms out c5 rows = _
    unfold f88.s2 f88.s2'
    by_cases hlt : k < row.length
    · have hstep : (row.length - k) * 60 = (row.length - (k + 1)) * 60 + 60 := by
        rw [show row.length - k = (row.length - (k + 1)) + 1 by omega, Nat.add_mul]
      obtain ⟨h1, h2⟩ := hto row[k] (List.getElem_mem hlt)
      generalize hm : row[k] = m at h1 h2
      obtain ⟨t, ht⟩ := Int.eq_ofNat_of_zero_le h1
      have htl : t < sl.length := by omega
      simp only [lt_cast hlt, le0, Bool.and_true, cond_true, Int.toNat_natCast, at_lt hlt, hm, ht, lt_cast htl, at_lt htl]
      rw [drop_cons hlt, hm, List.flatMap_cons]
      have hg : m.act ≠ 0 → wkG sl m = (sl[t]).map (Move.mk m.act) := fun h => by
        unfold wkG
        rw [if_pos h, ht, Int.toNat_natCast, getD_lt htl]
      by_cases ha : m.act = 0
      · have hb : (m.act != 0) = false := by simp [ha]
        have hg0 : wkG sl m = [] := by unfold wkG; rw [if_neg (fun h => h ha)]
        rw [hb, cond_false, wi_nat (by omega), ih (k + 1) out (by omega) (by omega) (by omega), hg0]
        rfl
      · have hb : (m.act != 0) = true := by simpa using ha
        have hr := hsl _ (List.getElem_mem htl)
        rw [hb, cond_true]
        refine (weak3 L N _ sl n0 i0 li lli idx row (row.length : Int) (k : Int) sl[t] ms m.act (t : Int) c5 rows hr L 0 out (by omega) (by omega) (by omega)).trans ?_
        rw [List.drop_zero, hg ha]
        show f88.p3_e6' L N _ _ sl n0 i0 li lli idx row (row.length : Int) (k : Int) ms _ c5 rows = _
        unfold f88.p3_e6'
        rw [wi_nat (by omega), ih (k + 1) _ (by omega) (by omega) (by rw [List.length_append, List.length_map]; omega), List.append_assoc]
    · simp only [ge_cast hlt, cond_false, drop_end hlt, List.flatMap_nil, List.append_nil]
      rfl
theorem weak1 {R : Type} (L N : Nat) (hL : 1048576 < L) (K : List (List Int) → Int → Int → List (List Move) → List Move → List (List Move) → List (List Move) → Option R) (sl : List (List Int)) (n0 i0 : Int) (li : List Int) (ms : List (List Move)) (c5 rows : List (List Move))
    (hm : Leads ms) (hsn : sl.length = ms.length) (hsl : ∀ r ∈ sl, r.length ≤ 60) (hli : ∀ v ∈ li, 0 ≤ v ∧ v < (ms.length : Int)) (hll : li.length ≤ 60) :
    ∀ (n idx : Nat) (out : List Move), idx ≤ li.length → li.length - idx < n → out.length + (li.length - idx) * 62914561 ≤ lim →
      f88.l1 L N K n sl n0 i0 li (li.length : Int) (idx : Int) ms out c5 rows = K sl n0 i0 ms (out ++ (li.drop idx).flatMap (wkF sl ms)) c5 rows := by
  intro n
  induction n with
  | zero => intro k out _ h; omega
  | succ n ih =>
    intro idx out hk hn ho
    show f88.s1 L N _ (f88.l1 L N _ n) sl n0 i0 li (li.length : Int) (idx : Int) ms out c5 rows = _
    unfold f88.s1 f88.s1'
    by_cases hlt : idx < li.length
    · have hstep : (li.length - idx) * 62914561 = (li.length - (idx + 1)) * 62914561 + 62914561 := by
        rw [show li.length - idx = (li.length - (idx + 1)) + 1 by omega, Nat.add_mul]
      obtain ⟨h1, h2⟩ := hli li[idx] (List.getElem_mem hlt)
      generalize hv : li[idx] = v at h1 h2
      obtain ⟨t, ht⟩ := Int.eq_ofNat_of_zero_le h1
      subst ht
      have htl : t < ms.length := by omega
      have hrow := hm.2 t htl
      have hle : decide (out.length + ([(Move.mk (0 : Int) (t : Int))] : (List Move)).length ≤ lim) = true := dt (by simp only [List.length_cons, List.length_nil]; omega)
      simp only [lt_cast hlt, le0, Bool.and_true, cond_true, Int.toNat_natCast, at_lt hlt, hv, lt_cast htl, at_lt htl, hle]
      have hto : ∀ m ∈ ms[t], 0 ≤ m.to ∧ m.to < (sl.length : Int) := fun m hm' => by
        obtain ⟨q, hq, rfl⟩ := List.mem_iff_getElem.1 hm'
        rw [hsn]; exact hrow.2 q hq
      refine (weak2 L N hL K n sl n0 i0 li (li.length : Int) (idx : Int) ms[t] ms c5 rows hsl hrow.1 hto L 0 _ (by omega) (by have := hrow.1; omega) (by
        have := hrow.1
        simp only [List.length_append, List.length_cons, List.length_nil]; omega)).trans ?_
      have hfl : ((ms[t]).flatMap (wkG sl)).length ≤ (ms[t]).length * 60 := flat_len_le fun m hm' => by
        unfold wkG
        split
        · rw [List.length_map, List.getD]
          cases he : sl[m.to.toNat]? with
          | none => simp
          | some r => exact hsl r (List.mem_of_getElem? he)
        · simp
      have h2r := hrow.1
      rw [wi_nat (by omega), ih (idx + 1) _ (by omega) (by omega) (by
        simp only [List.length_append, List.length_cons, List.length_nil, List.drop_zero]; omega), drop_cons hlt, hv, List.flatMap_cons, List.drop_zero]
      have hF : wkF sl ms (t : Int) = Move.mk 0 (t : Int) :: (ms[t]).flatMap (wkG sl) := by
        unfold wkF; rw [Int.toNat_natCast, getD_lt htl]
      rw [hF, List.append_assoc, List.append_assoc]
      rfl
    · simp only [ge_cast hlt, cond_false, drop_end hlt, List.flatMap_nil, List.append_nil]
theorem weakF_len {sl : List (List Int)} {ms : List (List Move)} {li : List Int} (hm : Leads ms) (hsl : ∀ r ∈ sl, r.length ≤ 60) (hli : ∀ v ∈ li, 0 ≤ v ∧ v < (ms.length : Int)) (hll : li.length ≤ 60) : (li.flatMap (wkF sl ms)).length ≤ 3774873660 := by
  have h := flat_len_le (l := li) (f := wkF sl ms) (B := 62914561) fun v hv => by
    obtain ⟨h1, h2⟩ := hli v hv
    obtain ⟨t, ht⟩ := Int.eq_ofNat_of_zero_le h1
    subst ht
    have htl : t < ms.length := by omega
    unfold wkF
    rw [Int.toNat_natCast, getD_lt htl, List.length_cons]
    have hrow := hm.2 t htl
    have hfl : ((ms[t]).flatMap (wkG sl)).length ≤ (ms[t]).length * 60 := flat_len_le fun m hm' => by
      unfold wkG
      split
      · rw [List.length_map, List.getD]
        cases he : sl[m.to.toNat]? with
        | none => simp
        | some r => exact hsl r (List.mem_of_getElem? he)
      · simp
    omega
  omega
theorem weakOf_ok (L N : Nat) (ms : List (List Move)) (hm : Leads ms) (hL : 1048576 < L) :
    ∃ sl : List (List Int), sl.length = ms.length ∧ (∀ (j : Nat) (hj : j < sl.length), (sl[j]).length ≤ ms.length ∧ (∀ v ∈ sl[j], 0 ≤ v ∧ v < (ms.length : Int)) ∧ ∀ t : Nat, (t : Int) ∈ sl[j] ↔ Slip ms (fun s => s = j) t) ∧
      f88 L N ⟨ms⟩ = some (sl.map fun li => tidyM (li.flatMap (wkF sl ms))) := by
  have hlim := lim_eq
  have hn := hm.1
  obtain ⟨sl, e, hsn, hs⟩ := slips_ok L N ms hm hL
  refine ⟨sl, hsn, hs, ?_⟩
  have hsl : ∀ r ∈ sl, r.length ≤ 60 := fun r hr => by
    obtain ⟨q, hq, rfl⟩ := List.mem_iff_getElem.1 hr
    have := (hs q hq).1; omega
  show f88.b L N some ⟨ms⟩ = _
  unfold f88.b f88.b'
  have e' : f124 L N (Graph.mk (Graph.mk ms).moves) = some sl := e
  rw [e', Option.bind_some]
  have key : ∀ (n i : Nat) (c5 rows : List (List Move)), i ≤ ms.length → ms.length - i < n → rows.length = i →
      f88.l0 L N (fun z7 z8 => f88.p0_e0 L N some z7 z8) n sl (ms.length : Int) (i : Int) ms c5 rows = some (rows ++ (sl.drop i).map fun li => tidyM (li.flatMap (wkF sl ms))) := by
    intro n
    induction n with
    | zero => intro i c5 rows _ h; omega
    | succ n ih =>
      intro i c5 rows hi hn' hr
      show f88.s0 L N _ (f88.l0 L N _ n) sl (ms.length : Int) (i : Int) ms c5 rows = _
      unfold f88.s0 f88.s0'
      by_cases hlt : i < ms.length
      · have hlt' : i < sl.length := by omega
        obtain ⟨h1, h2, -⟩ := hs i hlt'
        simp only [lt_cast hlt, lt_cast hlt', le0, Bool.and_true, cond_true, Int.toNat_natCast, at_lt hlt']
        refine (weak1 L N hL _ sl (ms.length : Int) (i : Int) sl[i] ms c5 rows hm hsn hsl h2 (by omega) L 0 [] (by omega) (by omega) (by simp only [List.length_nil]; omega)).trans ?_
        show f88.p1_e2' L N _ _ sl (ms.length : Int) (i : Int) ms ([] ++ ((sl[i]).drop 0).flatMap (wkF sl ms)) c5 rows = _
        unfold f88.p1_e2'
        have hfl := weakF_len hm hsl h2 (by omega)
        rw [List.drop_zero, List.nil_append, fsortM_some (by omega), Option.bind_some]
        have hle : decide (rows.length + ([tidyM ((sl[i]).flatMap (wkF sl ms))] : (List (List Move))).length ≤ lim) = true := dt (by simp only [List.length_cons, List.length_nil]; omega)
        rw [hle, cond_true, wi_nat (by omega), ih (i + 1) _ _ (by omega) (by omega) (by simp [hr]), drop_cons hlt', List.map_cons, List.append_assoc]
        rfl
      · simp only [ge_cast hlt, cond_false]
        rw [drop_end (by omega), List.map_nil, List.append_nil]
        rfl
  have := key L 0 [] [] (by omega) (by omega) rfl
  rw [List.drop_zero, List.nil_append] at this
  exact this
end Go.Proofs.Ytdfjdbpklbehoaa.Ev
namespace Go.Proofs.Ytdfjdbpklbehoaa.Ev
open Go
set_option linter.unusedVariables false
set_option linter.unusedSimpArgs false
def wsG (sl : List (List Bool)) (n : Nat) (m : Move) : List Move := ((List.range n).filter fun t => (sl.getD m.to.toNat []).getD t false).map fun t : Nat => Move.mk m.act (t : Int)
def wsF (b : Bool) (sl : List (List Bool)) (ms : List (List Move)) (s v : Nat) : List Move :=
  if (sl.getD s []).getD v false = true then (if b then [] else [Move.mk 0 (v : Int)]) ++ (ms.getD v []).flatMap (wsG sl ms.length) else []
theorem sweak3 {R : Type} (L N : Nat) (K : Bool → List (List Bool) → Int → Int → Int → List (List Move) → List Move → List (List Move) → Option R) (b : Bool) (sl : List (List Bool)) (i0 mid k : Int) (ms : List (List Move)) (act : Int) (u : Nat) (hu : u < sl.length) (hul : (sl[u]).length = ms.length) (rows : List (List Move)) (hms : ms.length ≤ 60) :
    ∀ (n j : Nat) (out : List Move), j ≤ ms.length → ms.length - j < n → out.length + (ms.length - j) ≤ lim →
      f87.l3 L N K n b sl i0 mid k (j : Int) ms act (u : Int) out rows = K b sl i0 mid k ms (out ++ (((List.range ms.length).drop j).filter fun t => (sl[u]).getD t false).map fun t : Nat => Move.mk act (t : Int)) rows := by
  intro n
  induction n with
  | zero => intro j out _ h; omega
  | succ n ih =>
    intro j out hj hn ho
    show f87.s3 L N _ (f87.l3 L N _ n) b sl i0 mid k (j : Int) ms act (u : Int) out rows = _
    unfold f87.s3 f87.s3'
    by_cases hlt : j < ms.length
    · have hle : decide (out.length + ([(Move.mk act (j : Int))] : (List Move)).length ≤ lim) = true := dt (by simp only [List.length_cons, List.length_nil]; omega)
      have hj2 : j < (sl[u]).length := by omega
      have hjr : j < (List.range ms.length).length := by rw [List.length_range]; exact hlt
      simp only [lt_cast hlt, lt_cast hu, lt_cast hj2, le0, Bool.and_true, cond_true, Int.toNat_natCast, at_lt hu, hle, atD, wi_nat (show j < 9223372036854775807 by omega)]
      rw [drop_cons hjr, List.getElem_range, List.filter_cons]
      cases hc : (sl[u]).getD j false with
      | true =>
        rw [cond_true, ih (j + 1) _ (by omega) (by omega) (by simp only [List.length_append, List.length_cons, List.length_nil]; omega), if_pos rfl, List.map_cons, List.append_assoc]
        rfl
      | false =>
        rw [cond_false, ih (j + 1) _ (by omega) (by omega) (by omega), if_neg (by simp)]
    · simp only [ge_cast hlt, cond_false]
      rw [drop_end (by rw [List.length_range]; exact hlt), List.filter_nil, List.map_nil, List.append_nil]
theorem wsG_len (sl : List (List Bool)) (n : Nat) (m : Move) : (wsG sl n m).length ≤ n := by
  unfold wsG
  rw [List.length_map]
  exact Nat.le_trans (List.length_filter_le _ _) (by simp)
theorem sweak2 {R : Type} (L N : Nat) (hL : 1048576 < L) (k1_e2 : Bool → List (List Bool) → Int → List (List Move) → List Move → List (List Move) → Option R) (m1 : Nat) (b : Bool) (sl : List (List Bool)) (i0 : Int) (v : Nat) (ms : List (List Move)) (hv : v < ms.length) (rows : List (List Move))
    (hm : Leads ms) (hsn : sl.length = ms.length) (hsl : ∀ (j : Nat) (hj : j < sl.length), (sl[j]).length = ms.length) :
    ∀ (n k : Nat) (out : List Move), k ≤ (ms[v]).length → (ms[v]).length - k < n → out.length + ((ms[v]).length - k) * 60 ≤ lim →
      f87.l2 L N (fun z35 z36 z37 z38 z39 z40 z41 => f87.p2_e4 L N k1_e2 (f87.l1 L N k1_e2 m1) z35 z36 z37 z38 z39 z40 z41) n b sl i0 (v : Int) (k : Int) ms out rows
        = f87.l1 L N k1_e2 m1 b sl i0 (wi ((v : Int) + 1)) ms (out ++ ((ms[v]).drop k).flatMap (wsG sl ms.length)) rows := by
  have hms := hm.1
  have hrow := hm.2 v hv
  intro n
  induction n with
  | zero => intro k out _ h; omega
  | succ n ih =>
    intro k out hk hn ho
    show f87.s2 L N _ (f87.l2 L N _ n) b sl i0 (v : Int) (k : Int) ms out rows = _
    unfold f87.s2 f87.s2'
    by_cases hlt : k < (ms[v]).length
    · have hstep : ((ms[v]).length - k) * 60 = ((ms[v]).length - (k + 1)) * 60 + 60 := by
        rw [show (ms[v]).length - k = ((ms[v]).length - (k + 1)) + 1 by omega, Nat.add_mul]
      obtain ⟨t, ht, htl⟩ := hm.nat hv hlt
      have htl' : t < sl.length := by omega
      simp only [lt_cast hv, le0, Bool.and_true, cond_true, Int.toNat_natCast, at_lt hv, lt_cast hlt, at_lt hlt, ht]
      refine (sweak3 L N _ b sl i0 (v : Int) (k : Int) ms _ t htl' (hsl t htl') rows hms L 0 out (by omega) (by omega) (by omega)).trans ?_
      show f87.p3_e6' L N _ _ b sl i0 (v : Int) (k : Int) ms _ rows = _
      unfold f87.p3_e6'
      have hG : wsG sl ms.length (ms[v])[k] = ((List.range ms.length).filter fun t' => (sl[t]).getD t' false).map fun t' : Nat => Move.mk ((ms[v])[k]).act (t' : Int) := by
        unfold wsG
        rw [ht, Int.toNat_natCast, getD_lt htl']
      have hGl := wsG_len sl ms.length (ms[v])[k]
      rw [hG] at hGl
      rw [List.drop_zero, wi_nat (by omega), ih (k + 1) _ (by omega) (by omega) (by rw [List.length_append]; omega), drop_cons hlt, List.flatMap_cons, hG, List.append_assoc]
    · simp only [lt_cast hv, le0, Bool.and_true, cond_true, Int.toNat_natCast, at_lt hv, ge_cast hlt, cond_false]
      rw [drop_end hlt, List.flatMap_nil, List.append_nil]
      rfl
theorem wsF_len (b : Bool) {sl : List (List Bool)} {ms : List (List Move)} (hm : Leads ms) (s v : Nat) (hv : v < ms.length) : (wsF b sl ms s v).length ≤ 62914561 := by
  have hms := hm.1
  have hrow := (hm.2 v hv).1
  have hfl : ((ms[v]).flatMap (wsG sl ms.length)).length ≤ (ms[v]).length * ms.length := flat_len_le fun m _ => wsG_len sl ms.length m
  have h2 : (ms[v]).length * ms.length ≤ (ms[v]).length * 60 := Nat.mul_le_mul (Nat.le_refl _) hms
  unfold wsF
  split
  · rw [getD_lt hv, List.length_append]
    cases b <;> simp only [Bool.false_eq_true, if_true, if_false, List.length_cons, List.length_nil] <;> omega
  · simp
theorem sweak1 {R : Type} (L N : Nat) (hL : 1048576 < L) (K : Bool → List (List Bool) → Int → List (List Move) → List Move → List (List Move) → Option R) (b : Bool) (sl : List (List Bool)) (i0 : Nat) (ms : List (List Move)) (hi0 : i0 < ms.length) (rows : List (List Move))
    (hm : Leads ms) (hsn : sl.length = ms.length) (hsl : ∀ (j : Nat) (hj : j < sl.length), (sl[j]).length = ms.length) :
    ∀ (n v : Nat) (out : List Move), v ≤ ms.length → ms.length - v < n → out.length + (ms.length - v) * 62914561 ≤ lim →
      f87.l1 L N K n b sl (i0 : Int) (v : Int) ms out rows = K b sl (i0 : Int) ms (out ++ ((List.range ms.length).drop v).flatMap (wsF b sl ms i0)) rows := by
  have hms := hm.1
  intro n
  induction n with
  | zero => intro k out _ h; omega
  | succ n ih =>
    intro v out hk hn ho
    show f87.s1 L N _ (f87.l1 L N _ n) b sl (i0 : Int) (v : Int) ms out rows = _
    unfold f87.s1 f87.s1'
    by_cases hlt : v < ms.length
    · have hstep : (ms.length - v) * 62914561 = (ms.length - (v + 1)) * 62914561 + 62914561 := by
        rw [show ms.length - v = (ms.length - (v + 1)) + 1 by omega, Nat.add_mul]
      have hi' : i0 < sl.length := by omega
      have hv2 : v < (sl[i0]).length := by rw [hsl]; exact hlt
      have hvr : v < (List.range ms.length).length := by rw [List.length_range]; exact hlt
      have hrow := (hm.2 v hlt).1
      have hfl := wsF_len b (sl := sl) hm i0 v hlt
      simp only [lt_cast hlt, lt_cast hi', lt_cast hv2, le0, Bool.and_true, cond_true, Int.toNat_natCast, at_lt hi', atD, wi_nat (show v < 9223372036854775807 by omega)]
      rw [drop_cons hvr, List.getElem_range, List.flatMap_cons]
      have hF : wsF b sl ms i0 v = if (sl[i0]).getD v false = true then (if b then [] else [Move.mk 0 (v : Int)]) ++ (ms[v]).flatMap (wsG sl ms.length) else [] := by
        unfold wsF; rw [getD_lt hi', getD_lt hlt]
      rw [hF] at hfl ⊢
      cases hc : (sl[i0]).getD v false with
      | false =>
        clear hfl hrow
        have e1 : out.length + (ms.length - (v + 1)) * 62914561 ≤ lim := by rw [hstep] at ho; exact Nat.le_trans (Nat.add_le_add_left (Nat.le_add_right _ _) _) ho
        rw [Bool.not_false, cond_true, ih (v + 1) _ (by omega) (by omega) e1, if_neg (by simp)]
        rfl
      | true =>
        rw [hc, if_pos rfl] at hfl
        rw [Bool.not_true, cond_false, if_pos rfl]
        have go : ∀ (pre : List Move), (pre ++ (ms[v]).flatMap (wsG sl ms.length)).length ≤ 62914561 → pre.length ≤ 1 → f87.j0' L N K (f87.l1 L N K n) (f87.l2 L N (fun z35 z36 z37 z38 z39 z40 z41 => f87.p2_e4 L N K (f87.l1 L N K n) z35 z36 z37 z38 z39 z40 z41) L) b sl (i0 : Int) (v : Int) ms (out ++ pre) rows
            = K b sl (i0 : Int) ms (out ++ ((pre ++ (ms[v]).flatMap (wsG sl ms.length)) ++ ((List.range ms.length).drop (v + 1)).flatMap (wsF b sl ms i0))) rows := by
          intro pre hpl hp1
          unfold f87.j0'
          refine (sweak2 L N hL K n b sl (i0 : Int) v ms hlt rows hm hsn hsl L 0 _ (by omega) (by omega) (by rw [List.length_append]; omega)).trans ?_
          rw [List.drop_zero, wi_nat (by omega), ih (v + 1) _ (by omega) (by omega) (by rw [List.length_append] at hpl; rw [List.length_append, List.length_append]; omega)]
          simp only [List.append_assoc]
        cases b with
        | true =>
          have h := go [] (by simpa using hfl) (by simp)
          rw [List.append_nil] at h
          simpa using h
        | false =>
          have h := go [Move.mk 0 (v : Int)] (by simpa using hfl) (by simp)
          have hle : decide (out.length + ([(Move.mk (0 : Int) (v : Int))] : (List Move)).length ≤ lim) = true := dt (by simp only [List.length_cons, List.length_nil]; omega)
          rw [Bool.not_false, cond_true, hle, cond_true]
          simpa using h
    · simp only [ge_cast hlt, cond_false]
      rw [drop_end (by rw [List.length_range]; exact hlt), List.flatMap_nil, List.append_nil]
theorem l5Weak_ok (L N : Nat) (b : Bool) (ms : List (List Move)) (hm : Leads ms) (hL : 8589934592 ≤ L) :
    ∃ (sl : List (List Bool)) (rows : List (List Move)), sl.length = ms.length ∧ (∀ (j : Nat) (hj : j < sl.length), (sl[j]).length = ms.length ∧ ∀ t : Nat, Tr sl[j] t ↔ Slip ms (fun s => s = j) t) ∧
      f87 L N ⟨ms⟩ b = some ⟨rows⟩ ∧ rows.length = ms.length ∧ ∀ (j : Nat) (hj : j < rows.length), RisesM rows[j] ∧ ∀ v, v ∈ rows[j] ↔ v ∈ (List.range ms.length).flatMap (wsF b sl ms j) := by
  have hlim := lim_eq
  have hn := hm.1
  obtain ⟨sl, e, hsn, hs⟩ := l5Slips_ok L N ms hm (by omega)
  refine ⟨sl, ?_⟩
  have hsl : ∀ (j : Nat) (hj : j < sl.length), (sl[j]).length = ms.length := fun j hj => (hs j hj).1
  have e' : f122 L N (Graph.mk (Graph.mk ms).moves) = some sl := e
  have key : ∀ (n i : Nat) (rows : List (List Move)), i ≤ ms.length → ms.length - i < n → rows.length = i → (∀ (j : Nat) (hj : j < rows.length), RisesM rows[j] ∧ ∀ v, v ∈ rows[j] ↔ v ∈ (List.range ms.length).flatMap (wsF b sl ms j)) →
      ∃ rows', f87.l0 L N (fun z6 => f87.p0_e0 L N some z6) n b sl (i : Int) ms rows = some ⟨rows'⟩ ∧ rows'.length = ms.length ∧ ∀ (j : Nat) (hj : j < rows'.length), RisesM rows'[j] ∧ ∀ v, v ∈ rows'[j] ↔ v ∈ (List.range ms.length).flatMap (wsF b sl ms j) := by
    intro n
    induction n with
    | zero => intro i rows _ h; omega
    | succ n ih =>
      intro i rows hi hn' hr hp
      show ∃ rows', f87.s0 L N _ (f87.l0 L N _ n) b sl (i : Int) ms rows = _ ∧ _
      unfold f87.s0 f87.s0'
      by_cases hlt : i < ms.length
      · simp only [lt_cast hlt, cond_true]
        have h1 := sweak1 L N (by omega) (fun z14 z15 z16 z17 z18 z19 => f87.p1_e2 L N (fun z6 => f87.p0_e0 L N some z6) (f87.l0 L N (fun z6 => f87.p0_e0 L N some z6) n) z14 z15 z16 z17 z18 z19) b sl i ms hlt rows hm hsn hsl L 0 [] (by omega) (by omega) (by simp only [List.length_nil]; omega)
        have h2 : f87.l1 L N (fun z14 z15 z16 z17 z18 z19 => f87.p1_e2 L N (fun z6 => f87.p0_e0 L N some z6) (f87.l0 L N (fun z6 => f87.p0_e0 L N some z6) n) z14 z15 z16 z17 z18 z19) L b sl (i : Int) (0 : Int) ms [] rows = _ := h1
        rw [h2, List.drop_zero, List.nil_append]
        show ∃ rows', f87.p1_e2' L N _ _ b sl (i : Int) ms _ rows = _ ∧ _
        unfold f87.p1_e2'
        have hfl : ((List.range ms.length).flatMap (wsF b sl ms i)).length ≤ (List.range ms.length).length * 62914561 := flat_len_le fun v hv => wsF_len b hm i v (List.mem_range.1 hv)
        rw [List.length_range] at hfl
        obtain ⟨ys, q1, q2, q3, q4⟩ := l3Sorted_ok L N ((List.range ms.length).flatMap (wsF b sl ms i)) (by omega) (by omega)
        have hle : decide (rows.length + ([ys] : (List (List Move))).length ≤ lim) = true := dt (by simp only [List.length_cons, List.length_nil]; omega)
        rw [q1, Option.bind_some, hle, cond_true, wi_nat (by omega)]
        exact ih (i + 1) _ (by omega) (by omega) (by simp [hr]) (rows_snoc (P := fun j r => RisesM r ∧ ∀ v, v ∈ r ↔ v ∈ (List.range ms.length).flatMap (wsF b sl ms j)) hp (by rw [hr]; exact ⟨q2, q3⟩))
      · simp only [ge_cast hlt, cond_false]
        have hi' : i = ms.length := by omega
        subst hi'
        exact ⟨rows, rfl, hr, hp⟩
  obtain ⟨rows, h1, h2⟩ := key L 0 [] (by omega) (by omega) rfl (fun j hj => by simp at hj)
  refine ⟨rows, hsn, hs, ?_, h2⟩
  show f87.b L N some ⟨ms⟩ b = _
  unfold f87.b f87.b'
  rw [e', Option.bind_some]
  exact h1
theorem Slip.trans {ms : List (List Move)} {X Y : Nat → Prop} {u : Nat} (h : Slip ms Y u) (hX : ∀ t, Y t → Slip ms X t) : Slip ms X u := by
  induction h with
  | base t hy => exact hX t hy
  | step s t _ hl k hk ha ht ih => exact .step s t ih hl k hk ha ht
theorem Slip.lt {ms : List (List Move)} (hm : Leads ms) {X : Nat → Prop} (hX : ∀ t, X t → t < ms.length) {u : Nat} (h : Slip ms X u) : u < ms.length := by
  induction h with
  | base t hx => exact hX t hx
  | step s t _ hl k hk ha ht ih =>
    obtain ⟨t', h1, h2⟩ := hm.nat hl hk
    rw [ht] at h1
    omega
def WkS (ms : List (List Move)) (s : Nat) (m : Move) : Prop := ∃ mid, Slip ms (fun x => x = s) mid ∧
  ((m.act = 0 ∧ m.to = (mid : Int)) ∨ ∃ (hs : mid < ms.length) (k : Nat) (hk : k < (ms[mid]).length) (t u : Nat), (ms[mid])[k].act ≠ 0 ∧ m.act = (ms[mid])[k].act ∧ (ms[mid])[k].to = (t : Int) ∧ Slip ms (fun x => x = t) u ∧ m.to = (u : Int))
theorem wk_mem {ms : List (List Move)} (hm : Leads ms) {sl : List (List Int)} (hsn : sl.length = ms.length) (hs : ∀ (j : Nat) (hj : j < sl.length), (sl[j]).length ≤ ms.length ∧ (∀ v ∈ sl[j], 0 ≤ v ∧ v < (ms.length : Int)) ∧ ∀ t : Nat, (t : Int) ∈ sl[j] ↔ Slip ms (fun s => s = j) t)
    (s : Nat) (hsl : s < sl.length) (m : Move) : m ∈ (sl[s]).flatMap (wkF sl ms) ↔ WkS ms s m := by
  obtain ⟨h1, h2, h3⟩ := hs s hsl
  rw [List.mem_flatMap]
  constructor
  · rintro ⟨v, hv, hmv⟩
    obtain ⟨hv0, hvn⟩ := h2 v hv
    obtain ⟨mid, hmid⟩ := Int.eq_ofNat_of_zero_le hv0
    subst hmid
    have hml : mid < ms.length := by omega
    refine ⟨mid, (h3 mid).1 hv, ?_⟩
    unfold wkF at hmv
    rw [Int.toNat_natCast, getD_lt hml] at hmv
    rcases List.mem_cons.1 hmv with e | hmv
    · exact .inl ⟨by rw [e], by rw [e]⟩
    · obtain ⟨q, hq, hmq⟩ := List.mem_flatMap.1 hmv
      obtain ⟨k, hk, rfl⟩ := List.mem_iff_getElem.1 hq
      obtain ⟨t, ht, htl⟩ := hm.nat hml hk
      have htl' : t < sl.length := by omega
      unfold wkG at hmq
      split at hmq
      · rename_i ha
        rw [ht, Int.toNat_natCast, getD_lt htl'] at hmq
        obtain ⟨w, hw, rfl⟩ := List.mem_map.1 hmq
        obtain ⟨hw0, hwn⟩ := (hs t htl').2.1 w hw
        obtain ⟨u, hu⟩ := Int.eq_ofNat_of_zero_le hw0
        subst hu
        exact .inr ⟨hml, k, hk, t, u, ha, rfl, ht, ((hs t htl').2.2 u).1 hw, rfl⟩
      · cases hmq
  · rintro ⟨mid, hsm, h⟩
    have hml : mid < ms.length := hsm.lt hm (fun t ht => by omega)
    refine ⟨(mid : Int), (h3 mid).2 hsm, ?_⟩
    unfold wkF
    rw [Int.toNat_natCast, getD_lt hml]
    rcases h with ⟨ha, ht⟩ | ⟨_, k, hk, t, u, ha, hact, ht, hu, hto⟩
    · refine List.mem_cons.2 (.inl ?_)
      rw [← mv_eta m, ha, ht]
    · obtain ⟨t', ht', htl⟩ := hm.nat hml hk
      rw [ht] at ht'
      obtain rfl : t = t' := by omega
      have htl' : t < sl.length := by omega
      refine List.mem_cons.2 (.inr (List.mem_flatMap.2 ⟨_, List.getElem_mem hk, ?_⟩))
      unfold wkG
      rw [if_pos ha, ht, Int.toNat_natCast, getD_lt htl']
      refine List.mem_map.2 ⟨(u : Int), ((hs t htl').2.2 u).2 hu, ?_⟩
      rw [← mv_eta m, hact, hto]
theorem ws_mem {ms : List (List Move)} (hm : Leads ms) {sl : List (List Bool)} (hsn : sl.length = ms.length) (hs : ∀ (j : Nat) (hj : j < sl.length), (sl[j]).length = ms.length ∧ ∀ t : Nat, Tr sl[j] t ↔ Slip ms (fun s => s = j) t)
    (s : Nat) (hsl : s < sl.length) (m : Move) : m ∈ (List.range ms.length).flatMap (wsF false sl ms s) ↔ WkS ms s m := by
  obtain ⟨h1, h3⟩ := hs s hsl
  rw [List.mem_flatMap]
  constructor
  · rintro ⟨mid, hv, hmv⟩
    have hml := List.mem_range.1 hv
    unfold wsF at hmv
    rw [getD_lt hsl, getD_lt hml] at hmv
    split at hmv
    · rename_i hT
      have hslip := (h3 mid).1 hT
      rcases List.mem_append.1 hmv with e | hmv
      · have e : m ∈ [Move.mk 0 (mid : Int)] := e
        rw [List.mem_singleton] at e
        exact ⟨mid, hslip, .inl ⟨by rw [e], by rw [e]⟩⟩
      · obtain ⟨q, hq, hmq⟩ := List.mem_flatMap.1 hmv
        obtain ⟨k, hk, rfl⟩ := List.mem_iff_getElem.1 hq
        obtain ⟨t, ht, htl⟩ := hm.nat hml hk
        have htl' : t < sl.length := by omega
        unfold wsG at hmq
        rw [ht, Int.toNat_natCast, getD_lt htl'] at hmq
        obtain ⟨u, hu, rfl⟩ := List.mem_map.1 hmq
        have hu2 := (List.mem_filter.1 hu).2
        have hut := ((hs t htl').2 u).1 hu2
        by_cases ha : (ms[mid])[k].act = 0
        · refine ⟨u, hut.trans fun x hx => ?_, .inl ⟨ha, rfl⟩⟩
          subst hx
          exact .step mid x hslip hml k hk ha ht
        · exact ⟨mid, hslip, .inr ⟨hml, k, hk, t, u, ha, rfl, ht, hut, rfl⟩⟩
    · cases hmv
  · rintro ⟨mid, hsm, h⟩
    have hml : mid < ms.length := hsm.lt hm (fun t ht => by omega)
    refine ⟨mid, List.mem_range.2 hml, ?_⟩
    unfold wsF
    have hT : (sl[s]).getD mid false = true := (h3 mid).2 hsm
    rw [getD_lt hsl, getD_lt hml, if_pos hT]
    rcases h with ⟨ha, ht⟩ | ⟨_, k, hk, t, u, ha, hact, ht, hu, hto⟩
    · refine List.mem_append.2 (.inl (List.mem_singleton.2 ?_))
      rw [← mv_eta m, ha, ht]
    · obtain ⟨t', ht', htl⟩ := hm.nat hml hk
      rw [ht] at ht'
      obtain rfl : t = t' := by omega
      have htl' : t < sl.length := by omega
      refine List.mem_append.2 (.inr (List.mem_flatMap.2 ⟨_, List.getElem_mem hk, ?_⟩))
      unfold wsG
      rw [ht, Int.toNat_natCast, getD_lt htl']
      have hul : u < ms.length := hu.lt hm (fun x hx => by omega)
      refine List.mem_map.2 ⟨u, List.mem_filter.2 ⟨List.mem_range.2 hul, ((hs t htl').2 u).2 hu⟩, ?_⟩
      rw [← mv_eta m, hact, hto]
theorem weak_eq (L N : Nat) (ms : List (List Move)) (hm : Leads ms) (hL : 8589934592 ≤ L) :
    ∃ rows, f88 L N ⟨ms⟩ = some rows ∧ f87 L N ⟨ms⟩ false = some ⟨rows⟩ ∧ rows.length = ms.length ∧ ∀ (j : Nat) (hj : j < rows.length), RisesM rows[j] ∧ ∀ m, m ∈ rows[j] ↔ WkS ms j m := by
  obtain ⟨s1, a1, a2, a3⟩ := weakOf_ok L N ms hm (by omega)
  obtain ⟨s2, rows, b1, b2, b3, b4, b5⟩ := l5Weak_ok L N false ms hm hL
  have hmem : ∀ (j : Nat) (hj : j < rows.length), RisesM rows[j] ∧ ∀ m, m ∈ rows[j] ↔ WkS ms j m := fun j hj => ⟨(b5 j hj).1, fun m => ((b5 j hj).2 m).trans (ws_mem hm b1 b2 j (by omega) m)⟩
  have he : (s1.map fun li => tidyM (li.flatMap (wkF s1 ms))) = rows := by
    apply List.ext_getElem
    · rw [List.length_map]; omega
    · intro j h1 h2
      rw [List.getElem_map]
      have hj1 : j < s1.length := by omega
      exact risesM_ext (tidyM_rises _) (hmem j h2).1 fun x => ((tidyM_mem _ x).trans (wk_mem hm a1 a2 j hj1 x)).trans ((hmem j h2).2 x).symm
  rw [he] at a3
  exact ⟨rows, a3, b3, b4, hmem⟩
end Go.Proofs.Ytdfjdbpklbehoaa.Ev
namespace Go.Proofs.Ytdfjdbpklbehoaa.Ev
open Go
set_option linter.unusedVariables false
set_option linter.unusedSimpArgs false
end Go.Proofs.Ytdfjdbpklbehoaa.Ev
namespace Go.Proofs.Ytdfjdbpklbehoaa.Ev
open Go
set_option linter.unusedVariables false
set_option linter.unusedSimpArgs false
end Go.Proofs.Ytdfjdbpklbehoaa.Ev
namespace Go.Proofs.Ytdfjdbpklbehoaa.Ev
open Go
set_option linter.unusedVariables false
set_option linter.unusedSimpArgs false
theorem allN_of {q : Nat → Bool} {k i : Nat} (h : ∀ j, i ≤ j → j < i + k → q j = true) : allN q k i = true := (allN_eq (q' := fun _ => true) k i h).trans (allN_true k i)
theorem graphOk_mk {ms : List (List Move)} (h1 : 1 ≤ ms.length) (h2 : ms.length ≤ 60) (h : ∀ (i : Nat) (hi : i < ms.length), RisesM ms[i] ∧ ∀ m ∈ ms[i], mvOk ms.length m = true) : graphOk ⟨ms⟩ = true := by
  unfold graphOk
  rw [Bool.and_eq_true]
  refine ⟨dt ⟨h1, h2⟩, allN_of fun i _ hi => ?_⟩
  have hi' : i < ms.length := by simpa using hi
  show rowOk ms.length (ms.getD i []) = true
  rw [getD_lt hi']
  obtain ⟨a1, a2⟩ := h i hi'
  refine allN_of fun k _ hk => ?_
  have hk' : k < (ms[i]).length := by simpa using hk
  unfold atOk
  rw [getD_lt hk', a2 _ (List.getElem_mem hk'), Bool.true_and]
  by_cases e : k = 0
  · rw [dt e]; rfl
  · rw [getD_lt (show k - 1 < (ms[i]).length by omega), List.pairwise_iff_getElem.1 a1 (k - 1) k (by omega) hk' (by omega), Bool.or_true]
theorem slip_weak {ms rows : List (List Move)} (hl : rows.length = ms.length) (h : ∀ (j : Nat) (hj : j < rows.length), ∀ m, m ∈ rows[j] ↔ WkS ms j m) {X : Nat → Prop} {t : Nat} : Slip rows X t ↔ Slip ms X t := by
  constructor
  · intro hs
    induction hs with
    | base t hx => exact .base t hx
    | step s t _ hsl k hk ha ht ih =>
      obtain ⟨mid, h1, h2⟩ := (h s hsl _).1 (List.getElem_mem hk)
      rcases h2 with ⟨-, h3⟩ | ⟨_, k2, hk2, t2, u, h3, h4, -⟩
      · rw [ht] at h3
        obtain rfl : t = mid := by omega
        exact h1.trans fun x hx => by subst hx; exact ih
      · rw [ha] at h4; exact absurd h4.symm h3
  · intro hs
    induction hs with
    | base t hx => exact .base t hx
    | step s t _ hsl k hk ha ht ih =>
      have hsr : s < rows.length := by omega
      have hm : (⟨0, (t : Int)⟩ : Move) ∈ rows[s] := (h s hsr _).2 ⟨t, .step s t (.base s rfl) hsl k hk ha ht, .inl ⟨rfl, rfl⟩⟩
      obtain ⟨q, hq, e⟩ := List.mem_iff_getElem.1 hm
      exact .step s t ih hsr q hq (by rw [e]) (by rw [e])
theorem weak_weak {ms rows : List (List Move)} (hm : Leads ms) (hl : rows.length = ms.length) (h : ∀ (j : Nat) (hj : j < rows.length), ∀ m, m ∈ rows[j] ↔ WkS ms j m) (j : Nat) (hj : j < ms.length) (m : Move) : WkS rows j m ↔ WkS ms j m := by
  have sw : ∀ {X : Nat → Prop} {t : Nat}, Slip rows X t ↔ Slip ms X t := slip_weak hl h
  constructor
  · rintro ⟨mid, h1, h2⟩
    have h1' := sw.1 h1
    rcases h2 with h2 | ⟨hmid, k, hk, t, u, ha, hact, ht, hu, hto⟩
    · exact ⟨mid, h1', .inl h2⟩
    · obtain ⟨mid2, g1, g2⟩ := (h mid hmid _).1 (List.getElem_mem hk)
      rcases g2 with ⟨g3, -⟩ | ⟨hm2, k2, hk2, t2, u2, g3, g4, g5, g6, g7⟩
      · exact absurd g3 ha
      · rw [ht] at g7
        obtain rfl : t = u2 := by omega
        exact ⟨mid2, g1.trans fun x hx => by subst hx; exact h1', .inr ⟨hm2, k2, hk2, t2, u, g3, hact.trans g4, g5, (sw.1 hu).trans fun x hx => by subst hx; exact g6, hto⟩⟩
  · rintro ⟨mid, h1, h2⟩
    have h1' := sw.2 h1
    rcases h2 with h2 | ⟨hmid, k, hk, t, u, ha, hact, ht, hu, hto⟩
    · exact ⟨mid, h1', .inl h2⟩
    · have hmr : mid < rows.length := by omega
      have hx : (⟨m.act, (u : Int)⟩ : Move) ∈ rows[mid] := (h mid hmr _).2 ⟨mid, .base mid rfl, .inr ⟨hmid, k, hk, t, u, ha, hact, ht, hu, rfl⟩⟩
      obtain ⟨q, hq, e⟩ := List.mem_iff_getElem.1 hx
      exact ⟨mid, h1', .inr ⟨hmr, q, hq, u, u, by rw [e]; show m.act ≠ 0; rw [hact]; exact ha, by rw [e], by rw [e], .base u rfl, hto⟩⟩
theorem strong_weak {ms : List (List Move)} (hm : Leads ms) {i : Nat} (hi : i < ms.length) {k : Nat} (hk : k < (ms[i]).length) : WkS ms i (ms[i])[k] := by
  obtain ⟨t, ht, htl⟩ := hm.nat hi hk
  by_cases ha : (ms[i])[k].act = 0
  · exact ⟨t, .step i t (.base i rfl) hi k hk ha ht, .inl ⟨ha, ht⟩⟩
  · exact ⟨i, .base i rfl, .inr ⟨hi, k, hk, t, t, ha, rfl, ht, .base t rfl, ht⟩⟩
theorem weakGraphD (L N : Nat) (g : Graph) (hg : g.moves.length + gsize g.moves ≤ 1048576) (hL : 8589934592 ≤ L) :
    ∃ rows, f46 L N g = some (⟨rows⟩, graphOk g) ∧ f47 L N g = some (⟨rows⟩, graphOk g) ∧ rows.length + gsize rows ≤ 1048576 ∧ rows.length ≤ 60 ∧ (∀ r ∈ rows, r.length ≤ 540) ∧
      (graphOk g = true → Leads g.moves ∧ 1 ≤ g.moves.length ∧ rows.length = g.moves.length ∧ ∀ (j : Nat) (hj : j < rows.length), RisesM rows[j] ∧ (∀ m, m ∈ rows[j] ↔ WkS g.moves j m) ∧ ∀ m ∈ rows[j], mvOk rows.length m = true) := by
  have hge : Graph.mk g.moves = g := by cases g; rfl
  have h1 := gok1_ok L N g (by omega) hg
  have h2 := gok2_ok L N g (by omega) hg
  cases hok : graphOk g with
  | false =>
    refine ⟨[], ?_, ?_, by simp [gsize], by simp, by simp, (fun h => by cases h)⟩
    · show f46.b' L N (fun a0 a1 => some (a0, a1)) g = _
      unfold f46.b'
      rw [hge, h2, Option.bind_some, hok, Bool.not_false, cond_true]
    · show f47.b' L N (fun a0 a1 => some (a0, a1)) g = _
      unfold f47.b'
      rw [hge, h1, Option.bind_some, hok, Bool.not_false, cond_true]
  | true =>
    have hm := leads_of hok hg
    obtain ⟨rows, w1, w2, w3, w4⟩ := weak_eq L N g.moves hm hL
    have hn := hm.1
    obtain ⟨hn1, -, hmv⟩ := graphOk_mv hok
    have hto : ∀ (j : Nat) (hj : j < rows.length), ∀ m ∈ rows[j], -4 ≤ m.act ∧ m.act ≤ 4 ∧ 0 ≤ m.to ∧ m.to < (g.moves.length : Int) := fun j hj m hmm => by
      obtain ⟨mid, hs, q⟩ := ((w4 j hj).2 m).1 hmm
      have hml : mid < g.moves.length := hs.lt hm (fun t ht => by omega)
      rcases q with ⟨ha, ht⟩ | ⟨_, k, hk, t, u, ha, hact, ht, hu, hto⟩
      · omega
      · have hb := hmv mid hml k hk
        have hul : u < g.moves.length := hu.lt hm (fun x hx => by omega)
        omega
    have hrow : ∀ r ∈ rows, r.length ≤ 540 := fun r hr => by
      obtain ⟨j, hj, rfl⟩ := List.mem_iff_getElem.1 hr
      exact risesM_len (w4 j hj).1 fun m hmm => by have := hto j hj m hmm; omega
    have hgs := gsize_le hrow
    refine ⟨rows, ?_, ?_, by omega, by omega, hrow, fun _ => ⟨hm, hn1, w3, fun j hj => ⟨(w4 j hj).1, (w4 j hj).2, fun m hmm => ?_⟩⟩⟩
    · show f46.b' L N (fun a0 a1 => some (a0, a1)) g = _
      unfold f46.b'
      have w2' : f87 L N g false = some ⟨rows⟩ := by rw [← hge]; exact w2
      rw [hge, h2, Option.bind_some, hok, Bool.not_true, cond_false, w2', Option.bind_some]
    · show f47.b' L N (fun a0 a1 => some (a0, a1)) g = _
      unfold f47.b'
      have w1' : f88 L N g = some rows := by rw [← hge]; exact w1
      rw [hge, h1, Option.bind_some, hok, Bool.not_true, cond_false, w1', Option.bind_some]
    · have := hto j hj m hmm
      unfold mvOk
      rw [dt (by omega), dt (by omega)]; rfl
theorem weakTwice (L N : Nat) (g : Graph) (hg : g.moves.length + gsize g.moves ≤ 1048576) (hL : 8589934592 ≤ L) (hok : graphOk g = true) (rows : List (List Move)) (e : f47 L N g = some (⟨rows⟩, true)) :
    f47 L N ⟨rows⟩ = some (⟨rows⟩, true) := by
  obtain ⟨r1, -, e1, s1, l1, -, f1⟩ := weakGraphD L N g hg hL
  rw [e] at e1
  injection e1 with e1
  injection e1 with e1 e1'
  injection e1 with e1
  subst e1
  obtain ⟨hm, hn1, hl, hr⟩ := f1 hok
  have hok2 : graphOk ⟨rows⟩ = true := graphOk_mk (by omega) l1 fun i hi => ⟨(hr i hi).1, (hr i hi).2.2⟩
  obtain ⟨r2, -, e2, -, l2, -, f2⟩ := weakGraphD L N ⟨rows⟩ s1 hL
  obtain ⟨hm2, -, hl2, hr2⟩ := f2 hok2
  have hl2' : r2.length = rows.length := hl2
  have : r2 = rows := by
    apply List.ext_getElem hl2'
    intro j h1 h2
    refine risesM_ext (hr2 j h1).1 (hr j h2).1 fun m => ?_
    rw [(hr2 j h1).2.1 m, (hr j h2).2.1 m]
    exact weak_weak hm hl (fun j hj => (hr j hj).2.1) j (by omega) m
  rw [e2, this, hok2]
end Go.Proofs.Ytdfjdbpklbehoaa.Ev
namespace Go.Proofs.Ytdfjdbpklbehoaa.Ev
open Go
set_option linter.unusedVariables false
set_option linter.unusedSimpArgs false
theorem meqb_iff (x y : Move) : Move.eqb x y = true ↔ x = y := by
  constructor
  · intro h
    simp only [Move.eqb, Bool.and_eq_true, beq_iff_eq] at h
    rw [← mv_eta x, ← mv_eta y, h.1, h.2]
  · rintro rfl; simp [Move.eqb]
theorem mnGraph_same (L N : Nat) (ms : List (List Move)) (hL : 1048576 < L) (hl : ms.length ≤ 1048576) (hr : ∀ r ∈ ms, r.length ≤ 1048576) : f54 L N ⟨ms⟩ ⟨ms⟩ = some true := by
  show f54.b L N some ⟨ms⟩ ⟨ms⟩ = _
  unfold f54.b f54.b'
  simp only [bne_self_eq_false, cond_false]
  have key : ∀ (n i : Nat), i ≤ ms.length → ms.length - i < n → f54.l0 L N (f54.p0_e0 L N some) (fun z => f54.p0_r L N some z) n (i : Int) ms ms = some true := by
    intro n
    induction n with
    | zero => intro i _ h; omega
    | succ n ih =>
      intro i hi hn
      show f54.s0 L N _ _ (f54.l0 L N _ _ n) (i : Int) ms ms = _
      unfold f54.s0 f54.s0'
      by_cases hlt : i < ms.length
      · have hrl := hr _ (List.getElem_mem hlt)
        simp only [lt_cast hlt, le0, Bool.and_true, cond_true, Int.toNat_natCast, at_lt hlt, bne_self_eq_false, cond_false]
        have row : ∀ (n' k : Nat), k ≤ (ms[i]).length → (ms[i]).length - k < n' → f54.l1 L N (fun z8 z9 z10 => f54.p1_e2 L N (f54.p0_e0 L N some) (fun z => f54.p0_r L N some z) (f54.l0 L N (f54.p0_e0 L N some) (fun z => f54.p0_r L N some z) n) z8 z9 z10) (fun z11 z12 z13 z14 => f54.p1_r L N (f54.p0_e0 L N some) (fun z => f54.p0_r L N some z) (f54.l0 L N (f54.p0_e0 L N some) (fun z => f54.p0_r L N some z) n) z11 z12 z13 z14) n' (i : Int) (k : Int) ms ms = some true := by
          intro n'
          induction n' with
          | zero => intro k _ h; omega
          | succ n' ih2 =>
            intro k hk hn'
            show f54.s1 L N _ _ (f54.l1 L N _ _ n') (i : Int) (k : Int) ms ms = _
            unfold f54.s1 f54.s1'
            by_cases hkl : k < (ms[i]).length
            · simp only [lt_cast hlt, le0, Bool.and_true, cond_true, Int.toNat_natCast, at_lt hlt, lt_cast hkl, at_lt hkl, (meqb_iff _ _).2 rfl, Bool.not_true, cond_false]
              rw [wi_nat (by omega)]
              exact ih2 (k + 1) (by omega) (by omega)
            · simp only [lt_cast hlt, le0, Bool.and_true, cond_true, Int.toNat_natCast, at_lt hlt, ge_cast hkl, cond_false]
              show f54.l0 L N _ _ n (wi ((i : Int) + 1)) ms ms = _
              rw [wi_nat (by omega)]
              exact ih (i + 1) (by omega) (by omega)
        exact row L 0 (by omega) (by omega)
      · rw [ge_cast hlt, cond_false]; rfl
  exact key L 0 (by omega) (by omega)
theorem lawWeakGraph (x0 : List Int) (hx0 : DatOk (.sl (.int .u8)) x0) : ∃ L N, f13 L N x0 = some true := by
  generalize hLL : 8589934592 = L
  refine ⟨L, 1000, ?_⟩
  have hlim := lim_eq
  obtain ⟨c, o1, o2⟩ := open_ok L 1000 hx0
  obtain ⟨g, p', d1, dp0, dp1, d2⟩ := graph_draw L 1000 (by omega) (by omega) o2 (p := 0) (by omega) (by omega)
  have hge : ∀ g : Graph, Graph.mk g.moves = g := fun g => by cases g; rfl
  have hd : f53 L 1000 x0 = some g := by
    show f53.b' L 1000 some x0 = _
    unfold f53.b'
    rw [o1]
    simp only [Option.bind_some, d1, hge]
  have hsz := d2.size
  obtain ⟨rows, e1, e2, e3, e4, e5, e6⟩ := weakGraphD L 1000 g hsz (by omega)
  have hok := gok1_ok L 1000 g (by omega) hsz
  have hmg := mnGraph_same L 1000 rows (by omega) (by omega) (fun r hr => by have := e5 r hr; omega)
  show f13.b L 1000 some x0 = _
  unfold f13.b f13.b'
  by_cases hl : (x0.length : Int) > 1048576
  · rw [dt hl, cond_true]
  · rw [df hl, cond_false, hd]
    simp only [Option.bind_some, hge, e1, e2, hmg, Bool.not_true, cond_false, beq_self_eq_true]
    unfold f13.j0'
    cases hgk : graphOk g with
    | false =>
      rw [Bool.not_false, cond_true, hge, hok, hgk]
      rfl
    | true =>
      rw [hgk] at e2
      have tw := weakTwice L 1000 g hsz (by omega) hgk rows e2
      obtain ⟨hm, hn1, hrl, hrr⟩ := e6 hgk
      rw [Bool.not_true, cond_false, tw]
      simp only [Option.bind_some]
      have key : ∀ (n i : Nat), i ≤ g.moves.length → g.moves.length - i < n → f13.l0 L 1000 (fun z18 z19 z20 => f13.p0_e0 L 1000 some z18 z19 z20) (fun z61 z62 z63 z64 => f13.p0_r L 1000 some z61 z62 z63 z64) n true (i : Int) g.moves rows rows = some true := by
        intro n
        induction n with
        | zero => intro i _ h; omega
        | succ n ih =>
          intro i hi hn
          show f13.s0 L 1000 _ _ (f13.l0 L 1000 _ _ n) true (i : Int) g.moves rows rows = _
          unfold f13.s0 f13.s0'
          by_cases hlt : i < g.moves.length
          · have hrow := (hm.2 i hlt).1
            have hir : i < rows.length := by omega
            have hrl5 := e5 rows[i] (List.getElem_mem hir)
            rw [lt_cast hlt, cond_true]
            have row : ∀ (n' k : Nat), k ≤ (g.moves[i]).length → (g.moves[i]).length - k < n' → f13.l1 L 1000 (fun z27 z28 z29 z30 z31 => f13.p1_e2 L 1000 (fun z18 z19 z20 => f13.p0_e0 L 1000 some z18 z19 z20) (fun z61 z62 z63 z64 => f13.p0_r L 1000 some z61 z62 z63 z64) (f13.l0 L 1000 (fun z18 z19 z20 => f13.p0_e0 L 1000 some z18 z19 z20) (fun z61 z62 z63 z64 => f13.p0_r L 1000 some z61 z62 z63 z64) n) z27 z28 z29 z30 z31) (fun z55 z56 z57 z58 z59 z60 => f13.p1_r L 1000 (fun z18 z19 z20 => f13.p0_e0 L 1000 some z18 z19 z20) (fun z61 z62 z63 z64 => f13.p0_r L 1000 some z61 z62 z63 z64) (f13.l0 L 1000 (fun z18 z19 z20 => f13.p0_e0 L 1000 some z18 z19 z20) (fun z61 z62 z63 z64 => f13.p0_r L 1000 some z61 z62 z63 z64) n) z55 z56 z57 z58 z59 z60) n' true (i : Int) (k : Int) g.moves rows rows = some true := by
              intro n'
              induction n' with
              | zero => intro k _ h; omega
              | succ n' ih2 =>
                intro k hk hn'
                show f13.s1 L 1000 _ _ (f13.l1 L 1000 _ _ n') true (i : Int) (k : Int) g.moves rows rows = _
                unfold f13.s1 f13.s1'
                by_cases hkl : k < (g.moves[i]).length
                · simp only [lt_cast hlt, le0, Bool.and_true, cond_true, Int.toNat_natCast, at_lt hlt, lt_cast hkl]
                  have find : ∀ (n2 q : Nat) (b : Bool), q ≤ (rows[i]).length → (rows[i]).length - q < n2 → ∀ K : Bool → Int → Int → Bool → List (List Move) → List (List Move) → List (List Move) → Option Bool, f13.l2 L 1000 K n2 true (i : Int) (k : Int) b (q : Int) g.moves rows rows = K true (i : Int) (k : Int) (b || ((rows[i]).drop q).any fun m => Move.eqb m (g.moves[i])[k]) g.moves rows rows := by
                    intro n2
                    induction n2 with
                    | zero => intro q b _ h; omega
                    | succ n2 ih3 =>
                      intro q b hq hn2 K
                      show f13.s2 L 1000 K (f13.l2 L 1000 K n2) true (i : Int) (k : Int) b (q : Int) g.moves rows rows = _
                      unfold f13.s2 f13.s2'
                      by_cases hql : q < (rows[i]).length
                      · rw [List.drop_eq_getElem_cons hql, List.any_cons]
                        have hw : wi ((q : Int) + 1) = ((q + 1 : Nat) : Int) := wi_nat (by omega)
                        simp only [lt_cast hir, lt_cast hlt, le0, Bool.and_true, cond_true, Int.toNat_natCast, at_lt hir, at_lt hlt, lt_cast hql, lt_cast hkl, at_lt hql, at_lt hkl, hw]
                        cases b with
                        | true => rw [cond_true, ih3 (q + 1) true (by omega) (by omega), Bool.true_or, Bool.true_or]
                        | false => rw [cond_false, ih3 (q + 1) _ (by omega) (by omega), Bool.false_or]
                      · simp only [lt_cast hir, le0, Bool.and_true, cond_true, Int.toNat_natCast, at_lt hir, ge_cast hql, cond_false]
                        rw [List.drop_eq_nil_of_le (by omega), List.any_nil, Bool.or_false]
                  refine (find L 0 false (by omega) (by omega) _).trans ?_
                  have hany : (((rows[i]).drop 0).any fun m => Move.eqb m (g.moves[i])[k]) = true := by
                    rw [List.drop_zero, List.any_eq_true]
                    exact ⟨_, ((hrr i hir).2.1 _).2 (strong_weak hm hlt hkl), (meqb_iff _ _).2 rfl⟩
                  rw [hany, Bool.false_or]
                  show f13.p2_e4' L 1000 _ _ _ true (i : Int) (k : Int) true g.moves rows rows = _
                  unfold f13.p2_e4'
                  rw [Bool.not_true, cond_false, wi_nat (by omega)]
                  exact ih2 (k + 1) (by omega) (by omega)
                · simp only [lt_cast hlt, le0, Bool.and_true, cond_true, Int.toNat_natCast, at_lt hlt, ge_cast hkl, cond_false]
                  show f13.l0 L 1000 _ _ n true (wi ((i : Int) + 1)) g.moves rows rows = _
                  rw [wi_nat (by omega)]
                  exact ih (i + 1) (by omega) (by omega)
            exact row L 0 (by omega) (by omega)
          · rw [ge_cast hlt, cond_false]
            show f13.p0_e0' L 1000 some true rows rows = _
            unfold f13.p0_e0'
            rw [cond_true, hmg, Option.bind_some]
      exact key L 0 (by omega) (by omega)
end Go.Proofs.Ytdfjdbpklbehoaa.Ev
