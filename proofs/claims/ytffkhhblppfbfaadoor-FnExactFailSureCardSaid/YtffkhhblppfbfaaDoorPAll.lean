/- Plain laws, in one text. -/
import Derived.Test.YtffkhhblppfbfaaDoorGZ3b
import Derived.Test.YtffkhhblppfbfaaDoorEvZ
import Derived.Test.YtffkhhblppfbfaaDoorEvSort
import Derived.Lib.ItoaNum
namespace Go.Proofs.YtffkhhblppfbfaaDoor.Ev
open Go
set_option linter.unusedVariables false
set_option linter.unusedSimpArgs false
theorem act1_ok (L N : Nat) (n : Int) : f51 L N n = some (decide (-4 ≤ n ∧ n ≤ 4)) := by
  show f51.b L N some n = _
  unfold f51.b f51.b'
  by_cases h : n ≥ -4
  · rw [dt h, cond_true]; congr 1; by_cases h2 : n ≤ 4
    · rw [dt h2, dt (by omega)]
    · rw [df h2, df (by omega)]
  · rw [df h, cond_false, df (by omega)]
theorem in_ok (L N : Nat) (n a b : Int) : f40 L N n a b = some (decide (a ≤ n ∧ n ≤ b)) := by
  show f40.b L N some n a b = _
  unfold f40.b f40.b'
  by_cases h : n ≥ a
  · rw [dt h, cond_true]; congr 1; by_cases h2 : n ≤ b
    · rw [dt h2, dt (by omega)]
    · rw [df h2, df (by omega)]
  · rw [df h, cond_false, df (by omega)]
theorem act2_ok (L N : Nat) (n : Int) : f41 L N n = some (decide (-4 ≤ n ∧ n ≤ 4)) := by
  show f41.b L N some n = _
  unfold f41.b f41.b'
  rw [in_ok]; rfl
def gsize (ms : List (List Move)) : Nat := (ms.map List.length).sum
theorem szMoveS_ok (L N : Nat) (x : List Move) (left : Int) (hx : x.length ≤ maxLen) (h0 : 0 ≤ left) (h1 : left ≤ 1048576) : f39 L N x left = some (if (x.length : Int) ≤ left then left - x.length else -1) := by
  show f39.b L N some x left = _
  unfold f39.b f39.b'
  have hm := maxLen_eq
  rw [wi_id (by omega) (by omega)]
  by_cases h : (x.length : Int) ≤ left
  · rw [df (by omega), cond_false, if_pos h]
  · rw [dt (by omega), cond_true, if_neg h]
theorem szMoveSS_ok (L N : Nat) (x : List (List Move)) (left : Int) (hx : x.length ≤ maxLen) (hr : ∀ r ∈ x, r.length ≤ maxLen) (hL : 1048576 < L) (h0 : 0 ≤ left) (h1 : left ≤ 1048576) :
    f14 L N x left = some (if ((x.length + gsize x : Nat) : Int) ≤ left then left - (x.length + gsize x : Nat) else -1) := by
  have hm := maxLen_eq
  show f14.b L N some x left = _
  unfold f14.b f14.b'
  rw [wi_id (by omega) (by omega)]
  by_cases h : left - (x.length : Int) < 0
  · rw [dt h, cond_true, if_neg (by omega)]
  · rw [df h, cond_false]
    have key : ∀ (n i : Nat) (l : Int), x.length - i < n → i ≤ x.length → 0 ≤ l → l ≤ 1048576 →
        f14.l0 L N (fun z3 => f14.p0_e0 L N some z3) (fun z5 z6 => f14.p0_r L N some z5 z6) n x l (i : Int) = some (if ((gsize (x.drop i) : Nat) : Int) ≤ l then l - (gsize (x.drop i) : Nat) else -1) := by
      intro n
      induction n with
      | zero => intro i l h; omega
      | succ n ih =>
        intro i l h2 hi l0 l1
        show f14.s0 L N _ _ (f14.l0 L N _ _ n) x l i = _
        unfold f14.s0 f14.s0'
        by_cases hlt : i < x.length
        · simp only [lt_cast hlt, le0, cond_true, Bool.and_true, Int.toNat_natCast, at_lt hlt]
          rw [szMoveS_ok L N x[i] l (hr _ (List.getElem_mem hlt)) l0 l1]
          have hd : gsize (x.drop i) = x[i].length + gsize (x.drop (i + 1)) := by
            rw [List.drop_eq_getElem_cons hlt]; simp only [gsize, List.map_cons, List.sum_cons]
          simp only [Option.bind_some]
          by_cases hc : (x[i].length : Int) ≤ l
          · rw [if_pos hc, df (by omega), cond_false, wi_nat (by omega), ih (i + 1) _ (by omega) (by omega) (by omega) (by omega), hd]
            congr 1
            split <;> split <;> omega
          · rw [if_neg hc, dt (by omega), cond_true, if_neg (by omega)]
            rfl
        · simp only [ge_cast hlt, cond_false]
          have hi' : i = x.length := by omega
          subst hi'
          rw [List.drop_length]
          have : ((gsize ([] : List (List Move)) : Nat) : Int) = 0 := rfl
          rw [this, if_pos l0, Int.sub_zero]
          rfl
    refine (key L 0 _ (by omega) (by omega) (by omega) (by omega)).trans ?_
    rw [List.drop_zero]
    congr 1
    split <;> split <;> omega
theorem szGraph_ok (L N : Nat) (g : Graph) (hg : DatOk (.st 2) g) (hL : 1048576 < L) :
    ∃ r : Int, f5 L N g 1048576 = some r ∧ (r < 0 ∨ (g.moves.length + gsize g.moves ≤ 1048576 ∧ 0 ≤ r ∧ r ≤ 1048576)) := by
  obtain ⟨h1, h2⟩ := graph_ok hg
  show ∃ r, f5.b L N some g 1048576 = some r ∧ _
  unfold f5.b f5.b'
  rw [szMoveSS_ok L N g.moves 1048576 h1 (fun r hr => (h2 r hr).1) hL (by omega) (by omega)]
  simp only [Option.bind_some]
  by_cases hc : ((g.moves.length + gsize g.moves : Nat) : Int) ≤ 1048576
  · rw [if_pos hc, df (by omega), cond_false]
    exact ⟨_, rfl, .inr (by omega)⟩
  · rw [if_neg hc, dt (by omega), cond_true]
    exact ⟨_, rfl, .inl (by omega)⟩
theorem gsize_row {ms : List (List Move)} : ∀ r ∈ ms, r.length ≤ gsize ms := by
  intro r hr
  unfold gsize
  induction ms with
  | nil => cases hr
  | cons a ms ih =>
    rw [List.map_cons, List.sum_cons]
    rcases List.mem_cons.1 hr with rfl | hr
    · omega
    · have := ih hr; omega
theorem toMove_ok (L N : Nat) (m : Move) : f69 L N m = some m := rfl
theorem toMoveS_ok (L N : Nat) (x : List Move) (hL : x.length < L) (hl : x.length ≤ lim) : f50 L N x = some x := by
  have hm := lim_eq
  show f50.b L N some x = _
  unfold f50.b f50.b'
  refine (bif_t2 (by omega) (by omega)).trans ?_
  refine copy_loop (l := fun n i ys => f50.l0 L N (fun z3 => f50.p0_e0 L N some z3) n x i ys) (fun n i hi ys hy => ?_) (fun n ys => ?_) L 0 _ (by omega) (by omega) (by simp) (by simp)
  · show f50.s0 L N _ (f50.l0 L N _ n) x i ys = _
    unfold f50.s0 f50.s0'
    simp only [lt_cast hi, le0, cond_true, Bool.and_true, Int.toNat_natCast, at_lt hi, toMove_ok, Option.bind_some, lt_cast (show i < ys.length by omega), wi_nat (show i < 9223372036854775807 by omega)]
  · show f50.s0 L N _ (f50.l0 L N _ n) x x.length ys = _
    unfold f50.s0 f50.s0'
    simp only [ge_cast (Nat.lt_irrefl _), cond_false]
    rfl
theorem toMoveSS_ok (L N : Nat) (x : List (List Move)) (hL : x.length < L) (hl : x.length ≤ lim) (hr : ∀ r ∈ x, r.length < L ∧ r.length ≤ lim) : f22 L N x = some x := by
  have hm := lim_eq
  show f22.b L N some x = _
  unfold f22.b f22.b'
  refine (bif_t2 (by omega) (by omega)).trans ?_
  refine copy_loop (l := fun n i ys => f22.l0 L N (fun z3 => f22.p0_e0 L N some z3) n x i ys) (fun n i hi ys hy => ?_) (fun n ys => ?_) L 0 _ (by omega) (by omega) (by simp) (by simp)
  · show f22.s0 L N _ (f22.l0 L N _ n) x i ys = _
    unfold f22.s0 f22.s0'
    have h1 := hr _ (List.getElem_mem hi)
    simp only [lt_cast hi, le0, cond_true, Bool.and_true, Int.toNat_natCast, at_lt hi, toMoveS_ok L N x[i] h1.1 h1.2, Option.bind_some, lt_cast (show i < ys.length by omega), wi_nat (show i < 9223372036854775807 by omega)]
  · show f22.s0 L N _ (f22.l0 L N _ n) x x.length ys = _
    unfold f22.s0 f22.s0'
    simp only [ge_cast (Nat.lt_irrefl _), cond_false]
    rfl
theorem toGraph_ok (L N : Nat) (g : Graph) (hL : 1048576 < L) (hs : g.moves.length + gsize g.moves ≤ 1048576) : f7 L N g = some g.moves := by
  have hm := lim_eq
  show f7.b L N some g = _
  unfold f7.b f7.b'
  rw [toMoveSS_ok L N g.moves (by omega) (by omega) (fun r hr => by have := gsize_row r hr; omega)]
  rfl
theorem eqMove_ok (L N : Nat) (m : Move) : f75 L N m m = some true := by
  show f75.b L N some m m = _
  unfold f75.b f75.b'
  simp only [bne_self_eq_false, cond_false]
theorem allN_true (k i : Nat) : allN (fun _ => true) k i = true := by
  induction k generalizing i with
  | zero => rfl
  | succ k ih => exact ih (i + 1)
theorem eqMoveS_ok (L N : Nat) (x : List Move) (hL : x.length < L) (hl : x.length ≤ lim) : f62 L N x x = some true := by
  have hm := lim_eq
  show f62.b L N some x x = _
  unfold f62.b f62.b'
  simp only [bne_self_eq_false, cond_false]
  refine (all_loop (l := fun n i => f62.l0 L N (f62.p0_e0 L N some) (fun z4 => f62.p0_r L N some z4) n x x i) (len := x.length) (q := fun _ => true) (rt := some true) (rf := some false) (fun n i hi => ?_) (fun n => ?_) L 0 (by omega) (by omega)).trans (by rw [allN_true]; rfl)
  · show f62.s0 L N _ _ (f62.l0 L N _ _ n) x x i = _
    unfold f62.s0 f62.s0'
    simp only [lt_cast hi, le0, cond_true, Bool.and_true, Int.toNat_natCast, at_lt hi, eqMove_ok, Option.bind_some, Bool.not_true, cond_false, wi_nat (show i < 9223372036854775807 by omega)]
  · show f62.s0 L N _ _ (f62.l0 L N _ _ n) x x x.length = _
    unfold f62.s0 f62.s0'
    simp only [ge_cast (Nat.lt_irrefl _), cond_false]
    rfl
theorem eqGraph_ok (L N : Nat) (g : Graph) (hL : 1048576 < L) (hs : g.moves.length + gsize g.moves ≤ 1048576) : f9 L N g g = some true := by
  have hm := lim_eq
  have key : f31 L N g.moves g.moves = some true := by
    generalize hx : g.moves = x
    rw [hx] at hs
    show f31.b L N some x x = _
    unfold f31.b f31.b'
    simp only [bne_self_eq_false, cond_false]
    refine (all_loop (l := fun n i => f31.l0 L N (f31.p0_e0 L N some) (fun z4 => f31.p0_r L N some z4) n x x i) (len := x.length) (q := fun _ => true) (rt := some true) (rf := some false) (fun n i hi => ?_) (fun n => ?_) L 0 (by omega) (by omega)).trans (by rw [allN_true]; rfl)
    · show f31.s0 L N _ _ (f31.l0 L N _ _ n) x x i = _
      unfold f31.s0 f31.s0'
      have := gsize_row _ (List.getElem_mem hi)
      simp only [lt_cast hi, le0, cond_true, Bool.and_true, Int.toNat_natCast, at_lt hi, eqMoveS_ok L N x[i] (by omega) (by omega), Option.bind_some, Bool.not_true, cond_false, wi_nat (show i < 9223372036854775807 by omega)]
    · show f31.s0 L N _ _ (f31.l0 L N _ _ n) x x x.length = _
      unfold f31.s0 f31.s0'
      simp only [ge_cast (Nat.lt_irrefl _), cond_false]
      rfl
  show f9.b L N some g g = _
  unfold f9.b f9.b'
  rw [key]; rfl
def lessM (a b : Move) : Bool := decide (a.act < b.act ∨ (a.act = b.act ∧ a.to < b.to))
def mvOk (n : Nat) (m : Move) : Bool := decide (-4 ≤ m.act ∧ m.act ≤ 4) && decide (0 ≤ m.to ∧ m.to < (n : Int))
def atOk (n : Nat) (r : List Move) (k : Nat) : Bool := mvOk n (r.getD k ⟨0, 0⟩) && (decide (k = 0) || lessM (r.getD (k - 1) ⟨0, 0⟩) (r.getD k ⟨0, 0⟩))
def rowOk (n : Nat) (r : List Move) : Bool := allN (atOk n r) r.length 0
def graphOk (g : Graph) : Bool := decide (1 ≤ g.moves.length ∧ g.moves.length ≤ 60) && allN (fun i => rowOk g.moves.length (g.moves.getD i [])) g.moves.length 0
theorem atD {α : Type} (x : List α) (d : α) (i : Nat) : listAt x d i = x.getD i d := rfl
theorem less2_ok (L N : Nat) (a b : Move) : f42 L N a b = some (lessM a b) := by
  show f42.b L N some a b = _
  unfold f42.b f42.b' lessM
  by_cases h : a.act < b.act
  · rw [dt h, cond_true, dt (by omega)]
  · rw [df h, cond_false]
    by_cases h2 : a.act = b.act
    · have : (a.act == b.act) = true := by simpa using h2
      rw [this, cond_true]
      by_cases h3 : a.to < b.to
      · rw [dt h3, dt (by omega)]
      · rw [df h3, df (by omega)]
    · have : (a.act == b.act) = false := by simpa using h2
      rw [this, cond_false, df (by omega)]
theorem cmp_ok (L N : Nat) (a b : Int) : f70 L N a b = some (if a < b then -1 else if a > b then 1 else 0) := by
  show f70.b L N some a b = _
  unfold f70.b f70.b'
  have h0 : ∀ a, f80 L N a = some false := fun a => by
    show f80.b L N some a = _
    unfold f80.b f80.b'
    simp
  simp only [h0, Option.bind_some, cond_false]
  by_cases h : a < b
  · rw [dt h, cond_true, if_pos h]
  · rw [df h, cond_false, if_neg h]
    by_cases h2 : a > b
    · rw [dt h2, cond_true, if_pos h2]
    · rw [df h2, cond_false, if_neg h2]
theorem byMove_ok (L N : Nat) (a b : Move) : ∃ r : Int, f52 L N a b = some r ∧ decide (r ≥ 0) = !lessM a b := by
  show ∃ r, f52.b L N some a b = some r ∧ _
  unfold f52.b f52.b' lessM
  simp only [cmp_ok, Option.bind_some]
  by_cases h : a.act < b.act
  · rw [if_pos h]
    exact ⟨-1, rfl, by rw [dt (show a.act < b.act ∨ _ from .inl h)]; rfl⟩
  · rw [if_neg h]
    by_cases h2 : a.act > b.act
    · rw [if_pos h2]
      exact ⟨1, rfl, by rw [df (show ¬ (a.act < b.act ∨ a.act = b.act ∧ a.to < b.to) by omega)]; rfl⟩
    · rw [if_neg h2]
      refine ⟨_, rfl, ?_⟩
      by_cases h3 : a.to < b.to
      · rw [if_pos h3, dt (show a.act < b.act ∨ a.act = b.act ∧ a.to < b.to by omega)]; rfl
      · rw [if_neg h3, df (show ¬ (a.act < b.act ∨ a.act = b.act ∧ a.to < b.to) by omega)]
        by_cases h4 : a.to > b.to
        · rw [if_pos h4]; rfl
        · rw [if_neg h4]; rfl
end Go.Proofs.YtffkhhblppfbfaaDoor.Ev
namespace Go.Proofs.YtffkhhblppfbfaaDoor.Ev
open Go
set_option linter.unusedVariables false
set_option linter.unusedSimpArgs false
theorem getD_lt {α : Type} {x : List α} {d : α} {i : Nat} (h : i < x.length) : x.getD i d = x[i] := by
  rw [List.getD_eq_getElem?_getD, List.getElem?_eq_getElem h]; rfl
theorem pred_cast {k : Nat} (h : 0 < k) (h2 : k < 9223372036854775807) : wi ((k : Int) - 1) = ((k - 1 : Nat) : Int) := by
  rw [wi_id (by omega) (by omega)]; omega
theorem mv_eta (m : Move) : Move.mk m.act m.to = m := by cases m; rfl
theorem gok2_ok (L N : Nat) (g : Graph) (hL : 1048576 < L) (hs : g.moves.length + gsize g.moves ≤ 1048576) : f15 L N g = some (graphOk g) := by
  show f15.b L N some g = _
  unfold f15.b f15.b' graphOk
  generalize hms : g.moves = ms
  rw [hms] at hs
  rw [in_ok]
  simp only [Option.bind_some]
  by_cases hr : 1 ≤ (ms.length : Int) ∧ (ms.length : Int) ≤ 60
  · rw [dt hr, dt (show 1 ≤ ms.length ∧ ms.length ≤ 60 by omega)]
    simp only [Bool.not_true, cond_false, Bool.true_and]
    refine (all_loop (l := fun n i => f15.l0 L N (f15.p0_e0 L N some) (fun z => f15.p0_r L N some z) n i ms) (len := ms.length) (q := fun i => rowOk ms.length (ms.getD i [])) (rt := some true) (rf := some false) (fun n i hi => ?_) (fun n => ?_) L 0 (by omega) (by omega)).trans ?_
    · show f15.s0 L N _ _ (f15.l0 L N _ _ n) i ms = _
      unfold f15.s0 f15.s0'
      simp only [lt_cast hi, cond_true, getD_lt hi]
      have hrow := gsize_row _ (List.getElem_mem hi)
      refine (all_loop (l := fun n k => f15.l1 L N (fun z6 z7 => f15.p1_e2 L N (f15.p0_e0 L N some) (fun z => f15.p0_r L N some z) (f15.l0 L N (f15.p0_e0 L N some) (fun z => f15.p0_r L N some z) _) z6 z7) (fun z15 z16 z17 => f15.p1_r L N (f15.p0_e0 L N some) (fun z => f15.p0_r L N some z) (f15.l0 L N (f15.p0_e0 L N some) (fun z => f15.p0_r L N some z) _) z15 z16 z17) n i k ms) (len := (ms[i]).length) (q := atOk ms.length ms[i]) (rt := f15.l0 L N (f15.p0_e0 L N some) (fun z => f15.p0_r L N some z) n ((i + 1 : Nat) : Int) ms) (rf := some false) (fun n' k hk => ?_) (fun n' => ?_) L 0 (by omega) (by omega)).trans (by rw [Nat.sub_zero]; rfl)
      · show f15.s1 L N _ _ (f15.l1 L N _ _ n') i k ms = _
        unfold f15.s1 f15.s1'
        have hw : wi ((ms.length : Int) - 1) = (ms.length : Int) - 1 := wi_id (by omega) (by omega)
        simp only [lt_cast hi, le0, cond_true, Bool.and_true, Bool.true_and, Int.toNat_natCast, at_lt hi, lt_cast hk, at_lt hk, act2_ok, in_ok, Option.bind_some, less2_ok, hw, mv_eta, wi_nat (show k < 9223372036854775807 by omega)]
        unfold atOk mvOk
        rw [getD_lt hk]
        by_cases hA : -4 ≤ (ms[i])[k].act ∧ (ms[i])[k].act ≤ 4
        · by_cases hB : 0 ≤ (ms[i])[k].to ∧ (ms[i])[k].to < (ms.length : Int)
          · rw [dt hA, dt hB, dt (show 0 ≤ (ms[i])[k].to ∧ (ms[i])[k].to ≤ (ms.length : Int) - 1 by omega)]
            simp only [Bool.not_true, cond_false, Bool.true_and]
            by_cases hk0 : k = 0
            · subst hk0
              rfl
            · have hp : k - 1 < (ms[i]).length := by omega
              rw [dt (show (k : Int) > 0 by omega), cond_true, pred_cast (by omega) (by omega)]
              simp only [le0, lt_cast hp, Bool.and_true, cond_true, Int.toNat_natCast, at_lt hp, Option.bind_some, df hk0, Bool.false_or, getD_lt hp]
              cases lessM (ms[i])[k - 1] (ms[i])[k] <;> rfl
          · rw [dt hA, df hB, df (show ¬ (0 ≤ (ms[i])[k].to ∧ (ms[i])[k].to ≤ (ms.length : Int) - 1) by omega)]
            rfl
        · rw [df hA]
          rfl
      · show f15.s1 L N _ _ (f15.l1 L N _ _ n') i (ms[i]).length ms = _
        unfold f15.s1 f15.s1'
        simp only [lt_cast hi, le0, cond_true, Bool.and_true, Bool.true_and, Int.toNat_natCast, at_lt hi, ge_cast (Nat.lt_irrefl _), cond_false]
        show f15.l0 L N _ _ n (wi ((i : Int) + 1)) ms = _
        rw [wi_nat (by omega)]
    · show f15.s0 L N _ _ (f15.l0 L N _ _ n) ms.length ms = _
      unfold f15.s0 f15.s0'
      simp only [ge_cast (Nat.lt_irrefl _), cond_false]
      rfl
    · rw [Nat.sub_zero]
      cases allN (fun i => rowOk ms.length (ms.getD i [])) ms.length 0 <;> rfl
  · rw [df hr, df (show ¬ (1 ≤ ms.length ∧ ms.length ≤ 60) by omega)]
    rfl
theorem gok1_ok (L N : Nat) (g : Graph) (hL : 1048576 < L) (hs : g.moves.length + gsize g.moves ≤ 1048576) : f23 L N g = some (graphOk g) := by
  show f23.b L N some g = _
  unfold f23.b f23.b' graphOk
  generalize hms : g.moves = ms
  rw [hms] at hs
  by_cases h1 : (ms.length : Int) < 1
  · rw [dt h1, cond_true, df (show ¬ (1 ≤ ms.length ∧ ms.length ≤ 60) by omega)]; rfl
  · rw [df h1, cond_false]
    by_cases h2 : (ms.length : Int) > 60
    · rw [dt h2, cond_true, df (show ¬ (1 ≤ ms.length ∧ ms.length ≤ 60) by omega)]; rfl
    · rw [df h2, cond_false, dt (show 1 ≤ ms.length ∧ ms.length ≤ 60 by omega)]
      simp only [Bool.true_and]
      unfold f23.j0'
      refine (all_loop (l := fun n i => f23.l0 L N (f23.p0_e0 L N some) (fun z => f23.p0_r L N some z) n ms (ms.length : Int) i ms) (len := ms.length) (q := fun i => rowOk ms.length (ms.getD i [])) (rt := some true) (rf := some false) (fun n i hi => ?_) (fun n => ?_) L 0 (by omega) (by omega)).trans ?_
      · show f23.s0 L N _ _ (f23.l0 L N _ _ n) ms (ms.length : Int) i ms = _
        unfold f23.s0 f23.s0'
        simp only [lt_cast hi, le0, Bool.and_true, cond_true, Int.toNat_natCast, at_lt hi, getD_lt hi]
        have hrow := gsize_row _ (List.getElem_mem hi)
        refine (all_loop (l := fun n k => f23.l1 L N (fun z15 z16 z17 z18 => f23.p1_e2 L N (f23.p0_e0 L N some) (fun z => f23.p0_r L N some z) (f23.l0 L N (f23.p0_e0 L N some) (fun z => f23.p0_r L N some z) _) z15 z16 z17 z18) (fun z30 z31 z32 z33 z34 => f23.p1_r L N (f23.p0_e0 L N some) (fun z => f23.p0_r L N some z) (f23.l0 L N (f23.p0_e0 L N some) (fun z => f23.p0_r L N some z) _) z30 z31 z32 z33 z34) n ms[i] ms (ms.length : Int) i ms[i] ((ms[i]).length : Int) k ms) (len := (ms[i]).length) (q := atOk ms.length ms[i]) (rt := f23.l0 L N (f23.p0_e0 L N some) (fun z => f23.p0_r L N some z) n ms (ms.length : Int) ((i + 1 : Nat) : Int) ms) (rf := some false) (fun n' k hk => ?_) (fun n' => ?_) L 0 (by omega) (by omega)).trans (by rw [Nat.sub_zero]; rfl)
        · show f23.s1 L N _ _ (f23.l1 L N _ _ n') ms[i] ms (ms.length : Int) i ms[i] ((ms[i]).length : Int) k ms = _
          unfold f23.s1 f23.s1'
          simp only [le0, cond_true, Bool.and_true, Bool.true_and, Int.toNat_natCast, lt_cast hk, at_lt hk, act1_ok, Option.bind_some, mv_eta, wi_nat (show k < 9223372036854775807 by omega)]
          unfold atOk mvOk
          rw [getD_lt hk]
          by_cases hA : -4 ≤ (ms[i])[k].act ∧ (ms[i])[k].act ≤ 4
          · rw [dt hA]
            simp only [Bool.not_true, cond_false, Bool.true_and]
            by_cases hB0 : (ms[i])[k].to < 0
            · rw [dt hB0, df (show ¬ (0 ≤ (ms[i])[k].to ∧ (ms[i])[k].to < (ms.length : Int)) by omega)]; rfl
            · rw [df hB0, cond_false]
              by_cases hB1 : (ms[i])[k].to ≥ (ms.length : Int)
              · rw [dt hB1, df (show ¬ (0 ≤ (ms[i])[k].to ∧ (ms[i])[k].to < (ms.length : Int)) by omega)]; rfl
              · rw [df hB1, cond_false, dt (show 0 ≤ (ms[i])[k].to ∧ (ms[i])[k].to < (ms.length : Int) by omega)]
                by_cases hk0 : k = 0
                · subst hk0
                  rfl
                · have hp : k - 1 < (ms[i]).length := by omega
                  rw [dt (show (k : Int) > 0 by omega), cond_true, pred_cast (by omega) (by omega)]
                  obtain ⟨r, hr, hd⟩ := byMove_ok L N (ms[i])[k - 1] (ms[i])[k]
                  simp only [le0, lt_cast hp, Bool.and_true, cond_true, Int.toNat_natCast, at_lt hp, hr, Option.bind_some, hd, df hk0, Bool.false_or, Bool.true_and, getD_lt hp]
                  cases lessM (ms[i])[k - 1] (ms[i])[k] <;> rfl
          · rw [df hA]
            rfl
        · show f23.s1 L N _ _ (f23.l1 L N _ _ n') ms[i] ms (ms.length : Int) i ms[i] ((ms[i]).length : Int) (ms[i]).length ms = _
          unfold f23.s1 f23.s1'
          simp only [ge_cast (Nat.lt_irrefl _), cond_false]
          show f23.l0 L N _ _ n ms (ms.length : Int) (wi ((i : Int) + 1)) ms = _
          rw [wi_nat (by omega)]
      · show f23.s0 L N _ _ (f23.l0 L N _ _ n) ms (ms.length : Int) ms.length ms = _
        unfold f23.s0 f23.s0'
        simp only [ge_cast (Nat.lt_irrefl _), cond_false]
        rfl
      · rw [Nat.sub_zero]
        cases allN (fun i => rowOk ms.length (ms.getD i [])) ms.length 0 <;> rfl
theorem graphOk_mv {g : Graph} (h : graphOk g = true) : 1 ≤ g.moves.length ∧ g.moves.length ≤ 60 ∧ ∀ (i : Nat) (hi : i < g.moves.length) (k : Nat) (hk : k < (g.moves[i]).length), -4 ≤ (g.moves[i])[k].act ∧ (g.moves[i])[k].act ≤ 4 ∧ 0 ≤ (g.moves[i])[k].to ∧ (g.moves[i])[k].to < (g.moves.length : Int) := by
  unfold graphOk at h
  simp only [Bool.and_eq_true, decide_eq_true_eq] at h
  refine ⟨h.1.1, h.1.2, fun i hi k hk => ?_⟩
  have h1 := allN_get _ 0 h.2 i (by omega) (by omega)
  simp only [getD_lt hi] at h1
  have h2 := allN_get _ 0 h1 k (by omega) (by omega)
  unfold atOk mvOk at h2
  rw [getD_lt hk] at h2
  simp only [Bool.and_eq_true, decide_eq_true_eq] at h2
  exact ⟨h2.1.1.1, h2.1.1.2, h2.1.2.1, h2.1.2.2⟩
end Go.Proofs.YtffkhhblppfbfaaDoor.Ev
namespace Go.Proofs.YtffkhhblppfbfaaDoor.Ev
open Go
set_option linter.unusedVariables false
set_option linter.unusedSimpArgs false
end Go.Proofs.YtffkhhblppfbfaaDoor.Ev
namespace Go.Proofs.YtffkhhblppfbfaaDoor.Ev
open Go
set_option linter.unusedVariables false
set_option linter.unusedSimpArgs false
def upM (k : Int) (n : Nat) : List Move := (List.range n).map fun (i : Nat) => Move.mk (k + 2 * (i : Int)) (k + 2 * (i : Int) + 1)
theorem upM_len (k : Int) (n : Nat) : (upM k n).length = n := by simp [upM]
def Mk : Int → List (List Move) → Int → Prop
  | k, [], j => j = k
  | k, r :: rs, j => r = upM k r.length ∧ Mk (k + 2 * (r.length : Int)) rs j
theorem Mk.le : ∀ {k j : Int} {rs : List (List Move)}, Mk k rs j → k ≤ j
  | k, j, [], h => by have h : j = k := h; omega
  | k, j, r :: rs, h => by have := Mk.le h.2; omega
theorem Mk.snoc : ∀ {k j : Int} {rs : List (List Move)} (n : Nat), Mk k rs j → Mk k (rs ++ [upM j n]) (j + 2 * (n : Int))
  | k, j, [], n, h => by
    have h : j = k := h
    subst h
    exact ⟨by rw [upM_len], by rw [upM_len]; exact rfl⟩
  | k, j, r :: rs, n, h => ⟨h.1, Mk.snoc n h.2⟩
end Go.Proofs.YtffkhhblppfbfaaDoor.Ev
namespace Go.Proofs.YtffkhhblppfbfaaDoor.Ev
open Go
set_option linter.unusedVariables false
set_option linter.unusedSimpArgs false
def Rises (l : List Int) : Prop := l.Pairwise (· < ·)
theorem rises_ext : ∀ {a b : List Int}, Rises a → Rises b → (∀ x, x ∈ a ↔ x ∈ b) → a = b
  | [], [], _, _, _ => rfl
  | [], y :: b, _, _, h => absurd ((h y).2 (.head _)) (by simp)
  | x :: a, [], _, _, h => absurd ((h x).1 (.head _)) (by simp)
  | x :: a, y :: b, ha, hb, h => by
    have ha' := List.pairwise_cons.1 ha
    have hb' := List.pairwise_cons.1 hb
    have hxy : x = y := by
      rcases List.mem_cons.1 ((h x).1 (.head _)) with e | e
      · exact e
      · rcases List.mem_cons.1 ((h y).2 (.head _)) with e' | e'
        · exact e'.symm
        · have := hb'.1 x e; have := ha'.1 y e'; omega
    subst hxy
    refine congrArg (x :: ·) (rises_ext ha'.2 hb'.2 fun z => ?_)
    have := h z
    simp only [List.mem_cons] at this
    constructor
    · intro hz
      rcases this.1 (.inr hz) with e | e
      · have := ha'.1 z hz; omega
      · exact e
    · intro hz
      rcases this.2 (.inr hz) with e | e
      · have := hb'.1 z hz; omega
      · exact e
def Tr (l : List Bool) (t : Nat) : Prop := l.getD t false = true
theorem Tr_lt {l : List Bool} {t : Nat} (h : Tr l t) : t < l.length := by
  unfold Tr at h
  rw [List.getD_eq_getElem?_getD] at h
  by_cases hl : t < l.length
  · exact hl
  · rw [List.getElem?_eq_none (by omega)] at h; cases h
theorem Tr_set {l : List Bool} {j t : Nat} (hj : j < l.length) : Tr (l.set j true) t ↔ t = j ∨ Tr l t := by
  unfold Tr
  rw [List.getD_eq_getElem?_getD, List.getD_eq_getElem?_getD]
  by_cases h : t = j
  · subst h; rw [List.getElem?_set_self hj]; simp
  · rw [List.getElem?_set_ne (Ne.symm h)]; simp [h]
theorem Tr_replicate (n t : Nat) : ¬ Tr (List.replicate n false) t := by
  unfold Tr
  rw [List.getD_eq_getElem?_getD, List.getElem?_replicate]
  split <;> simp
def cnt : List Bool → Nat
  | [] => 0
  | b :: r => (bif b then 1 else 0) + cnt r
theorem cnt_le : ∀ l : List Bool, cnt l ≤ l.length
  | [] => Nat.le_refl _
  | b :: r => by have := cnt_le r; cases b <;> simp [cnt] <;> omega
theorem cnt_set : ∀ (l : List Bool) (j : Nat), j < l.length → l.getD j false = false → cnt (l.set j true) = cnt l + 1
  | b :: r, 0, _, h => by
    have hb : b = false := h
    subst hb
    simp [cnt]; omega
  | b :: r, j + 1, hj, h => by
    have := cnt_set r j (by simpa using hj) (by simpa using h)
    simp only [List.set_cons_succ, cnt, this]; omega
theorem cnt_replicate (n : Nat) : cnt (List.replicate n false) = 0 := by
  induction n with
  | zero => rfl
  | succ n ih => rw [List.replicate_succ]; simp [cnt, ih]
inductive Slip (ms : List (List Move)) (X : Nat → Prop) : Nat → Prop
  | base (t : Nat) (h : X t) : Slip ms X t
  | step (s t : Nat) (hs : Slip ms X s) (hl : s < ms.length) (k : Nat) (hk : k < (ms[s]).length) (ha : (ms[s])[k].act = 0) (ht : (ms[s])[k].to = (t : Int)) : Slip ms X t
theorem Slip.mono {ms : List (List Move)} {X Y : Nat → Prop} (h : ∀ t, X t → Y t) {t : Nat} (r : Slip ms X t) : Slip ms Y t := by
  induction r with
  | base t hx => exact .base t (h t hx)
  | step s t _ hl k hk ha ht ih => exact .step s t ih hl k hk ha ht
theorem Slip.iff {ms : List (List Move)} {X Y : Nat → Prop} (h : ∀ t, X t ↔ Y t) (t : Nat) : Slip ms X t ↔ Slip ms Y t := ⟨fun r => r.mono fun t hx => (h t).1 hx, fun r => r.mono fun t hx => (h t).2 hx⟩
def Leads (ms : List (List Move)) : Prop := ms.length ≤ 60 ∧ ∀ (i : Nat) (hi : i < ms.length), (ms[i]).length ≤ 1048576 ∧ ∀ (k : Nat) (hk : k < (ms[i]).length), 0 ≤ (ms[i])[k].to ∧ (ms[i])[k].to < (ms.length : Int)
theorem leads_of {g : Graph} (h : graphOk g = true) (hs : g.moves.length + gsize g.moves ≤ 1048576) : Leads g.moves := by
  obtain ⟨h1, h2, h3⟩ := graphOk_mv h
  refine ⟨h2, fun i hi => ⟨?_, fun k hk => ?_⟩⟩
  · have := gsize_row _ (List.getElem_mem hi); omega
  · have := h3 i hi k hk; exact ⟨this.2.2.1, this.2.2.2⟩
theorem Leads.nat {ms : List (List Move)} (h : Leads ms) {i : Nat} (hi : i < ms.length) {k : Nat} (hk : k < (ms[i]).length) : ∃ t : Nat, (ms[i])[k].to = (t : Int) ∧ t < ms.length := by
  obtain ⟨h1, h2⟩ := (h.2 i hi).2 k hk
  obtain ⟨t, ht⟩ := Int.eq_ofNat_of_zero_le h1
  exact ⟨t, ht, by omega⟩
def ClosedAt (ms : List (List Move)) (out : List Bool) (s n : Nat) : Prop := ∀ (hs : s < ms.length) (k : Nat) (hk : k < (ms[s]).length), k < n → Tr out s → (ms[s])[k].act = 0 → ∀ t : Nat, (ms[s])[k].to = (t : Int) → Tr out t
theorem slip2_ok (L N : Nat) (ms : List (List Move)) (x : List Bool) (hm : Leads ms) (hx : x.length = ms.length) (hL : 1048576 < L) :
    ∃ out, f45 L N ⟨ms⟩ x = some out ∧ out.length = ms.length ∧ ∀ t, Tr out t ↔ Slip ms (Tr x) t := by
  have hlim := lim_eq
  have hn := hm.1
  show ∃ out, f45.b L N some ⟨ms⟩ x = some out ∧ _
  unfold f45.b f45.b'
  have hle : decide (([] : List Bool).length + x.length ≤ lim) = true := dt (by simp only [List.length_nil]; omega)
  simp only [hle, cond_true, List.nil_append]
  have round : ∀ (m : Nat) (out0 : List Bool), out0.length = ms.length → (∀ t, Tr out0 t → Slip ms (Tr x) t) →
      ∃ st : Bool × List Bool, f45.l1 L N (fun z8 z9 z10 => f45.p1_e2 L N (fun z3 => f45.p0_e0 L N some z3) (f45.l0 L N (fun z3 => f45.p0_e0 L N some z3) m) z8 z9 z10) L false (0 : Int) ms out0 = f45.l0 L N (fun z3 => f45.p0_e0 L N some z3) m st.1 ms st.2 ∧
        st.2.length = ms.length ∧ (∀ t, Tr st.2 t → Slip ms (Tr x) t) ∧ (∀ t, Tr out0 t → Tr st.2 t) ∧ cnt out0 + (bif st.1 then 1 else 0) ≤ cnt st.2 ∧ (st.1 = false → st.2 = out0 ∧ ∀ s, ClosedAt ms st.2 s 1048577) := by
    intro m out0 h0 hs0
    obtain ⟨st, h1, h2, h3, h4, h5, h6⟩ := inv_loop (l := fun n i st => f45.l1 L N (fun z8 z9 z10 => f45.p1_e2 L N (fun z3 => f45.p0_e0 L N some z3) (f45.l0 L N (fun z3 => f45.p0_e0 L N some z3) m) z8 z9 z10) n st.1 i ms st.2) (len := ms.length)
      (K := fun st : Bool × List Bool => f45.l0 L N (fun z3 => f45.p0_e0 L N some z3) m st.1 ms st.2)
      (fun i st => st.2.length = ms.length ∧ (∀ t, Tr st.2 t → Slip ms (Tr x) t) ∧ (∀ t, Tr out0 t → Tr st.2 t) ∧ cnt out0 + (bif st.1 then 1 else 0) ≤ cnt st.2 ∧ (st.1 = false → st.2 = out0 ∧ ∀ s, s < i → ClosedAt ms st.2 s 1048577))
      (fun n i st hi ⟨p1, p2, p3, p4, p5⟩ => by
        obtain ⟨st', q1, q2, q3, q4, q5, q6⟩ := inv_loop (l := fun n' k st => f45.l2 L N (fun z16 z17 z18 z19 => f45.p2_e4 L N (fun z8 z9 z10 => f45.p1_e2 L N (fun z3 => f45.p0_e0 L N some z3) (f45.l0 L N (fun z3 => f45.p0_e0 L N some z3) m) z8 z9 z10) (f45.l1 L N (fun z8 z9 z10 => f45.p1_e2 L N (fun z3 => f45.p0_e0 L N some z3) (f45.l0 L N (fun z3 => f45.p0_e0 L N some z3) m) z8 z9 z10) n) z16 z17 z18 z19) n' st.1 (i : Int) k ms st.2) (len := (ms[i]).length)
          (K := fun st : Bool × List Bool => f45.l1 L N (fun z8 z9 z10 => f45.p1_e2 L N (fun z3 => f45.p0_e0 L N some z3) (f45.l0 L N (fun z3 => f45.p0_e0 L N some z3) m) z8 z9 z10) n st.1 ((i + 1 : Nat) : Int) ms st.2)
          (fun k st => st.2.length = ms.length ∧ (∀ t, Tr st.2 t → Slip ms (Tr x) t) ∧ (∀ t, Tr out0 t → Tr st.2 t) ∧ cnt out0 + (bif st.1 then 1 else 0) ≤ cnt st.2 ∧ (st.1 = false → st.2 = out0 ∧ (∀ s, s < i → ClosedAt ms st.2 s 1048577) ∧ ClosedAt ms st.2 i k))
          (fun n' k st hk ⟨r1, r2, r3, r4, r5⟩ => by
            show ∃ s', f45.s2 L N _ (f45.l2 L N _ n') st.1 (i : Int) k ms st.2 = _ ∧ _
            unfold f45.s2 f45.s2'
            obtain ⟨t, ht, htl⟩ := hm.nat hi hk
            have hrow := (hm.2 i hi).1
            simp only [le0, lt_cast hi, lt_cast hk, lt_cast (show i < st.2.length by omega), Bool.and_true, Bool.true_and, cond_true, Int.toNat_natCast, at_lt hi, at_lt hk, ht, lt_cast (show t < st.2.length by omega), atD]
            unfold f45.j0'
            simp only [le0, lt_cast (show t < st.2.length by omega), Bool.and_true, cond_true, Int.toNat_natCast, wi_nat (show k < 9223372036854775807 by omega)]
            have stay : ¬ (Tr st.2 i ∧ (ms[i])[k].act = 0 ∧ ¬ Tr st.2 t) → ∃ s' : Bool × List Bool, f45.l2 L N (fun z16 z17 z18 z19 => f45.p2_e4 L N (fun z8 z9 z10 => f45.p1_e2 L N (fun z3 => f45.p0_e0 L N some z3) (f45.l0 L N (fun z3 => f45.p0_e0 L N some z3) m) z8 z9 z10) (f45.l1 L N (fun z8 z9 z10 => f45.p1_e2 L N (fun z3 => f45.p0_e0 L N some z3) (f45.l0 L N (fun z3 => f45.p0_e0 L N some z3) m) z8 z9 z10) n) z16 z17 z18 z19) n' st.1 (i : Int) ((k + 1 : Nat) : Int) ms st.2 = f45.l2 L N (fun z16 z17 z18 z19 => f45.p2_e4 L N (fun z8 z9 z10 => f45.p1_e2 L N (fun z3 => f45.p0_e0 L N some z3) (f45.l0 L N (fun z3 => f45.p0_e0 L N some z3) m) z8 z9 z10) (f45.l1 L N (fun z8 z9 z10 => f45.p1_e2 L N (fun z3 => f45.p0_e0 L N some z3) (f45.l0 L N (fun z3 => f45.p0_e0 L N some z3) m) z8 z9 z10) n) z16 z17 z18 z19) n' s'.1 (i : Int) ((k + 1 : Nat) : Int) ms s'.2 ∧
                (s'.2.length = ms.length ∧ (∀ t, Tr s'.2 t → Slip ms (Tr x) t) ∧ (∀ t, Tr out0 t → Tr s'.2 t) ∧ cnt out0 + (bif s'.1 then 1 else 0) ≤ cnt s'.2 ∧ (s'.1 = false → s'.2 = out0 ∧ (∀ s, s < i → ClosedAt ms s'.2 s 1048577) ∧ ClosedAt ms s'.2 i (k + 1))) := by
              intro hno
              refine ⟨st, rfl, r1, r2, r3, r4, fun hst => ?_⟩
              obtain ⟨u1, u2, u3⟩ := r5 hst
              refine ⟨u1, u2, fun hs k' hk' hlt htr hact t' ht' => ?_⟩
              by_cases hkk : k' = k
              · subst hkk
                rw [ht] at ht'
                obtain rfl : t = t' := by omega
                by_cases hT : Tr st.2 t
                · exact hT
                · exact absurd ⟨htr, hact, hT⟩ hno
              · exact u3 hs k' hk' (by omega) htr hact t' ht'
            cases hi2 : st.2.getD i false
            · simp only [cond_false]
              exact stay fun h => by have := h.1; unfold Tr at this; rw [hi2] at this; cases this
            · simp only [cond_true]
              by_cases ha : (ms[i])[k].act = 0
              · have hb : ((ms[i])[k].act == 0) = true := by simpa using ha
                rw [hb]
                simp only [cond_true]
                cases ht2 : st.2.getD t false
                · simp only [Bool.not_false, cond_true]
                  have hTi : Tr st.2 i := hi2
                  refine ⟨(true, st.2.set t true), rfl, by simp [r1], fun t' ht' => ?_, fun t' ht' => ?_, ?_, fun h => by cases h⟩
                  · rcases (Tr_set (by omega)).1 ht' with rfl | h
                    · exact .step i t' (r2 i hTi) hi k hk ha ht
                    · exact r2 t' h
                  · exact (Tr_set (by omega)).2 (.inr (r3 t' ht'))
                  · show cnt out0 + 1 ≤ cnt (st.2.set t true)
                    rw [cnt_set _ _ (by omega) ht2]
                    cases h9 : st.1 <;> rw [h9] at r4 <;> simp at r4 <;> omega
                · simp only [Bool.not_true, cond_false]
                  exact stay fun h => h.2.2 ht2
              · have hb : ((ms[i])[k].act == 0) = false := by simpa using ha
                rw [hb]
                simp only [cond_false]
                exact stay fun h => ha h.2.1)
          (fun n' st _ => by
            show f45.s2 L N _ (f45.l2 L N _ n') st.1 (i : Int) (ms[i]).length ms st.2 = _
            unfold f45.s2 f45.s2'
            simp only [le0, lt_cast hi, Bool.and_true, cond_true, Int.toNat_natCast, at_lt hi, ge_cast (Nat.lt_irrefl _), cond_false]
            show f45.l1 L N _ n st.1 (wi ((i : Int) + 1)) ms st.2 = _
            rw [wi_nat (by omega)])
          L 0 st (by have := (hm.2 i hi).1; omega) (by omega) ⟨p1, p2, p3, p4, fun h => ⟨(p5 h).1, (p5 h).2, fun _ _ _ h' => by omega⟩⟩
        refine ⟨st', ?_, q2, q3, q4, q5, fun h => ⟨(q6 h).1, fun s hs => ?_⟩⟩
        · show f45.s1 L N _ (f45.l1 L N _ n) st.1 i ms st.2 = _
          unfold f45.s1 f45.s1'
          simp only [lt_cast (show i < st.2.length by omega), cond_true]
          exact q1
        · by_cases hsi : s = i
          · subst hsi
            intro hs' k hk hlt
            exact (q6 h).2.2 hs' k hk hk
          · exact (q6 h).2.1 s (by omega))
      (fun n st hP => by
        show f45.s1 L N _ (f45.l1 L N _ n) st.1 ms.length ms st.2 = _
        unfold f45.s1 f45.s1'
        rw [hP.1]
        simp only [ge_cast (Nat.lt_irrefl _), cond_false]
        rfl)
      L 0 (false, out0) (by omega) (by omega) ⟨h0, hs0, fun t h => h, by simp, fun _ => ⟨rfl, fun s h => by omega⟩⟩
    exact ⟨st, h1, h2, h3, h4, h5, fun h => ⟨(h6 h).1, fun s hs k hk hlt => (h6 h).2 s hs hs k hk hlt⟩⟩
  have all : ∀ (m : Nat) (out0 : List Bool), out0.length = ms.length → ms.length + 1 - cnt out0 < m → (∀ t, Tr out0 t → Slip ms (Tr x) t) → (∀ t, Tr x t → Tr out0 t) →
      ∃ out, f45.l0 L N (fun z3 => f45.p0_e0 L N some z3) m true ms out0 = some out ∧ out.length = ms.length ∧ ∀ t, Tr out t ↔ Slip ms (Tr x) t := by
    intro m
    induction m with
    | zero => intro out0 _ h; omega
    | succ m ih =>
      intro out0 h0 hc hs0 hb0
      have hcl := cnt_le out0
      obtain ⟨st, h1, h2, h3, h4, h5, h6⟩ := round m out0 h0 hs0
      have hcl2 := cnt_le st.2
      show ∃ out, f45.s0 L N _ (f45.l0 L N _ m) true ms out0 = some out ∧ _
      unfold f45.s0 f45.s0'
      simp only [cond_true]
      rw [h1]
      cases hst : st.1
      · obtain ⟨e1, e2⟩ := h6 hst
        obtain ⟨m', rfl⟩ : ∃ m', m = m' + 1 := ⟨m - 1, by omega⟩
        refine ⟨st.2, rfl, h2, fun t => ⟨h3 t, fun r => ?_⟩⟩
        induction r with
        | base t hx => exact h4 t (hb0 t hx)
        | step s t _ hl k hk ha ht ihr => exact e2 s hl k hk (by have := (hm.2 s hl).1; omega) ihr ha t ht
      · rw [hst] at h5
        simp only [cond_true] at h5
        exact ih st.2 h2 (by omega) h3 fun t hx => h4 t (hb0 t hx)
  exact all L x hx (by omega) (fun t h => .base t h) fun t h => h
end Go.Proofs.YtffkhhblppfbfaaDoor.Ev
namespace Go.Proofs.YtffkhhblppfbfaaDoor.Ev
open Go
set_option linter.unusedVariables false
set_option linter.unusedSimpArgs false
def QOk (ms : List (List Move)) (seen : List Bool) (q : List Int) : Prop := seen.length = ms.length ∧ (∀ v ∈ q, ∃ t : Nat, v = (t : Int) ∧ Tr seen t) ∧ (∀ t : Nat, Tr seen t → (t : Int) ∈ q) ∧ q.length = cnt seen ∧ q.Nodup
theorem QOk.add {ms : List (List Move)} {seen : List Bool} {q : List Int} (h : QOk ms seen q) {t : Nat} (ht : t < ms.length) (hf : seen.getD t false = false) : QOk ms (seen.set t true) (q ++ [(t : Int)]) := by
  obtain ⟨h1, h2, h3, h4, h5⟩ := h
  refine ⟨by simp [h1], fun v hv => ?_, fun t' ht' => ?_, ?_, ?_⟩
  · rcases List.mem_append.1 hv with hv | hv
    · obtain ⟨s, rfl, hs⟩ := h2 v hv
      exact ⟨s, rfl, (Tr_set (by omega)).2 (.inr hs)⟩
    · obtain rfl := List.mem_singleton.1 hv
      exact ⟨t, rfl, (Tr_set (by omega)).2 (.inl rfl)⟩
  · rcases (Tr_set (by omega)).1 ht' with rfl | h
    · exact List.mem_append_right _ (List.mem_singleton.2 rfl)
    · exact List.mem_append_left _ (h3 t' h)
  · rw [List.length_append, cnt_set _ _ (by omega) hf, h4]; rfl
  · refine List.nodup_append.2 ⟨h5, by simp, fun a ha b hb e => ?_⟩
    obtain rfl := List.mem_singleton.1 hb
    obtain ⟨s, hs, hT⟩ := h2 a ha
    obtain rfl : s = t := by omega
    unfold Tr at hT
    rw [hf] at hT; cases hT
theorem QOk.len {ms : List (List Move)} {seen : List Bool} {q : List Int} (h : QOk ms seen q) : q.length ≤ ms.length := by
  have := cnt_le seen
  obtain ⟨h1, -, -, h4, -⟩ := h
  omega
theorem sortI_rises {q : List Int} (h : q.Nodup) : Rises (sortI q) := by
  have h1 : (sortI q).Pairwise fun a b => decide (a ≤ b) = true := List.pairwise_mergeSort (fun a b c hab hbc => by simp only [decide_eq_true_eq] at *; omega) (fun a b => by simp only [Bool.or_eq_true, decide_eq_true_eq]; omega) q
  have h2 : (sortI q).Nodup := (List.mergeSort_perm q _).nodup_iff.2 h
  exact (h1.and h2).imp fun {a b} hab => by have := of_decide_eq_true hab.1; have := hab.2; omega
theorem slip1_ok (L N : Nat) (ms : List (List Move)) (list : List Int) (hm : Leads ms) (hl : ∀ v ∈ list, 0 ≤ v ∧ v < (ms.length : Int)) (hLl : list.length < L) (hll : list.length ≤ lim) (hL : 1048576 < L) :
    ∃ q, f64 L N ⟨ms⟩ list = some q ∧ q.length ≤ ms.length ∧ (∀ v ∈ q, 0 ≤ v ∧ v < (ms.length : Int)) ∧ (∀ t : Nat, (t : Int) ∈ q ↔ Slip ms (fun s => (s : Int) ∈ list) t) ∧ Rises q := by
  have hlim := lim_eq
  have hn := hm.1
  show ∃ q, f64.b L N some ⟨ms⟩ list = some q ∧ _
  unfold f64.b f64.b'
  have h0 : (decide ((0 : Int) ≤ (ms.length : Int)) && decide ((ms.length : Int) ≤ (lim : Int))) = true := by rw [le0, dt (by omega)]; rfl
  simp only [h0, cond_true]
  have work : ∀ (m k : Nat) (seen : List Bool) (q : List Int), k ≤ q.length → ms.length + 1 - k < m → QOk ms seen q → (∀ v ∈ q, ∃ t : Nat, v = (t : Int) ∧ Slip ms (fun s => (s : Int) ∈ list) t) → (∀ v ∈ list, v ∈ q) →
      (∀ (j : Nat) (hj : j < q.length), j < k → ∀ s : Nat, q[j] = (s : Int) → ∀ (hs : s < ms.length) (i : Nat) (hi : i < (ms[s]).length), (ms[s])[i].act = 0 → ∀ t : Nat, (ms[s])[i].to = (t : Int) → Tr seen t) →
      ∃ r, f64.l1 L N (fun z19 => f64.p1_e2 L N some z19) m (k : Int) ms seen q = some r ∧ r.length ≤ ms.length ∧ (∀ v ∈ r, 0 ≤ v ∧ v < (ms.length : Int)) ∧ (∀ t : Nat, (t : Int) ∈ r ↔ Slip ms (fun s => (s : Int) ∈ list) t) ∧ Rises r := by
    intro m
    induction m with
    | zero => intro k seen q _ h; omega
    | succ m ih =>
      intro k seen q hk hmk hq hsl hba hpr
      have hql := hq.len
      show ∃ r, f64.s1 L N _ (f64.l1 L N _ m) (k : Int) ms seen q = some r ∧ _
      unfold f64.s1 f64.s1'
      by_cases hlt : k < q.length
      · obtain ⟨s, hs, hTs⟩ := hq.2.1 _ (List.getElem_mem hlt)
        have hsn : s < ms.length := by have := Tr_lt hTs; rw [hq.1] at this; exact this
        have hrow := (hm.2 s hsn).1
        simp only [lt_cast hlt, le0, Bool.and_true, cond_true, Int.toNat_natCast, at_lt hlt, hs, lt_cast hsn, at_lt hsn]
        obtain ⟨t0, hst0, hslip0⟩ := hsl _ (List.getElem_mem hlt)
        obtain rfl : s = t0 := by rw [hs] at hst0; omega
        obtain ⟨st, g1, g2, g3, g4, g5, g6⟩ := inv_loop (l := fun n' i st => f64.l2 L N (fun z27 z28 z29 z30 => f64.p2_e4 L N (fun z19 => f64.p1_e2 L N some z19) (f64.l1 L N (fun z19 => f64.p1_e2 L N some z19) m) z27 z28 z29 z30) n' (k : Int) ms[s] ((ms[s]).length : Int) i ms st.1 st.2) (len := (ms[s]).length)
          (K := fun st : List Bool × List Int => f64.l1 L N (fun z19 => f64.p1_e2 L N some z19) m ((k + 1 : Nat) : Int) ms st.1 st.2)
          (fun i st => QOk ms st.1 st.2 ∧ (∀ v ∈ st.2, ∃ t : Nat, v = (t : Int) ∧ Slip ms (fun s => (s : Int) ∈ list) t) ∧ (∀ j : Nat, j < q.length → st.2[j]? = q[j]?) ∧ (∀ t, Tr seen t → Tr st.1 t) ∧ ∀ (i' : Nat) (hi' : i' < (ms[s]).length), i' < i → (ms[s])[i'].act = 0 → ∀ t : Nat, (ms[s])[i'].to = (t : Int) → Tr st.1 t)
          (fun n' i st hi ⟨r1, r2, r3, r4, r5⟩ => by
            show ∃ s', f64.s2 L N _ (f64.l2 L N _ n') (k : Int) ms[s] ((ms[s]).length : Int) i ms st.1 st.2 = _ ∧ _
            unfold f64.s2 f64.s2'
            obtain ⟨t, ht, htl⟩ := hm.nat hsn hi
            have hsl1 := r1.1
            simp only [le0, lt_cast hi, Bool.and_true, Bool.true_and, cond_true, Int.toNat_natCast, at_lt hi, ht, lt_cast (show t < st.1.length by omega), atD]
            unfold f64.j0'
            simp only [le0, lt_cast (show t < st.1.length by omega), Bool.and_true, cond_true, Int.toNat_natCast, wi_nat (show i < 9223372036854775807 by omega)]
            have stay : ¬ ((ms[s])[i].act = 0 ∧ ¬ Tr st.1 t) → (QOk ms st.1 st.2 ∧ (∀ v ∈ st.2, ∃ t : Nat, v = (t : Int) ∧ Slip ms (fun s => (s : Int) ∈ list) t) ∧ (∀ j : Nat, j < q.length → st.2[j]? = q[j]?) ∧ (∀ t, Tr seen t → Tr st.1 t) ∧ ∀ (i' : Nat) (hi' : i' < (ms[s]).length), i' < i + 1 → (ms[s])[i'].act = 0 → ∀ t : Nat, (ms[s])[i'].to = (t : Int) → Tr st.1 t) := by
              intro hno
              refine ⟨r1, r2, r3, r4, fun i' hi' hlt' ha' t' ht' => ?_⟩
              by_cases he : i' = i
              · subst he
                rw [ht] at ht'
                obtain rfl : t = t' := by omega
                by_cases hT : Tr st.1 t
                · exact hT
                · exact absurd ⟨ha', hT⟩ hno
              · exact r5 i' hi' (by omega) ha' t' ht'
            by_cases ha : (ms[s])[i].act = 0
            · have hb : ((ms[s])[i].act == 0) = true := by simpa using ha
              rw [hb]
              simp only [cond_true]
              cases ht2 : st.1.getD t false
              · have hqq := r1.len
                have hle : decide (st.2.length + ([(t : Int)] : List Int).length ≤ lim) = true := dt (by simp only [List.length_cons, List.length_nil]; omega)
                simp only [Bool.not_false, cond_true, hle]
                refine ⟨(st.1.set t true, st.2 ++ [(t : Int)]), rfl, r1.add htl ht2, fun v hv => ?_, fun j hj => ?_, fun t' ht' => (Tr_set (by omega)).2 (.inr (r4 t' ht')), fun i' hi' hlt' ha' t' ht' => ?_⟩
                · rcases List.mem_append.1 hv with hv | hv
                  · exact r2 v hv
                  · obtain rfl := List.mem_singleton.1 hv
                    exact ⟨t, rfl, .step s t hslip0 hsn i hi ha ht⟩
                · have hjl : j < st.2.length := by
                    have := r3 j hj
                    rw [List.getElem?_eq_getElem hj] at this
                    exact (List.getElem?_eq_some_iff.1 this).1
                  show (st.2 ++ [(t : Int)])[j]? = q[j]?
                  rw [List.getElem?_append_left hjl]; exact r3 j hj
                · by_cases he : i' = i
                  · subst he
                    rw [ht] at ht'
                    obtain rfl : t = t' := by omega
                    exact (Tr_set (by omega)).2 (.inl rfl)
                  · exact (Tr_set (by omega)).2 (.inr (r5 i' hi' (by omega) ha' t' ht'))
              · simp only [Bool.not_true, cond_false]
                exact ⟨st, rfl, stay fun h => h.2 ht2⟩
            · have hb : ((ms[s])[i].act == 0) = false := by simpa using ha
              rw [hb]
              simp only [cond_false]
              exact ⟨st, rfl, stay fun h => ha h.1⟩)
          (fun n' st _ => by
            show f64.s2 L N _ (f64.l2 L N _ n') (k : Int) ms[s] ((ms[s]).length : Int) (ms[s]).length ms st.1 st.2 = _
            unfold f64.s2 f64.s2'
            simp only [ge_cast (Nat.lt_irrefl _), cond_false]
            show f64.l1 L N _ m (wi ((k : Int) + 1)) ms st.1 st.2 = _
            rw [wi_nat (by omega)])
          L 0 (seen, q) (by omega) (by omega) ⟨hq, hsl, fun _ _ => rfl, fun _ h => h, fun _ _ h => by omega⟩
        have hlen : q.length ≤ st.2.length := by
          by_cases h0 : q.length = 0
          · omega
          · have := g4 (q.length - 1) (by omega)
            rw [List.getElem?_eq_getElem (show q.length - 1 < q.length by omega)] at this
            have := (List.getElem?_eq_some_iff.1 this).1
            omega
        refine (fun ⟨r, h1, h2⟩ => ⟨r, g1.trans h1, h2⟩ : (∃ r, _ = some r ∧ _) → ∃ r, _ = some r ∧ _) (ih (k + 1) st.1 st.2 (by omega) (by omega) g2 g3 (fun v hv => ?_) (fun j hj hjk s' hs' hsl' i hi ha t ht => ?_))
        · obtain ⟨j, hj, rfl⟩ := List.mem_iff_getElem.1 (hba v hv)
          have := g4 j hj
          rw [List.getElem?_eq_getElem hj] at this
          exact List.mem_of_getElem? this
        · by_cases hjk' : j = k
          · subst hjk'
            have := g4 j hlt
            rw [List.getElem?_eq_getElem hlt, List.getElem?_eq_getElem hj] at this
            have h9 : st.2[j] = q[j] := Option.some.inj this
            rw [hs', hs] at h9
            obtain rfl : s' = s := by omega
            exact g6 i hi hi ha t ht
          · have hjq : j < q.length := by omega
            have := g4 j hjq
            rw [List.getElem?_eq_getElem hjq, List.getElem?_eq_getElem hj] at this
            have h9 : st.2[j] = q[j] := Option.some.inj this
            exact g5 t (hpr j hjq (by omega) s' (by rw [← h9]; exact hs') hsl' i hi ha t ht)
      · have hkl : k = q.length := by omega
        subst hkl
        simp only [ge_cast (Nat.lt_irrefl _), cond_false]
        have hfs : fsort q = some () := by unfold fsort; rw [dt (by omega)]; rfl
        refine ⟨sortI q, ?_, by rw [sortI_length]; exact hql, fun v hv => ?_, fun t => ?_, sortI_rises hq.2.2.2.2⟩
        · show ((fsort q).bind fun _ => some (sortI q)) = _
          rw [hfs]; rfl
        · obtain ⟨t, rfl, hT⟩ := hq.2.1 v ((sortI_mem q v).1 hv)
          have := Tr_lt hT
          rw [hq.1] at this
          omega
        · rw [sortI_mem]
          constructor
          · intro h
            obtain ⟨t', h1, h2⟩ := hsl _ h
            obtain rfl : t = t' := by omega
            exact h2
          · intro r
            refine hq.2.2.1 t ?_
            induction r with
            | base t hx =>
              obtain ⟨t', h1, h2⟩ := hq.2.1 _ (hba _ hx)
              obtain rfl : t = t' := by omega
              exact h2
            | step s t _ hs i hi ha ht ihr =>
              obtain ⟨j, hj, hjs⟩ := List.mem_iff_getElem.1 (hq.2.2.1 s ihr)
              exact hpr j hj hj s hjs hs i hi ha t ht
  obtain ⟨st, g1, g2, g3, g4⟩ := inv_loop (l := fun n i st => f64.l0 L N (fun z6 z7 z8 => f64.p0_e0 L N some z6 z7 z8) n list (list.length : Int) i ms st.1 st.2) (len := list.length)
    (K := fun st : List Bool × List Int => f64.l1 L N (fun z19 => f64.p1_e2 L N some z19) L (0 : Int) ms st.1 st.2)
    (fun i st => QOk ms st.1 st.2 ∧ (∀ v ∈ st.2, v ∈ list) ∧ ∀ (j : Nat) (hj : j < list.length), j < i → list[j] ∈ st.2)
    (fun n i st hi ⟨r1, r2, r3⟩ => by
      show ∃ s', f64.s0 L N _ (f64.l0 L N _ n) list (list.length : Int) i ms st.1 st.2 = _ ∧ _
      unfold f64.s0 f64.s0'
      obtain ⟨h1, h2⟩ := hl _ (List.getElem_mem hi)
      obtain ⟨t, ht⟩ := Int.eq_ofNat_of_zero_le h1
      have htl : t < ms.length := by omega
      have hsl1 := r1.1
      have hqq := r1.len
      have hle : decide (st.2.length + ([(t : Int)] : List Int).length ≤ lim) = true := dt (by simp only [List.length_cons, List.length_nil]; omega)
      simp only [le0, lt_cast hi, Bool.and_true, Bool.true_and, cond_true, Int.toNat_natCast, at_lt hi, ht, lt_cast (show t < st.1.length by omega), atD, hle, wi_nat (show i < 9223372036854775807 by omega)]
      cases ht2 : st.1.getD t false
      · simp only [Bool.not_false, cond_true]
        refine ⟨(st.1.set t true, st.2 ++ [(t : Int)]), rfl, r1.add htl ht2, fun v hv => ?_, fun j hj hji => ?_⟩
        · rcases List.mem_append.1 hv with hv | hv
          · exact r2 v hv
          · obtain rfl := List.mem_singleton.1 hv
            rw [← ht]; exact List.getElem_mem hi
        · by_cases he : j = i
          · subst he
            rw [ht]; exact List.mem_append_right _ (List.mem_singleton.2 rfl)
          · exact List.mem_append_left _ (r3 j hj (by omega))
      · simp only [Bool.not_true, cond_false]
        refine ⟨st, rfl, r1, r2, fun j hj hji => ?_⟩
        by_cases he : j = i
        · subst he
          rw [ht]; exact r1.2.2.1 t ht2
        · exact r3 j hj (by omega))
    (fun n st _ => by
      show f64.s0 L N _ (f64.l0 L N _ n) list (list.length : Int) list.length ms st.1 st.2 = _
      unfold f64.s0 f64.s0'
      simp only [ge_cast (Nat.lt_irrefl _), cond_false]
      rfl)
    L 0 (List.replicate ms.length false, []) (by omega) (by omega)
    ⟨⟨by simp, fun v hv => by simp at hv, fun t h => absurd h (Tr_replicate _ t), by rw [cnt_replicate]; rfl, List.nodup_nil⟩, fun v hv => by simp at hv, fun _ _ h => by omega⟩
  have e0 : ((ms.length : Int)).toNat = ms.length := rfl
  rw [e0]
  refine (show ∃ q, _ = some q ∧ _ from ?_)
  have h1 := work L 0 st.1 st.2 (by omega) (by omega) g2 (fun v hv => by
    obtain ⟨t, rfl, -⟩ := g2.2.1 v hv
    exact ⟨t, rfl, .base t (g3 _ hv)⟩) (fun v hv => by
    obtain ⟨j, hj, rfl⟩ := List.mem_iff_getElem.1 hv
    exact g4 j hj hj) (fun _ _ h => by omega)
  obtain ⟨r, h2, h3⟩ := h1
  exact ⟨r, g1.trans h2, h3⟩
end Go.Proofs.YtffkhhblppfbfaaDoor.Ev
namespace Go.Proofs.YtffkhhblppfbfaaDoor.Ev
open Go
set_option linter.unusedVariables false
set_option linter.unusedSimpArgs false
end Go.Proofs.YtffkhhblppfbfaaDoor.Ev
namespace Go.Proofs.YtffkhhblppfbfaaDoor.Ev
open Go
set_option linter.unusedVariables false
set_option linter.unusedSimpArgs false
def StepX (ms : List (List Move)) (X : Nat → Prop) (a : Int) (t : Nat) : Prop := ∃ s, X s ∧ ∃ (hs : s < ms.length) (k : Nat) (hk : k < (ms[s]).length), (ms[s])[k].act = a ∧ (ms[s])[k].to = (t : Int)
theorem StepX.iff {ms : List (List Move)} {X Y : Nat → Prop} (h : ∀ t, X t ↔ Y t) (a : Int) (t : Nat) : StepX ms X a t ↔ StepX ms Y a t :=
  ⟨fun ⟨s, hx, r⟩ => ⟨s, (h s).1 hx, r⟩, fun ⟨s, hx, r⟩ => ⟨s, (h s).2 hx, r⟩⟩
theorem after_ok (L N : Nat) (ms : List (List Move)) (set : List Int) (a : Int) (hm : Leads ms) (hs : set.length ≤ ms.length) (hr : ∀ v ∈ set, 0 ≤ v ∧ v < (ms.length : Int)) (hL : 268435456 ≤ L) :
    ∃ q, f36 L N ⟨ms⟩ set a = some q ∧ q.length ≤ ms.length ∧ (∀ v ∈ q, 0 ≤ v ∧ v < (ms.length : Int)) ∧ (∀ t : Nat, (t : Int) ∈ q ↔ Slip ms (StepX ms (fun s => (s : Int) ∈ set) a) t) ∧ Rises q := by
  have hlim := lim_eq
  have hn := hm.1
  show ∃ q, f36.b L N some ⟨ms⟩ set a = some q ∧ _
  unfold f36.b f36.b'
  obtain ⟨to, g1, g2, g3⟩ := inv_loop (l := fun n i to => f36.l0 L N (fun z6 z7 => f36.p0_e0 L N some z6 z7) n a set (set.length : Int) i ms to) (len := set.length)
    (K := fun to : List Int => f36.p0_e0 L N some ms to)
    (fun i to => to.length ≤ i * 1048576 ∧ ∀ v : Int, v ∈ to ↔ ∃ (j : Nat) (hj : j < set.length), j < i ∧ ∃ s : Nat, set[j] = (s : Int) ∧ ∃ (hs : s < ms.length) (k : Nat) (hk : k < (ms[s]).length), (ms[s])[k].act = a ∧ (ms[s])[k].to = v)
    (fun n i to hi ⟨p1, p2⟩ => by
      show ∃ s', f36.s0 L N _ (f36.l0 L N _ n) a set (set.length : Int) i ms to = _ ∧ _
      unfold f36.s0 f36.s0'
      obtain ⟨h1, h2⟩ := hr _ (List.getElem_mem hi)
      obtain ⟨s, hse⟩ := Int.eq_ofNat_of_zero_le h1
      have hsn : s < ms.length := by omega
      have hrow := (hm.2 s hsn).1
      simp only [le0, lt_cast hi, Bool.and_true, cond_true, Int.toNat_natCast, at_lt hi, hse, lt_cast hsn, at_lt hsn]
      obtain ⟨to', q1, q2, q3⟩ := inv_loop (l := fun n' k to => f36.l1 L N (fun z17 z18 z19 z20 z21 z22 => f36.p1_e2 L N (fun z6 z7 => f36.p0_e0 L N some z6 z7) (f36.l0 L N (fun z6 z7 => f36.p0_e0 L N some z6 z7) n) z17 z18 z19 z20 z21 z22) n' a set (set.length : Int) (i : Int) ms[s] ((ms[s]).length : Int) k ms to) (len := (ms[s]).length)
        (K := fun to : List Int => f36.l0 L N (fun z6 z7 => f36.p0_e0 L N some z6 z7) n a set (set.length : Int) ((i + 1 : Nat) : Int) ms to)
        (fun k to' => to'.length ≤ i * 1048576 + k ∧ ∀ v : Int, v ∈ to' ↔ (v ∈ to ∨ ∃ (k' : Nat) (hk' : k' < (ms[s]).length), k' < k ∧ (ms[s])[k'].act = a ∧ (ms[s])[k'].to = v))
        (fun n' k to' hk ⟨r1, r2⟩ => by
          show ∃ s', f36.s1 L N _ (f36.l1 L N _ n') a set (set.length : Int) (i : Int) ms[s] ((ms[s]).length : Int) k ms to' = _ ∧ _
          unfold f36.s1 f36.s1'
          have hle : decide (to'.length + ([(ms[s])[k].to] : List Int).length ≤ lim) = true := dt (by simp only [List.length_cons, List.length_nil]; omega)
          simp only [le0, lt_cast hk, Bool.and_true, cond_true, Int.toNat_natCast, at_lt hk, hle, wi_nat (show k < 9223372036854775807 by omega)]
          by_cases ha : (ms[s])[k].act = a
          · have hb : ((ms[s])[k].act == a) = true := by simpa using ha
            rw [hb]
            simp only [cond_true]
            refine ⟨to' ++ [(ms[s])[k].to], rfl, by simp only [List.length_append, List.length_cons, List.length_nil]; omega, fun v => ?_⟩
            rw [List.mem_append, r2 v, List.mem_singleton]
            constructor
            · rintro ((h | ⟨k', hk', hlt, h⟩) | h)
              · exact .inl h
              · exact .inr ⟨k', hk', by omega, h⟩
              · exact .inr ⟨k, hk, by omega, ha, h.symm⟩
            · rintro (h | ⟨k', hk', hlt, h1, h2⟩)
              · exact .inl (.inl h)
              · by_cases he : k' = k
                · subst he; exact .inr h2.symm
                · exact .inl (.inr ⟨k', hk', by omega, h1, h2⟩)
          · have hb : ((ms[s])[k].act == a) = false := by simpa using ha
            rw [hb]
            simp only [cond_false]
            refine ⟨to', rfl, by omega, fun v => ?_⟩
            rw [r2 v]
            constructor
            · rintro (h | ⟨k', hk', hlt, h⟩)
              · exact .inl h
              · exact .inr ⟨k', hk', by omega, h⟩
            · rintro (h | ⟨k', hk', hlt, h1, h2⟩)
              · exact .inl h
              · by_cases he : k' = k
                · subst he; exact absurd h1 ha
                · exact .inr ⟨k', hk', by omega, h1, h2⟩)
        (fun n' to' _ => by
          show f36.s1 L N _ (f36.l1 L N _ n') a set (set.length : Int) (i : Int) ms[s] ((ms[s]).length : Int) (ms[s]).length ms to' = _
          unfold f36.s1 f36.s1'
          simp only [ge_cast (Nat.lt_irrefl _), cond_false]
          show f36.l0 L N _ n a set (set.length : Int) (wi ((i : Int) + 1)) ms to' = _
          rw [wi_nat (by omega)])
        L 0 to (by omega) (by omega) ⟨by rw [Nat.add_zero]; exact p1, fun v => ⟨fun h => .inl h, fun h => by
          rcases h with h | ⟨k', _, hlt, -⟩
          · exact h
          · omega⟩⟩
      refine ⟨to', q1, by omega, fun v => ?_⟩
      rw [q3 v, p2 v]
      constructor
      · rintro (⟨j, hj, hlt, h⟩ | ⟨k', hk', -, h1, h2⟩)
        · exact ⟨j, hj, by omega, h⟩
        · exact ⟨i, hi, by omega, s, hse, hsn, k', hk', h1, h2⟩
      · rintro ⟨j, hj, hlt, s', hs', hsl', k', hk', h1, h2⟩
        by_cases he : j = i
        · subst he
          rw [hse] at hs'
          obtain rfl : s = s' := by omega
          exact .inr ⟨k', hk', hk', h1, h2⟩
        · exact .inl ⟨j, hj, by omega, s', hs', hsl', k', hk', h1, h2⟩)
    (fun n to _ => by
      show f36.s0 L N _ (f36.l0 L N _ n) a set (set.length : Int) set.length ms to = _
      unfold f36.s0 f36.s0'
      simp only [ge_cast (Nat.lt_irrefl _), cond_false])
    L 0 [] (by omega) (by omega) ⟨by simp, fun v => ⟨fun h => by simp at h, fun ⟨_, _, h, _⟩ => by omega⟩⟩
  have hto : ∀ v ∈ to, 0 ≤ v ∧ v < (ms.length : Int) := fun v hv => by
    obtain ⟨j, hj, -, s, -, hsn, k, hk, -, rfl⟩ := (g3 v).1 hv
    exact (hm.2 s hsn).2 k hk
  obtain ⟨q, e1, e2, e3, e4, e5⟩ := slip1_ok L N ms to hm hto (by omega) (by omega) (by omega)
  refine ⟨q, g1.trans ?_, e2, e3, fun t => ?_, e5⟩
  · show ((f64 L N ⟨ms⟩ to).bind fun y => some y) = _
    rw [e1]; rfl
  · rw [e4 t]
    refine Slip.iff (fun t => ?_) t
    rw [g3]
    constructor
    · rintro ⟨j, hj, -, s, hs, hsl, k, hk, h1, h2⟩
      exact ⟨s, by show (s : Int) ∈ set; rw [← hs]; exact List.getElem_mem hj, hsl, k, hk, h1, h2⟩
    · rintro ⟨s, hx, hsl, k, hk, h1, h2⟩
      obtain ⟨j, hj, hjs⟩ := List.mem_iff_getElem.1 hx
      exact ⟨j, hj, hj, s, hjs, hsl, k, hk, h1, h2⟩
theorem do8_ok (L N : Nat) (ms : List (List Move)) (x : List Bool) (a : Int) (hm : Leads ms) (hx : x.length = ms.length) (hL : 268435456 ≤ L) :
    ∃ out, f19 L N ⟨ms⟩ x a = some out ∧ out.length = ms.length ∧ ∀ t, Tr out t ↔ Slip ms (StepX ms (Tr x) a) t := by
  have hlim := lim_eq
  have hn := hm.1
  show ∃ out, f19.b L N some ⟨ms⟩ x a = some out ∧ _
  unfold f19.b f19.b'
  have h0 : (decide ((0 : Int) ≤ (x.length : Int)) && decide ((x.length : Int) ≤ (lim : Int))) = true := by rw [le0, dt (by omega)]; rfl
  simp only [h0, cond_true]
  obtain ⟨out, g1, g2, g3⟩ := inv_loop (l := fun n i out => f19.l0 L N (fun z5 z6 => f19.p0_e0 L N some z5 z6) n x a i ms out) (len := x.length)
    (K := fun out : List Bool => f19.p0_e0 L N some ms out)
    (fun i out => out.length = ms.length ∧ ∀ t : Nat, Tr out t ↔ ∃ s, s < i ∧ Tr x s ∧ ∃ (hs : s < ms.length) (k : Nat) (hk : k < (ms[s]).length), (ms[s])[k].act = a ∧ (ms[s])[k].to = (t : Int))
    (fun n s out hs ⟨p1, p2⟩ => by
      show ∃ s', f19.s0 L N _ (f19.l0 L N _ n) x a s ms out = _ ∧ _
      unfold f19.s0 f19.s0'
      have hsn : s < ms.length := by omega
      have hrow := (hm.2 s hsn).1
      simp only [lt_cast hs, cond_true]
      obtain ⟨out', q1, q2, q3⟩ := inv_loop (l := fun n' k out => f19.l1 L N (fun z13 z14 z15 z16 z17 => f19.p1_e2 L N (fun z5 z6 => f19.p0_e0 L N some z5 z6) (f19.l0 L N (fun z5 z6 => f19.p0_e0 L N some z5 z6) n) z13 z14 z15 z16 z17) n' x a (s : Int) k ms out) (len := (ms[s]).length)
        (K := fun out : List Bool => f19.l0 L N (fun z5 z6 => f19.p0_e0 L N some z5 z6) n x a ((s + 1 : Nat) : Int) ms out)
        (fun k out' => out'.length = ms.length ∧ ∀ t : Nat, Tr out' t ↔ (Tr out t ∨ (Tr x s ∧ ∃ (k' : Nat) (hk' : k' < (ms[s]).length), k' < k ∧ (ms[s])[k'].act = a ∧ (ms[s])[k'].to = (t : Int))))
        (fun n' k out' hk ⟨r1, r2⟩ => by
          show ∃ s', f19.s1 L N _ (f19.l1 L N _ n') x a (s : Int) k ms out' = _ ∧ _
          unfold f19.s1 f19.s1'
          obtain ⟨t0, ht0, htl⟩ := hm.nat hsn hk
          simp only [le0, lt_cast hsn, lt_cast hs, lt_cast hk, Bool.and_true, Bool.true_and, cond_true, Int.toNat_natCast, at_lt hsn, at_lt hk, atD]
          unfold f19.j0'
          simp only [le0, lt_cast hsn, lt_cast hk, Bool.and_true, Bool.true_and, cond_true, Int.toNat_natCast, at_lt hsn, at_lt hk, ht0, lt_cast (show t0 < out'.length by omega), wi_nat (show k < 9223372036854775807 by omega)]
          have stay : ¬ (Tr x s ∧ (ms[s])[k].act = a) → (out'.length = ms.length ∧ ∀ t : Nat, Tr out' t ↔ (Tr out t ∨ (Tr x s ∧ ∃ (k' : Nat) (hk' : k' < (ms[s]).length), k' < k + 1 ∧ (ms[s])[k'].act = a ∧ (ms[s])[k'].to = (t : Int)))) := by
            intro hno
            refine ⟨r1, fun t => ?_⟩
            rw [r2 t]
            constructor
            · rintro (h | ⟨hx, k', hk', hlt, h⟩)
              · exact .inl h
              · exact .inr ⟨hx, k', hk', by omega, h⟩
            · rintro (h | ⟨hx, k', hk', hlt, h1, h2⟩)
              · exact .inl h
              · by_cases he : k' = k
                · subst he; exact absurd ⟨hx, h1⟩ hno
                · exact .inr ⟨hx, k', hk', by omega, h1, h2⟩
          cases hxs : x.getD s false
          · simp only [cond_false]
            exact ⟨out', rfl, stay fun h => by have := h.1; unfold Tr at this; rw [hxs] at this; cases this⟩
          · simp only [cond_true]
            by_cases ha : (ms[s])[k].act = a
            · have hb : ((ms[s])[k].act == a) = true := by simpa using ha
              rw [hb]
              simp only [cond_true]
              refine ⟨out'.set t0 true, rfl, by simp [r1], fun t => ?_⟩
              rw [Tr_set (by omega), r2 t]
              constructor
              · rintro (rfl | h | ⟨hx, k', hk', hlt, h⟩)
                · exact .inr ⟨hxs, k, hk, by omega, ha, ht0⟩
                · exact .inl h
                · exact .inr ⟨hx, k', hk', by omega, h⟩
              · rintro (h | ⟨hx, k', hk', hlt, h1, h2⟩)
                · exact .inr (.inl h)
                · by_cases he : k' = k
                  · subst he
                    rw [ht0] at h2
                    exact .inl (by omega)
                  · exact .inr (.inr ⟨hx, k', hk', by omega, h1, h2⟩)
            · have hb : ((ms[s])[k].act == a) = false := by simpa using ha
              rw [hb]
              simp only [cond_false]
              exact ⟨out', rfl, stay fun h => ha h.2⟩)
        (fun n' out' _ => by
          show f19.s1 L N _ (f19.l1 L N _ n') x a (s : Int) (ms[s]).length ms out' = _
          unfold f19.s1 f19.s1'
          simp only [le0, lt_cast hsn, Bool.and_true, cond_true, Int.toNat_natCast, at_lt hsn, ge_cast (Nat.lt_irrefl _), cond_false]
          show f19.l0 L N _ n x a (wi ((s : Int) + 1)) ms out' = _
          rw [wi_nat (by omega)])
        L 0 out (by omega) (by omega) ⟨p1, fun t => ⟨fun h => .inl h, fun h => by
          rcases h with h | ⟨-, k', _, hlt, -⟩
          · exact h
          · omega⟩⟩
      refine ⟨out', q1, q2, fun t => ?_⟩
      rw [q3 t, p2 t]
      constructor
      · rintro (⟨s', hlt, h⟩ | ⟨hx, k', hk', -, h1, h2⟩)
        · exact ⟨s', by omega, h⟩
        · exact ⟨s, by omega, hx, hsn, k', hk', h1, h2⟩
      · rintro ⟨s', hlt, hx, hsl', k', hk', h1, h2⟩
        by_cases he : s' = s
        · subst he; exact .inr ⟨hx, k', hk', hk', h1, h2⟩
        · exact .inl ⟨s', by omega, hx, hsl', k', hk', h1, h2⟩)
    (fun n out _ => by
      show f19.s0 L N _ (f19.l0 L N _ n) x a x.length ms out = _
      unfold f19.s0 f19.s0'
      simp only [ge_cast (Nat.lt_irrefl _), cond_false])
    L 0 (List.replicate x.length false) (by omega) (by omega) ⟨by simp [hx], fun t => ⟨fun h => absurd h (Tr_replicate _ t), fun ⟨_, h, _⟩ => by omega⟩⟩
  obtain ⟨r, e1, e2, e3⟩ := slip2_ok L N ms out hm g2 (by omega)
  have e0 : ((x.length : Int)).toNat = x.length := rfl
  rw [e0]
  refine ⟨r, g1.trans ?_, e2, fun t => ?_⟩
  · show ((f45 L N ⟨ms⟩ out).bind fun y => some y) = _
    rw [e1]; rfl
  · rw [e3 t]
    refine Slip.iff (fun t => ?_) t
    rw [g3]
    constructor
    · rintro ⟨s, -, hx, h⟩; exact ⟨s, hx, h⟩
    · rintro ⟨s, hx, hs, h⟩; exact ⟨s, by have := Tr_lt hx; omega, hx, hs, h⟩
end Go.Proofs.YtffkhhblppfbfaaDoor.Ev
namespace Go.Proofs.YtffkhhblppfbfaaDoor.Ev
open Go
set_option linter.unusedVariables false
set_option linter.unusedSimpArgs false
theorem list8_ok (L N : Nat) (b : List Bool) (hb : b.length ≤ 1048576) (hL : 1048576 < L) : ∃ q, f49 L N b = some q ∧ (∀ x : Int, x ∈ q ↔ ∃ t : Nat, x = (t : Int) ∧ Tr b t) ∧ Rises q ∧ q.length ≤ b.length := by
  have hlim := lim_eq
  show ∃ q, f49.b L N some b = some q ∧ _
  unfold f49.b f49.b'
  have key : ∀ (n i : Nat) (q : List Int), i ≤ b.length → b.length - i < n → (∀ x : Int, x ∈ q ↔ ∃ t : Nat, t < i ∧ x = (t : Int) ∧ Tr b t) → Rises q → q.length ≤ i →
      ∃ r, f49.l0 L N (fun z3 => f49.p0_e0 L N some z3) n b (i : Int) q = some r ∧ (∀ x : Int, x ∈ r ↔ ∃ t : Nat, x = (t : Int) ∧ Tr b t) ∧ Rises r ∧ r.length ≤ b.length := by
    intro n
    induction n with
    | zero => intro i q _ h; omega
    | succ n ih =>
      intro i q hi hn hq hr hl
      show ∃ r, f49.s0 L N _ (f49.l0 L N _ n) b i q = some r ∧ _
      unfold f49.s0 f49.s0'
      by_cases hlt : i < b.length
      · have hle : decide (q.length + ([(i : Int)] : List Int).length ≤ lim) = true := dt (by simp only [List.length_cons, List.length_nil]; omega)
        simp only [lt_cast hlt, le0, cond_true, Bool.and_true, Int.toNat_natCast, atD, hle, wi_nat (show i < 9223372036854775807 by omega)]
        cases hb2 : b.getD i false
        · simp only [cond_false]
          refine ih (i + 1) q (by omega) (by omega) (fun x => ?_) hr (by omega)
          rw [hq x]
          constructor
          · rintro ⟨t, h1, h2, h3⟩; exact ⟨t, by omega, h2, h3⟩
          · rintro ⟨t, h1, h2, h3⟩
            by_cases e : t = i
            · subst e; unfold Tr at h3; rw [hb2] at h3; cases h3
            · exact ⟨t, by omega, h2, h3⟩
        · simp only [cond_true]
          refine ih (i + 1) (q ++ [(i : Int)]) (by omega) (by omega) (fun x => ?_) ?_ (by simp only [List.length_append, List.length_cons, List.length_nil]; omega)
          · rw [List.mem_append, hq x, List.mem_singleton]
            constructor
            · rintro (⟨t, h1, h2, h3⟩ | h)
              · exact ⟨t, by omega, h2, h3⟩
              · exact ⟨i, by omega, h, hb2⟩
            · rintro ⟨t, h1, h2, h3⟩
              by_cases e : t = i
              · subst e; exact .inr h2
              · exact .inl ⟨t, by omega, h2, h3⟩
          · refine List.pairwise_append.2 ⟨hr, by simp, fun x hx y hy => ?_⟩
            obtain ⟨t, h1, rfl, -⟩ := (hq x).1 hx
            obtain rfl := List.mem_singleton.1 hy
            omega
      · simp only [ge_cast hlt, cond_false]
        have hi' : i = b.length := by omega
        subst hi'
        refine ⟨q, rfl, fun x => ?_, hr, hl⟩
        rw [hq x]
        constructor
        · rintro ⟨t, -, h2, h3⟩; exact ⟨t, h2, h3⟩
        · rintro ⟨t, h2, h3⟩; exact ⟨t, Tr_lt h3, h2, h3⟩
  exact key L 0 [] (by omega) (by omega) (fun x => ⟨fun h => by simp at h, fun ⟨_, h, _⟩ => by omega⟩) List.Pairwise.nil (by simp)
end Go.Proofs.YtffkhhblppfbfaaDoor.Ev
namespace Go.Proofs.YtffkhhblppfbfaaDoor.Ev
open Go
set_option linter.unusedVariables false
set_option linter.unusedSimpArgs false
end Go.Proofs.YtffkhhblppfbfaaDoor.Ev
namespace Go.Proofs.YtffkhhblppfbfaaDoor.Ev
open Go
set_option linter.unusedVariables false
set_option linter.unusedSimpArgs false
end Go.Proofs.YtffkhhblppfbfaaDoor.Ev
namespace Go.Proofs.YtffkhhblppfbfaaDoor.Ev
open Go
set_option linter.unusedVariables false
set_option linter.unusedSimpArgs false
def NextE (E : Nat → Nat → Prop) (n : Nat) (q : List Int) : Prop := q.length = n ∧ ∀ (i : Nat) (hi : i < q.length), ∃ j : Nat, q[i] = (j : Int) ∧ j ≤ i ∧ E j i ∧ ∀ j', j' < j → ¬ E j' i
theorem NextE.uniq {E : Nat → Nat → Prop} {n : Nat} {q q' : List Int} (h : NextE E n q) (h' : NextE E n q') : q = q' := by
  apply List.ext_getElem
  · rw [h.1, h'.1]
  · intro i h1 h2
    obtain ⟨j, a1, a2, a3, a4⟩ := h.2 i h1
    obtain ⟨k, b1, b2, b3, b4⟩ := h'.2 i h2
    have : j = k := by
      rcases Nat.lt_trichotomy j k with h | h | h
      · exact absurd a3 (b4 j h)
      · exact h
      · exact absurd b3 (a4 k h)
    rw [a1, b1, this]
theorem NextE.congr {E F : Nat → Nat → Prop} {n : Nat} {q : List Int} (h : NextE E n q) (he : ∀ i j, j ≤ i → i < n → (E j i ↔ F j i)) : NextE F n q :=
  ⟨h.1, fun i hi => by
    obtain ⟨j, a1, a2, a3, a4⟩ := h.2 i hi
    have hn : i < n := by rw [← h.1]; exact hi
    exact ⟨j, a1, a2, (he i j a2 hn).1 a3, fun j' hj' hf => a4 j' hj' ((he i j' (by omega) hn).2 hf)⟩⟩
def Sig (ms : List (List Move)) (p : List Int) (i : Nat) (m : Move) : Prop := ∃ (h : i < ms.length) (k : Nat) (hk : k < (ms[i]).length), m.act = (ms[i])[k].act ∧ m.to = p.getD (ms[i])[k].to.toNat 0
def Akin (ms : List (List Move)) (p : List Int) (j i : Nat) : Prop := p.getD j 0 = p.getD i 0 ∧ ∀ m, Sig ms p i m ↔ Sig ms p j m
theorem Akin.refl (ms : List (List Move)) (p : List Int) (i : Nat) : Akin ms p i i := ⟨rfl, fun _ => Iff.rfl⟩
theorem l4Same_ok (L N : Nat) (a b : List Int) (hL : a.length < L) (hl : a.length ≤ 1048576) : ∃ r, f48 L N a b = some r ∧ (r = true ↔ a = b) := by
  show ∃ r, f48.b L N some a b = some r ∧ _
  unfold f48.b f48.b'
  by_cases he : a.length = b.length
  · have : ((a.length : Int) != (b.length : Int)) = false := by simp [he]
    rw [this, cond_false]
    have key : ∀ (n i : Nat), i ≤ a.length → a.length - i < n → (∀ j (h1 : j < a.length) (h2 : j < b.length), j < i → a[j] = b[j]) →
        ∃ r, f48.l0 L N (f48.p0_e0 L N some) (fun z3 => f48.p0_r L N some z3) n a b (i : Int) = some r ∧ (r = true ↔ a = b) := by
      intro n
      induction n with
      | zero => intro i _ h; omega
      | succ n ih =>
        intro i hi hn hs
        show ∃ r, f48.s0 L N _ _ (f48.l0 L N _ _ n) a b (i : Int) = some r ∧ _
        unfold f48.s0 f48.s0'
        by_cases hlt : i < a.length
        · have hlt' : i < b.length := by omega
          simp only [le0, lt_cast hlt, lt_cast hlt', Bool.and_true, cond_true, Int.toNat_natCast, at_lt hlt, at_lt hlt']
          by_cases h1 : a[i] = b[i]
          · rw [show (a[i] != b[i]) = false by simpa using h1, cond_false, wi_nat (by omega)]
            refine ih (i + 1) (by omega) (by omega) fun j h2 h3 h4 => ?_
            by_cases e : j = i
            · subst e; exact h1
            · exact hs j h2 h3 (by omega)
          · rw [show (a[i] != b[i]) = true by simpa using h1, cond_true]
            refine ⟨false, rfl, ?_⟩
            simp only [Bool.false_eq_true, false_iff]
            intro e
            subst e
            exact h1 rfl
        · simp only [ge_cast hlt, cond_false]
          refine ⟨true, rfl, ?_⟩
          simp only [true_iff]
          exact List.ext_getElem he fun j h1 h2 => hs j h1 h2 (by omega)
    exact key L 0 (by omega) (by omega) (fun _ _ _ h => by omega)
  · have : ((a.length : Int) != (b.length : Int)) = true := by simp; omega
    rw [this, cond_true]
    refine ⟨false, rfl, ?_⟩
    simp only [Bool.false_eq_true, false_iff]
    intro e
    exact he (by rw [e])
end Go.Proofs.YtffkhhblppfbfaaDoor.Ev
namespace Go.Proofs.YtffkhhblppfbfaaDoor.Ev
open Go
set_option linter.unusedVariables false
set_option linter.unusedSimpArgs false
end Go.Proofs.YtffkhhblppfbfaaDoor.Ev
namespace Go.Proofs.YtffkhhblppfbfaaDoor.Ev
open Go
set_option linter.unusedVariables false
set_option linter.unusedSimpArgs false
end Go.Proofs.YtffkhhblppfbfaaDoor.Ev
namespace Go.Proofs.YtffkhhblppfbfaaDoor.Ev
open Go
set_option linter.unusedVariables false
set_option linter.unusedSimpArgs false
inductive Chain (E : List Int → Nat → Nat → Prop) (n : Nat) : List (List Int) → List Int → Prop
  | zero : Chain E n [] (List.replicate n 0)
  | snoc (pre : List (List Int)) (p q : List Int) (h : Chain E n pre p) (hq : NextE (E p) n q) : Chain E n (pre ++ [p]) q
structure EqE (E : List Int → Nat → Nat → Prop) : Prop where
  refl : ∀ p i, E p i i
  symm : ∀ p i j, E p i j → E p j i
  trans : ∀ p i j k, E p i j → E p j k → E p i k
  fine : ∀ p i j, E p i j → p.getD i 0 = p.getD j 0
theorem NextE.same {E : Nat → Nat → Prop} {n : Nat} {q : List Int} (h : NextE E n q) (sy : ∀ i j, E i j → E j i) (tr : ∀ i j k, E i j → E j k → E i k) {i i' : Nat} (hi : i < n) (hi' : i' < n) : q.getD i 0 = q.getD i' 0 ↔ E i i' := by
  have hl := h.1
  rw [getD_lt (show i < q.length by omega), getD_lt (show i' < q.length by omega)]
  obtain ⟨j, a1, a2, a3, a4⟩ := h.2 i (by omega)
  obtain ⟨j', b1, b2, b3, b4⟩ := h.2 i' (by omega)
  rw [a1, b1]
  constructor
  · intro e
    obtain rfl : j = j' := by omega
    exact tr _ _ _ (sy _ _ a3) b3
  · intro e
    have h1 : ¬ j < j' := fun hlt => b4 j hlt (tr _ _ _ a3 e)
    have h2 : ¬ j' < j := fun hlt => a4 j' hlt (tr _ _ _ b3 (sy _ _ e))
    have : j = j' := by omega
    rw [this]
theorem Chain.len {E : List Int → Nat → Nat → Prop} {n : Nat} {pre : List (List Int)} {p : List Int} (h : Chain E n pre p) : p.length = n := by
  cases h with
  | zero => simp
  | snoc pre p q h hq => exact hq.1
theorem Chain.first {E : List Int → Nat → Nat → Prop} {n : Nat} {pre : List (List Int)} {p : List Int} (h : Chain E n pre p) : (pre ++ [p]).getD 0 [] = List.replicate n 0 := by
  induction h with
  | zero => rfl
  | snoc pre p q h hq ih =>
    cases pre with
    | nil => exact ih
    | cons a t => exact ih
theorem Chain.next {E : List Int → Nat → Nat → Prop} {n : Nat} {pre : List (List Int)} {p : List Int} (h : Chain E n pre p) : ∀ k, k < pre.length → NextE (E ((pre ++ [p]).getD k [])) n ((pre ++ [p]).getD (k + 1) []) := by
  induction h with
  | zero => intro k hk; simp at hk
  | snoc pre p q h hq ih =>
    intro k hk
    rw [List.length_append, List.length_cons, List.length_nil] at hk
    have e1 : (pre ++ [p] ++ [q]).getD k [] = (pre ++ [p]).getD k [] := by
      rw [List.getD_eq_getElem?_getD, List.getD_eq_getElem?_getD, List.getElem?_append_left (by simp; omega)]
    by_cases hlt : k < pre.length
    · have e2 : (pre ++ [p] ++ [q]).getD (k + 1) [] = (pre ++ [p]).getD (k + 1) [] := by
        rw [List.getD_eq_getElem?_getD, List.getD_eq_getElem?_getD, List.getElem?_append_left (by simp; omega)]
      rw [e1, e2]
      exact ih k hlt
    · obtain rfl : k = pre.length := by omega
      have e2 : (pre ++ [p] ++ [q]).getD (pre.length + 1) [] = q := by
        rw [getD_lt (by simp), List.getElem_append_right (by simp)]; simp
      have e3 : (pre ++ [p]).getD pre.length [] = p := by
        rw [getD_lt (by simp), List.getElem_append_right (by simp)]; simp
      rw [e1, e2, e3]
      exact hq
theorem Chain.keeps {E : List Int → Nat → Nat → Prop} (hE : EqE E) {n : Nat} {pre : List (List Int)} {p : List Int} (h : Chain E n pre p) (R : Nat → Nat → Prop)
    (hR : ∀ p, p.length = n → (∀ i j, i < n → j < n → R i j → p.getD i 0 = p.getD j 0) → ∀ i j, i < n → j < n → R i j → E p i j) :
    ∀ i j, i < n → j < n → R i j → p.getD i 0 = p.getD j 0 := by
  induction h with
  | zero =>
    intro i j hi hj _
    rw [getD_lt (by simpa using hi), getD_lt (by simpa using hj), List.getElem_replicate, List.getElem_replicate]
  | snoc pre p q h hq ih =>
    intro i j hi hj hr
    exact (hq.same (hE.symm p) (hE.trans p) hi hj).2 (hR p h.len ih i j hi hj hr)
def Fix (E : List Int → Nat → Nat → Prop) (n : Nat) (q : List Int) : Prop := q.length = n ∧ NextE (E q) n q
theorem Fix.same {E : List Int → Nat → Nat → Prop} (hE : EqE E) {n : Nat} {q : List Int} (h : Fix E n q) {i j : Nat} (hi : i < n) (hj : j < n) : q.getD i 0 = q.getD j 0 ↔ E q i j := h.2.same (hE.symm q) (hE.trans q) hi hj
end Go.Proofs.YtffkhhblppfbfaaDoor.Ev
namespace Go.Proofs.YtffkhhblppfbfaaDoor.Ev
open Go
set_option linter.unusedVariables false
set_option linter.unusedSimpArgs false
def Beh (ms : List (List Move)) : (Nat → Prop) → List Int → Nat → Prop
  | X, [] => X
  | X, a :: w => Beh ms (Slip ms (StepX ms X a)) w
theorem Beh.congr {ms : List (List Move)} : ∀ {w : List Int} {X Y : Nat → Prop}, (∀ t, X t ↔ Y t) → ∀ t, Beh ms X w t ↔ Beh ms Y w t
  | [], _, _, h, t => h t
  | a :: w, X, Y, h, t => Beh.congr (w := w) (fun t => Slip.iff (fun t => StepX.iff h a t) t) t
theorem Beh.snoc {ms : List (List Move)} {a : Int} : ∀ {w : List Int} {X : Nat → Prop} {t : Nat}, Beh ms X (w ++ [a]) t ↔ Slip ms (StepX ms (Beh ms X w) a) t
  | [], X, t => Iff.rfl
  | b :: w, X, t => Beh.snoc (w := w)
theorem slip_some {ms : List (List Move)} {X : Nat → Prop} {t : Nat} (h : Slip ms X t) : ∃ s, X s := by
  induction h with
  | base t hx => exact ⟨t, hx⟩
  | step s t _ _ _ _ _ _ ih => exact ih
end Go.Proofs.YtffkhhblppfbfaaDoor.Ev
namespace Go.Proofs.YtffkhhblppfbfaaDoor.Ev
open Go
set_option linter.unusedVariables false
set_option linter.unusedSimpArgs false
def Row (ms : List (List Move)) (q : List Int) (X : Nat → Prop) : Prop := q.length ≤ ms.length ∧ (∀ v ∈ q, 0 ≤ v ∧ v < (ms.length : Int)) ∧ (∀ t : Nat, (t : Int) ∈ q ↔ X t) ∧ Rises q
theorem Row.some {ms : List (List Move)} {q : List Int} {X : Nat → Prop} (h : Row ms q X) : 0 < q.length ↔ ∃ t, X t := by
  constructor
  · intro hp
    have hm := List.getElem_mem hp
    obtain ⟨t, ht⟩ := Int.eq_ofNat_of_zero_le (h.2.1 _ hm).1
    exact ⟨t, (h.2.2.1 t).1 (by rw [← ht]; exact hm)⟩
  · rintro ⟨t, ht⟩
    exact List.length_pos_of_mem ((h.2.2.1 t).2 ht)
theorem Row.uniq {ms : List (List Move)} {q q' : List Int} {X : Nat → Prop} (h : Row ms q X) (h' : Row ms q' X) : q = q' := by
  refine rises_ext h.2.2.2 h'.2.2.2 fun x => ⟨fun hx => ?_, fun hx => ?_⟩
  · obtain ⟨t, rfl⟩ := Int.eq_ofNat_of_zero_le (h.2.1 _ hx).1
    exact (h'.2.2.1 t).2 ((h.2.2.1 t).1 hx)
  · obtain ⟨t, rfl⟩ := Int.eq_ofNat_of_zero_le (h'.2.1 _ hx).1
    exact (h.2.2.1 t).2 ((h'.2.2.1 t).1 hx)
abbrev BehW (ms : List (List Move)) (w : List Int) : Nat → Prop := Beh ms (Slip ms fun x => x = 0) w
theorem first_row (L N : Nat) (ms : List (List Move)) (hm : Leads ms) (h1 : 1 ≤ ms.length) (hL : 268435456 ≤ L) : ∃ q, f64 L N ⟨ms⟩ [0] = some q ∧ Row ms q (Slip ms fun x => x = 0) := by
  have hlim := lim_eq
  obtain ⟨q0, a1, a2, a3, a4, a5⟩ := slip1_ok L N ms [0] hm (fun v hv => by obtain rfl := List.mem_singleton.1 hv; omega) (by simp only [List.length_cons, List.length_nil]; omega) (by simp only [List.length_cons, List.length_nil]; omega) (by omega)
  refine ⟨q0, a1, a2, a3, fun t => ?_, a5⟩
  rw [a4 t]
  exact Slip.iff (fun t => by rw [List.mem_singleton]; omega) t
theorem after_row (L N : Nat) (ms : List (List Move)) (q : List Int) (X : Nat → Prop) (a : Int) (hm : Leads ms) (h : Row ms q X) (hL : 268435456 ≤ L) : ∃ q', f36 L N ⟨ms⟩ q a = some q' ∧ Row ms q' (Slip ms (StepX ms X a)) := by
  obtain ⟨q', b1, b2, b3, b4, b5⟩ := after_ok L N ms q a hm h.1 h.2.1 hL
  exact ⟨q', b1, b2, b3, fun t => (b4 t).trans (Slip.iff (fun t => StepX.iff (fun t => h.2.2.1 t) a t) t), b5⟩
theorem behI (L N : Nat) (ms : List (List Move)) (w : List Int) (hm : Leads ms) (h1 : 1 ≤ ms.length) (hw : w.length ≤ 1048576) (hL : 268435456 ≤ L) : ∃ q, f33 L N ⟨ms⟩ w = some q ∧ Row ms q (BehW ms w) := by
  have hlim := lim_eq
  have hn := hm.1
  show ∃ q, f33.b L N some ⟨ms⟩ w = some q ∧ _
  unfold f33.b f33.b'
  obtain ⟨q0, a1, a2⟩ := first_row L N ms hm h1 hL
  have a1' : f64 L N (Graph.mk (Graph.mk ms).moves) [0] = some q0 := a1
  rw [a1', Option.bind_some]
  have key : ∀ (n i : Nat) (q : List Int) (X : Nat → Prop), i ≤ w.length → w.length - i < n → Row ms q X → ∃ q', f33.l0 L N (fun z6 => f33.p0_e0 L N some z6) n w (w.length : Int) (i : Int) ms q = some q' ∧ Row ms q' (Beh ms X (w.drop i)) := by
    intro n
    induction n with
    | zero => intro i q X _ h; omega
    | succ n ih =>
      intro i q X hi hn' hq
      show ∃ q', f33.s0 L N _ (f33.l0 L N _ n) w (w.length : Int) (i : Int) ms q = some q' ∧ _
      unfold f33.s0 f33.s0'
      by_cases hlt : i < w.length
      · obtain ⟨q2, b1, b2⟩ := after_row L N ms q X w[i] hm hq hL
        simp only [lt_cast hlt, le0, Bool.and_true, cond_true, Int.toNat_natCast, at_lt hlt, b1, Option.bind_some]
        rw [wi_nat (by omega), List.drop_eq_getElem_cons hlt]
        exact ih (i + 1) q2 _ (by omega) (by omega) b2
      · rw [ge_cast hlt, cond_false, List.drop_eq_nil_of_le (by omega)]
        exact ⟨q, rfl, hq⟩
  exact key L 0 q0 _ (by omega) (by omega) a2
end Go.Proofs.YtffkhhblppfbfaaDoor.Ev
namespace Go.Proofs.YtffkhhblppfbfaaDoor.Ev
open Go
set_option linter.unusedVariables false
set_option linter.unusedSimpArgs false
def digL (n : Nat) : List UInt8 := if n < 10 then [UInt8.ofNat (48 + n)] else [UInt8.ofNat (48 + n / 10), UInt8.ofNat (48 + n % 10)]
theorem dig_eq {n : Nat} (h : n < 100) : Lib.decDigits n = digL n := by
  unfold digL
  by_cases h1 : n < 10
  · rw [Lib.decDigits, dif_pos h1, if_pos h1]
  · rw [Lib.decDigits, dif_neg h1, if_neg h1, Lib.decDigits, dif_pos (show n / 10 < 10 by omega)]; rfl
theorem u8_inj {a b : Nat} (ha : a < 256) (hb : b < 256) (h : UInt8.ofNat a = UInt8.ofNat b) : a = b := by
  have := congrArg UInt8.toNat h
  simpa [UInt8.toNat_ofNat', Nat.mod_eq_of_lt ha, Nat.mod_eq_of_lt hb] using this
theorem dig_inj {n m : Nat} (hn : n < 100) (hm : m < 100) {r r' : List UInt8} (h : digL n ++ (32 :: r) = digL m ++ (32 :: r')) : n = m ∧ r = r' := by
  have ne : ∀ {k : Nat}, k < 10 → UInt8.ofNat (48 + k) ≠ 32 := fun {k} hk e => by
    have := u8_inj (a := 48 + k) (b := 32) (by omega) (by omega) e; omega
  unfold digL at h
  by_cases h1 : n < 10 <;> by_cases h2 : m < 10
  · rw [if_pos h1, if_pos h2] at h
    simp only [List.cons_append, List.nil_append, List.cons.injEq, true_and] at h
    have := u8_inj (by omega) (by omega) h.1
    exact ⟨by omega, h.2⟩
  · rw [if_pos h1, if_neg h2] at h
    simp only [List.cons_append, List.nil_append, List.cons.injEq] at h
    exact absurd h.2.1.symm (ne (by omega))
  · rw [if_neg h1, if_pos h2] at h
    simp only [List.cons_append, List.nil_append, List.cons.injEq] at h
    exact absurd h.2.1 (ne (by omega))
  · rw [if_neg h1, if_neg h2] at h
    simp only [List.cons_append, List.nil_append, List.cons.injEq, true_and] at h
    have e1 := u8_inj (by omega) (by omega) h.1
    have e2 := u8_inj (by omega) (by omega) h.2.1
    exact ⟨by omega, h.2.2⟩
def numsL (l : List Int) : List UInt8 := l.flatMap fun n => digL n.toNat ++ [32]
def keyL (l : List Int) : List UInt8 := 91 :: (numsL l ++ [93])
theorem numsL_inj : ∀ {a b : List Int}, (∀ v ∈ a, 0 ≤ v ∧ v < 100) → (∀ v ∈ b, 0 ≤ v ∧ v < 100) → ∀ r r', numsL a ++ (93 :: r) = numsL b ++ (93 :: r') → a = b ∧ r = r'
  | [], [], _, _, r, r', h => ⟨rfl, (List.cons.inj h).2⟩
  | [], y :: b, _, hb, r, r', h => by
    exfalso
    have hy := hb y (.head _)
    have h0 : ∀ {n : Nat}, n < 100 → ∃ d s, digL n = UInt8.ofNat (48 + d) :: s ∧ d < 10 := fun {n} hn => by
      unfold digL; split
      · exact ⟨n, [], rfl, by omega⟩
      · exact ⟨n / 10, _, rfl, by omega⟩
    obtain ⟨d, s, e, hd⟩ := h0 (n := y.toNat) (by omega)
    unfold numsL at h
    rw [List.flatMap_cons, e] at h
    simp only [List.flatMap_nil, List.nil_append, List.cons_append, List.cons.injEq] at h
    have := u8_inj (a := 93) (by omega) (by omega) h.1
    omega
  | x :: a, [], ha, _, r, r', h => by
    exfalso
    have hy := ha x (.head _)
    have h0 : ∀ {n : Nat}, n < 100 → ∃ d s, digL n = UInt8.ofNat (48 + d) :: s ∧ d < 10 := fun {n} hn => by
      unfold digL; split
      · exact ⟨n, [], rfl, by omega⟩
      · exact ⟨n / 10, _, rfl, by omega⟩
    obtain ⟨d, s, e, hd⟩ := h0 (n := x.toNat) (by omega)
    unfold numsL at h
    rw [List.flatMap_cons, e] at h
    simp only [List.flatMap_nil, List.nil_append, List.cons_append, List.cons.injEq] at h
    have := u8_inj (b := 93) (by omega) (by omega) h.1
    omega
  | x :: a, y :: b, ha, hb, r, r', h => by
    have hx := ha x (.head _); have hy := hb y (.head _)
    have h' : digL x.toNat ++ (32 :: (numsL a ++ (93 :: r))) = digL y.toNat ++ (32 :: (numsL b ++ (93 :: r'))) := by
      unfold numsL at h ⊢
      rw [List.flatMap_cons, List.flatMap_cons] at h
      simpa using h
    obtain ⟨e1, e2⟩ := dig_inj (by omega) (by omega) h'
    obtain ⟨e3, e4⟩ := numsL_inj (fun v hv => ha v (.tail _ hv)) (fun v hv => hb v (.tail _ hv)) r r' e2
    exact ⟨by rw [e3, show x = y by omega], e4⟩
theorem keyL_inj {a b : List Int} (ha : ∀ v ∈ a, 0 ≤ v ∧ v < 100) (hb : ∀ v ∈ b, 0 ≤ v ∧ v < 100) {r r' : List UInt8} (h : keyL a ++ r = keyL b ++ r') : a = b ∧ r = r' := by
  unfold keyL at h
  refine numsL_inj ha hb r r' ?_
  have := (List.cons.inj h).2
  simpa using this
end Go.Proofs.YtffkhhblppfbfaaDoor.Ev
namespace Go.Proofs.YtffkhhblppfbfaaDoor.Ev
open Go
set_option linter.unusedVariables false
set_option linter.unusedSimpArgs false
theorem getI {zs : List Int} {i : Nat} (h : i < zs.length) : (zs.toArray)[i]! = zs[i] := by simp [getElem!_pos, h]
theorem sortI_le (xs : List Int) : (sortI xs).Pairwise fun a b => a ≤ b := by
  have h := List.pairwise_mergeSort (le := fun x y : Int => decide (x ≤ y)) (fun a b c h1 h2 => by
    simp only [decide_eq_true_eq] at *; omega) (fun a b => by simp only [Bool.or_eq_true, decide_eq_true_eq]; omega) xs
  exact h.imp fun h => of_decide_eq_true h
theorem compactI_rises {zs : List Int} (hs : zs.Pairwise fun a b => a ≤ b) : Rises (Go.Lib.compact zs) := by
  unfold Rises Go.Lib.compact Go.Lib.compactUpTo
  rw [List.pairwise_map]
  refine List.Pairwise.imp_of_mem ?_ (List.Pairwise.filter _ List.pairwise_lt_range)
  intro i j hi hj hij
  rw [List.mem_filter, List.mem_range] at hi hj
  have hjl := hj.1
  rw [getI hi.1, getI hj.1]
  have hk := hj.2
  unfold Go.Lib.keeps at hk
  have hk := of_decide_eq_true hk
  have hne : zs[j] ≠ zs[j - 1] := by
    rcases hk with h | h
    · omega
    · rwa [getI hj.1, getI (show j - 1 < zs.length by omega)] at h
  have h1 := List.pairwise_iff_getElem.1 hs (j - 1) j (by omega) (by omega) (by omega)
  by_cases e : i = j - 1
  · subst e; omega
  · have h2 := List.pairwise_iff_getElem.1 hs i (j - 1) (by omega) (by omega) (by omega)
    omega
theorem compactI_mem (zs : List Int) (v : Int) : v ∈ Go.Lib.compact zs ↔ v ∈ zs := by
  unfold Go.Lib.compact Go.Lib.compactUpTo
  rw [List.mem_map]
  constructor
  · rintro ⟨i, hi, rfl⟩
    rw [List.mem_filter, List.mem_range] at hi
    rw [getI hi.1]; exact List.getElem_mem hi.1
  · intro hv
    obtain ⟨i, hi, rfl⟩ := List.mem_iff_getElem.1 hv
    clear hv
    induction i with
    | zero => exact ⟨0, by rw [List.mem_filter, List.mem_range]; exact ⟨hi, by simp [Go.Lib.keeps]⟩, getI hi⟩
    | succ i ih =>
      by_cases hk : Go.Lib.keeps zs.toArray (i + 1) = true
      · exact ⟨i + 1, by rw [List.mem_filter, List.mem_range]; exact ⟨hi, hk⟩, getI hi⟩
      · have : zs[i + 1] = zs[i] := by
          unfold Go.Lib.keeps at hk
          have hk : ¬ (i + 1 = 0 ∨ zs.toArray[i + 1]! ≠ zs.toArray[i + 1 - 1]!) := fun h => hk (decide_eq_true h)
          have h2 := Classical.not_not.1 (fun h => hk (.inr h))
          rw [getI hi, Nat.add_sub_cancel, getI (show i < zs.length by omega)] at h2
          exact h2
        rw [this]
        exact ih (by omega)
def seenActs (r : List Move) : List Int := (r.filter fun m => m.act != 0).map Move.act
theorem actsOf_ok (L N : Nat) (ms : List (List Move)) (hm : Leads ms) (q : List Int) (X : Nat → Prop) (hq : Row ms q X) (hL : 268435456 ≤ L) :
    ∃ ac, f27 L N ⟨ms⟩ q = some ac ∧ Rises ac ∧ ac.length ≤ 100000000 ∧ ∀ a, a ∈ ac ↔ a ≠ 0 ∧ ∃ t, StepX ms X a t := by
  have hlim := lim_eq
  have hn := hm.1
  have hql := hq.1
  have hrow : ∀ v ∈ q, ∃ s : Nat, v = (s : Int) ∧ s < ms.length := fun v hv => by
    have := hq.2.1 v hv
    exact ⟨v.toNat, by omega, by omega⟩
  show ∃ ac, f27.b L N some ⟨ms⟩ q = some ac ∧ _
  unfold f27.b f27.b'
  have key : ∀ (n i : Nat) (out : List Int), i ≤ q.length → q.length - i < n → out.length ≤ i * 1048576 →
      ∃ out', f27.l0 L N (fun z5 => f27.p0_e0 L N some z5) n q (q.length : Int) (i : Int) ms out = f27.p0_e0 L N some out' ∧ out'.length ≤ q.length * 1048576 ∧ ∀ a, a ∈ out' ↔ a ∈ out ∨ ∃ v ∈ q.drop i, a ∈ seenActs (ms.getD v.toNat []) := by
    intro n
    induction n with
    | zero => intro i out _ h; omega
    | succ n ih =>
      intro i out hi hn' ho
      show ∃ out', f27.s0 L N _ (f27.l0 L N _ n) q (q.length : Int) (i : Int) ms out = _ ∧ _
      unfold f27.s0 f27.s0'
      by_cases hlt : i < q.length
      · obtain ⟨s, hs, hsl⟩ := hrow _ (List.getElem_mem hlt)
        have hrl := (hm.2 s hsl).1
        have inner : ∀ (n' j : Nat) (o : List Int), j ≤ (ms[s]).length → (ms[s]).length - j < n' → o.length ≤ i * 1048576 + j →
            f27.l1 L N (fun z14 z15 z16 z17 z18 => f27.p1_e2 L N (fun z5 => f27.p0_e0 L N some z5) (f27.l0 L N (fun z5 => f27.p0_e0 L N some z5) n) z14 z15 z16 z17 z18) n' q (q.length : Int) (i : Int) ms[s] ((ms[s]).length : Int) (j : Int) ms o
              = f27.l0 L N (fun z5 => f27.p0_e0 L N some z5) n q (q.length : Int) ((i + 1 : Nat) : Int) ms (o ++ seenActs ((ms[s]).drop j)) := by
          intro n'
          induction n' with
          | zero => intro j o _ h; omega
          | succ n' ih' =>
            intro j o hj hn2 ho'
            show f27.s1 L N _ (f27.l1 L N _ n') q (q.length : Int) (i : Int) ms[s] ((ms[s]).length : Int) (j : Int) ms o = _
            unfold f27.s1 f27.s1'
            by_cases hjl : j < (ms[s]).length
            · have hle : decide (o.length + ([(ms[s])[j].act] : List Int).length ≤ lim) = true := dt (by simp only [List.length_cons, List.length_nil]; omega)
              simp only [lt_cast hjl, le0, Bool.and_true, cond_true, Int.toNat_natCast, at_lt hjl, hle]
              rw [wi_nat (by omega), List.drop_eq_getElem_cons hjl]
              cases hb : ((ms[s])[j].act != 0) with
              | true =>
                rw [cond_true, ih' (j + 1) _ (by omega) (by omega) (by simp; omega)]
                unfold seenActs
                rw [List.filter_cons, if_pos hb, List.map_cons, List.append_assoc]; rfl
              | false =>
                rw [cond_false, ih' (j + 1) _ (by omega) (by omega) (by omega)]
                unfold seenActs
                rw [List.filter_cons, if_neg (by rw [hb]; simp)]
            · rw [ge_cast hjl, cond_false, List.drop_eq_nil_of_le (by omega)]
              show f27.p1_e2 L N _ _ q (q.length : Int) (i : Int) ms o = _
              unfold f27.p1_e2 f27.p1_e2'
              rw [wi_nat (by omega)]
              simp [seenActs]
        have h1 := inner L 0 out (by omega) (by omega) (Nat.le_trans ho (Nat.le_add_right _ _))
        rw [List.drop_zero] at h1
        have hsl' : (seenActs ms[s]).length ≤ 1048576 := by
          unfold seenActs; rw [List.length_map]; exact Nat.le_trans (List.length_filter_le _ _) hrl
        obtain ⟨out', e1, e2, e3⟩ := ih (i + 1) (out ++ seenActs ms[s]) (by omega) (by omega) (by simp; omega)
        refine ⟨out', ?_, e2, fun a => ?_⟩
        · simp only [lt_cast hlt, le0, Bool.and_true, cond_true, Int.toNat_natCast, at_lt hlt, hs, lt_cast hsl, at_lt hsl]
          exact h1.trans e1
        · rw [e3 a, List.mem_append, List.drop_eq_getElem_cons hlt]
          have hgs : ms.getD (q[i]).toNat [] = ms[s] := by rw [hs, Int.toNat_natCast, getD_lt hsl]
          constructor
          · rintro ((h | h) | ⟨v, hv, h⟩)
            · exact .inl h
            · exact .inr ⟨_, .head _, by rw [hgs]; exact h⟩
            · exact .inr ⟨v, .tail _ hv, h⟩
          · rintro (h | ⟨v, hv, h⟩)
            · exact .inl (.inl h)
            · rcases List.mem_cons.1 hv with rfl | hv
              · exact .inl (.inr (by rw [← hgs]; exact h))
              · exact .inr ⟨v, hv, h⟩
      · rw [ge_cast hlt, cond_false]
        refine ⟨out, rfl, by have : i = q.length := by omega
                             subst this; exact ho, fun a => ?_⟩
        rw [List.drop_eq_nil_of_le (by omega)]
        simp
  obtain ⟨out', e1, e2, e3⟩ := key L 0 [] (by omega) (by omega) (Nat.zero_le _)
  rw [List.drop_zero] at e3
  have hol : out'.length ≤ 62914560 := by
    have : q.length * 1048576 ≤ 60 * 1048576 := Nat.mul_le_mul_right _ (by omega)
    omega
  have e1' : f27.l0 L N (fun z5 => f27.p0_e0 L N some z5) L q (q.length : Int) 0 ms [] = f27.p0_e0 L N some out' := e1
  refine ⟨Go.Lib.compact (sortI out'), ?_, compactI_rises (sortI_le _), ?_, fun a => ?_⟩
  · refine e1'.trans ?_
    unfold f27.p0_e0 f27.p0_e0' fsort
    rw [dt (by omega), cond_true, Option.bind_some, sortI_length, dt (by omega), cond_true, Option.bind_some]
  · have := compactI_le (sortI out')
    rw [sortI_length] at this; omega
  · rw [compactI_mem, sortI_mem, e3 a]
    constructor
    · rintro (h | ⟨v, hv, h⟩)
      · cases h
      · obtain ⟨s, rfl, hsl⟩ := hrow v hv
        rw [Int.toNat_natCast, getD_lt hsl] at h
        obtain ⟨m, hmm, rfl⟩ := List.mem_map.1 h
        obtain ⟨h1, h2⟩ := List.mem_filter.1 hmm
        obtain ⟨k, hk, rfl⟩ := List.mem_iff_getElem.1 h1
        obtain ⟨t, ht, _⟩ := hm.nat hsl hk
        exact ⟨by rwa [bne_iff_ne] at h2, t, s, (hq.2.2.1 s).1 hv, hsl, k, hk, rfl, ht⟩
    · rintro ⟨h0, t, s, hs, hsl, k, hk, ha, ht⟩
      refine .inr ⟨(s : Int), (hq.2.2.1 s).2 hs, ?_⟩
      rw [Int.toNat_natCast, getD_lt hsl]
      exact List.mem_map.2 ⟨_, List.mem_filter.2 ⟨List.getElem_mem hk, by rw [bne_iff_ne, ha]; exact h0⟩, ha⟩
def keyB (q : List Int) : ByteArray := ⟨(keyL q).toArray⟩
theorem ba_app (a b : List UInt8) : (⟨a.toArray⟩ : ByteArray) ++ ⟨b.toArray⟩ = ⟨(a ++ b).toArray⟩ := by
  apply ByteArray.ext
  rw [ByteArray.data_append]
  simp
theorem ba_size (a : List UInt8) : (⟨a.toArray⟩ : ByteArray).size = a.length := by
  show a.toArray.size = _
  simp
theorem digL_len (n : Nat) : (digL n).length ≤ 2 := by unfold digL; split <;> simp
theorem setKey_ok (L N : Nat) (q : List Int) (hq : q.length ≤ 60) (hr : ∀ v ∈ q, 0 ≤ v ∧ v < 60) (hL : 100 < L) : f34 L N q = some (keyB q) := by
  show f34.b L N some q = _
  unfold f34.b f34.b'
  have key : ∀ (n i : Nat) (s : List UInt8), i ≤ q.length → q.length - i < n → s.length ≤ 10 + 4 * i →
      f34.l0 L N (fun z4 => f34.p0_e0 L N some z4) n ⟨s.toArray⟩ q (q.length : Int) (i : Int) = some ⟨(s ++ (numsL (q.drop i) ++ [93])).toArray⟩ := by
    intro n
    induction n with
    | zero => intro i s _ h; omega
    | succ n ih =>
      intro i s hi hn hs
      show f34.s0 L N _ (f34.l0 L N _ n) ⟨s.toArray⟩ q (q.length : Int) (i : Int) = _
      unfold f34.s0 f34.s0'
      by_cases hlt : i < q.length
      · have hv := hr _ (List.getElem_mem hlt)
        have hf : fitoa q[i] = some ⟨(digL (q[i]).toNat).toArray⟩ := by
          unfold fitoa itoaB
          rw [dt (show (0 : Int) ≤ q[i] by omega), dt (show q[i] < 100 by omega), dig_eq (by omega)]; rfl
        have h32 : (ByteArray.mk #[32]) = ⟨([32] : List UInt8).toArray⟩ := rfl
        have hd := digL_len (q[i]).toNat
        simp only [lt_cast hlt, le0, Bool.and_true, cond_true, Int.toNat_natCast, at_lt hlt, hf, Option.bind_some, h32, ba_app, ba_size]
        rw [dt (by simp; omega), dt (by simp; omega), cond_true, cond_true, wi_nat (by omega), ih (i + 1) _ (by omega) (by omega) (by simp; omega), List.drop_eq_getElem_cons hlt]
        congr 3
        unfold numsL
        rw [List.flatMap_cons]
        simp
      · rw [ge_cast hlt, cond_false, List.drop_eq_nil_of_le (by omega)]
        show f34.p0_e0 L N some ⟨s.toArray⟩ = _
        unfold f34.p0_e0 f34.p0_e0'
        have h93 : (ByteArray.mk #[93]) = ⟨([93] : List UInt8).toArray⟩ := rfl
        rw [h93, ba_app, ba_size, ba_size, dt (by simp; omega), cond_true]
        rfl
  have := key L 0 [91] (by omega) (by omega) (by simp)
  rw [List.drop_zero] at this
  exact this
theorem keyB_inj {a b : List Int} (ha : ∀ v ∈ a, 0 ≤ v ∧ v < 60) (hb : ∀ v ∈ b, 0 ≤ v ∧ v < 60) (h : keyB a = keyB b) : a = b := by
  have h1 : (keyL a).toArray = (keyL b).toArray := congrArg ByteArray.data h
  have h2 : keyL a = keyL b := by simpa using h1
  exact (keyL_inj (r := []) (r' := []) (fun v hv => by have := ha v hv; omega) (fun v hv => by have := hb v hv; omega) (by rw [h2])).1
theorem keyEq_str (x y : ByteArray) : keyEq .str x y = decide (x = y) := by
  show (x == y) = _
  rw [Bool.eq_iff_iff, decide_eq_true_eq]
  obtain ⟨a⟩ := x
  obtain ⟨b⟩ := y
  show (a == b) = true ↔ _
  rw [beq_iff_eq]
  exact ⟨fun h => by rw [h], fun h => congrArg ByteArray.data h⟩
theorem mapFind_put (x y : ByteArray) (v : Int) : ∀ es : List (ByteArray × Int), mapFind .str i64 x (mapPut .str i64 y v es) = if y = x then some v else mapFind .str i64 x es
  | [] => by
    show (bif keyEq .str x y then some v else none) = _
    by_cases e : y = x
    · subst e
      rw [show keyEq .str y y = true from by rw [keyEq_str]; exact dt rfl, cond_true, if_pos rfl]
    · rw [show keyEq .str x y = false from by rw [keyEq_str]; exact df fun h => e h.symm, cond_false, if_neg e]; rfl
  | (k, u) :: r => by
    have ih := mapFind_put x y v r
    by_cases e : y = k
    · subst e
      have h1 : mapPut .str i64 y v ((y, u) :: r) = (y, v) :: r := by
        show (bif keyEq .str y y then (y, v) :: r else _) = _
        rw [show keyEq .str y y = true from by rw [keyEq_str]; exact dt rfl, cond_true]
      rw [h1]
      show (bif keyEq .str x y then some v else mapFind .str i64 x r) = if y = x then some v else (bif keyEq .str x y then some u else mapFind .str i64 x r)
      by_cases e2 : y = x
      · subst e2
        rw [show keyEq .str y y = true from by rw [keyEq_str]; exact dt rfl, cond_true, if_pos rfl]
      · rw [show keyEq .str x y = false from by rw [keyEq_str]; exact df fun h => e2 h.symm, cond_false, cond_false, if_neg e2]
    · have h1 : mapPut .str i64 y v ((k, u) :: r) = (k, u) :: mapPut .str i64 y v r := by
        show (bif keyEq .str y k then _ else (k, u) :: mapPut .str i64 y v r) = _
        rw [show keyEq .str y k = false from by rw [keyEq_str]; exact df e, cond_false]
      rw [h1]
      show (bif keyEq .str x k then some u else mapFind .str i64 x (mapPut .str i64 y v r)) = if y = x then some v else (bif keyEq .str x k then some u else mapFind .str i64 x r)
      by_cases e2 : x = k
      · subst e2
        rw [show keyEq .str x x = true from by rw [keyEq_str]; exact dt rfl, cond_true, cond_true, if_neg e]
      · rw [show keyEq .str x k = false from by rw [keyEq_str]; exact df e2, cond_false, cond_false, ih]
def Places (S : List (List Int)) (es : List (ByteArray × Int)) : Prop := ∀ x : List Int, (∀ v ∈ x, 0 ≤ v ∧ v < 60) → mapFind .str i64 (keyB x) es = if x ∈ S then some ((S.idxOf x : Nat) : Int) else none
theorem Places.add {S : List (List Int)} {es : List (ByteArray × Int)} (h : Places S es) {y : List Int} (hy : ∀ v ∈ y, 0 ≤ v ∧ v < 60) (hn : y ∉ S) : Places (S ++ [y]) (mapPut .str i64 (keyB y) ((S.length : Nat) : Int) es) := by
  intro x hx
  rw [mapFind_put]
  by_cases e : y = x
  · subst e
    rw [if_pos rfl, if_pos (by simp), List.idxOf_append, if_neg hn]
    simp
  · rw [if_neg (fun h => e (keyB_inj hy hx h)), h x hx]
    by_cases hm : x ∈ S
    · rw [if_pos hm, if_pos (List.mem_append_left _ hm), List.idxOf_append, if_pos hm]
    · rw [if_neg hm, if_neg (by simp [hm]; exact fun h => e h.symm)]
theorem Places.nil : Places [] [] := fun x _ => by rw [if_neg (by simp)]; rfl
end Go.Proofs.YtffkhhblppfbfaaDoor.Ev
namespace Go.Proofs.YtffkhhblppfbfaaDoor.Ev
open Go
set_option linter.unusedVariables false
set_option linter.unusedSimpArgs false
theorem from_step {ac : List Int} (hr : Rises ac) (a : Int) : ac.filter (fun b => decide (a ≤ b)) = (if a ∈ ac then [a] else []) ++ ac.filter (fun b => decide (a + 1 ≤ b)) := by
  have h1 : ∀ q : Int → Bool, Rises (ac.filter q) := fun q => List.Pairwise.filter _ hr
  refine rises_ext (h1 _) ?_ fun x => ?_
  · by_cases hm : a ∈ ac
    · rw [if_pos hm]
      refine List.pairwise_cons.2 ⟨fun b hb => ?_, h1 _⟩
      have := (List.mem_filter.1 hb).2
      simp only [decide_eq_true_eq] at this; omega
    · rw [if_neg hm]; exact h1 _
  · rw [List.mem_append, List.mem_filter, List.mem_filter, decide_eq_true_eq, decide_eq_true_eq]
    by_cases hm : a ∈ ac
    · rw [if_pos hm, List.mem_singleton]
      constructor
      · rintro ⟨h2, h3⟩
        by_cases e : x = a
        · exact .inl e
        · exact .inr ⟨h2, by omega⟩
      · rintro (rfl | ⟨h2, h3⟩)
        · exact ⟨hm, Int.le_refl _⟩
        · exact ⟨h2, by omega⟩
    · rw [if_neg hm]
      constructor
      · rintro ⟨h2, h3⟩
        have e : x ≠ a := fun e => hm (by rw [← e]; exact h2)
        exact .inr ⟨h2, by omega⟩
      · rintro (h | ⟨h2, h3⟩)
        · cases h
        · exact ⟨h2, by omega⟩
def listB (b : List Bool) : List Int := ((List.range b.length).filter fun t => b.getD t false).map Int.ofNat
theorem listB_mem (b : List Bool) (x : Int) : x ∈ listB b ↔ ∃ t : Nat, x = (t : Int) ∧ Tr b t := by
  unfold listB
  rw [List.mem_map]
  constructor
  · rintro ⟨t, ht, rfl⟩
    exact ⟨t, rfl, (List.mem_filter.1 ht).2⟩
  · rintro ⟨t, rfl, ht⟩
    exact ⟨t, List.mem_filter.2 ⟨List.mem_range.2 (Tr_lt ht), ht⟩, rfl⟩
theorem listB_rises (b : List Bool) : Rises (listB b) := by
  unfold listB Rises
  rw [List.pairwise_map]
  exact (List.Pairwise.filter _ List.pairwise_lt_range).imp fun h => by simp; omega
theorem listB_row {ms : List (List Move)} {b : List Bool} {X : Nat → Prop} (hb : b.length = ms.length) (h : ∀ t, Tr b t ↔ X t) : Row ms (listB b) X := by
  refine ⟨?_, fun v hv => ?_, fun t => ?_, listB_rises b⟩
  · unfold listB
    rw [List.length_map, ← hb]
    exact Nat.le_trans (List.length_filter_le _ _) (by simp)
  · obtain ⟨t, rfl, ht⟩ := (listB_mem b v).1 hv
    have := Tr_lt ht; omega
  · rw [listB_mem]
    constructor
    · rintro ⟨u, e, hu⟩
      obtain rfl : t = u := by omega
      exact (h t).1 hu
    · intro hx; exact ⟨t, rfl, (h t).2 hx⟩
theorem list8_is (L N : Nat) (b : List Bool) (hb : b.length ≤ 1048576) (hL : 1048576 < L) : f49 L N b = some (listB b) := by
  obtain ⟨q, e1, e2, e3, -⟩ := list8_ok L N b hb hL
  rw [e1, rises_ext e3 (listB_rises b) fun x => (e2 x).trans (listB_mem b x).symm]
theorem any8_ok (L N : Nat) (b : List Bool) (hb : b.length ≤ 1048576) (hL : 1048576 < L) : ∃ r, f20 L N b = some r ∧ (r = true ↔ ∃ t, Tr b t) := by
  show ∃ r, f20.b L N some b = some r ∧ _
  unfold f20.b f20.b'
  have key : ∀ (n i : Nat), i ≤ b.length → b.length - i < n → (∀ t, t < i → ¬ Tr b t) → ∃ r, f20.l0 L N (f20.p0_e0 L N some) (fun z2 => f20.p0_r L N some z2) n b (i : Int) = some r ∧ (r = true ↔ ∃ t, Tr b t) := by
    intro n
    induction n with
    | zero => intro i _ h; omega
    | succ n ih =>
      intro i hi hn hno
      show ∃ r, f20.s0 L N _ _ (f20.l0 L N _ _ n) b (i : Int) = some r ∧ _
      unfold f20.s0 f20.s0'
      by_cases hlt : i < b.length
      · simp only [lt_cast hlt, le0, cond_true, Bool.and_true, Int.toNat_natCast, atD]
        cases hc : b.getD i false with
        | true => rw [cond_true]; exact ⟨true, rfl, fun _ => ⟨i, hc⟩, fun _ => rfl⟩
        | false =>
          rw [cond_false, wi_nat (by omega)]
          refine ih (i + 1) (by omega) (by omega) fun t ht h => ?_
          by_cases e : t = i
          · subst e; unfold Tr at h; rw [hc] at h; cases h
          · exact hno t (by omega) h
      · rw [ge_cast hlt, cond_false]
        exact ⟨false, rfl, fun h => (by cases h), fun ⟨t, ht⟩ => absurd ht (hno t (by have := Tr_lt ht; omega))⟩
  exact key L 0 (by omega) (by omega) fun t h => by omega
theorem find8_ok (L N : Nat) (sets : List (List Bool)) (b : List Bool) (hs : ∀ s ∈ sets, s.length ≤ 1048576) (hb : b.length ≤ 1048576) (hl : sets.length ≤ 1048576) (hL : 1048576 < L) : f21 L N sets b = some (((sets.map listB).idxOf (listB b) : Nat) : Int) := by
  show f21.b L N some sets b = _
  unfold f21.b f21.b'
  have key : ∀ (n i : Nat), i ≤ sets.length → sets.length - i < n → f21.l0 L N (fun z3 => f21.p0_e0 L N some z3) (fun z7 z8 => f21.p0_r L N some z7 z8) n sets b (i : Int) = some (((i + ((sets.drop i).map listB).idxOf (listB b)) : Nat) : Int) := by
    intro n
    induction n with
    | zero => intro i _ h; omega
    | succ n ih =>
      intro i hi hn
      show f21.s0 L N _ _ (f21.l0 L N _ _ n) sets b (i : Int) = _
      unfold f21.s0 f21.s0'
      by_cases hlt : i < sets.length
      · have h1 := list8_is L N sets[i] (hs _ (List.getElem_mem hlt)) hL
        have h2 := list8_is L N b hb hL
        have hlen : (listB sets[i]).length ≤ 1048576 := by
          unfold listB
          rw [List.length_map]
          exact Nat.le_trans (List.length_filter_le _ _) (by simpa using hs _ (List.getElem_mem hlt))
        obtain ⟨r, e1, e2⟩ := l4Same_ok L N (listB sets[i]) (listB b) (by omega) hlen
        simp only [lt_cast hlt, le0, cond_true, Bool.and_true, Int.toNat_natCast, at_lt hlt, h1, h2, Option.bind_some, e1]
        rw [List.drop_eq_getElem_cons hlt, List.map_cons, List.idxOf_cons]
        cases hr : r with
        | true =>
          have he := e2.1 hr
          rw [cond_true, he, beq_self_eq_true, cond_true]
          rfl
        | false =>
          have he : ¬ listB sets[i] = listB b := fun h => by rw [e2.2 h] at hr; cases hr
          rw [cond_false, wi_nat (by omega), ih (i + 1) (by omega) (by omega), beq_eq_false_iff_ne.2 he, cond_false]
          congr 2
          omega
      · rw [ge_cast hlt, cond_false, List.drop_eq_nil_of_le (by omega)]
        show some ((sets.length : Nat) : Int) = _
        simp; omega
  have := key L 0 (by omega) (by omega)
  rw [List.drop_zero, Nat.zero_add] at this
  exact this
end Go.Proofs.YtffkhhblppfbfaaDoor.Ev
namespace Go.Proofs.YtffkhhblppfbfaaDoor.Ev
open Go
set_option linter.unusedVariables false
set_option linter.unusedSimpArgs false
theorem idx_not {α : Type} [BEq α] [LawfulBEq α] {a : α} : ∀ {l : List α}, a ∉ l → l.idxOf a = l.length
  | [], _ => rfl
  | b :: l, h => by
    have hne : (b == a) = false := beq_eq_false_iff_ne.2 fun e => h (by rw [e]; exact .head _)
    rw [List.idxOf_cons, hne, cond_false, idx_not fun hm => h (.tail _ hm)]; rfl
def Fits (ms : List (List Move)) (q : List Int) : Prop := Row ms q fun t => (t : Int) ∈ q
theorem Row.fits {ms : List (List Move)} {q : List Int} {X : Nat → Prop} (h : Row ms q X) : Fits ms q := ⟨h.1, h.2.1, fun _ => Iff.rfl, h.2.2.2⟩
theorem Fits.key {ms : List (List Move)} (hm : Leads ms) {q : List Int} (h : Fits ms q) : q.length ≤ 60 ∧ ∀ v ∈ q, 0 ≤ v ∧ v < 60 := by
  have hn := hm.1
  have h1 := h.1
  exact ⟨by omega, fun v hv => by have := h.2.1 v hv; omega⟩
section
variable (L N : Nat) (ms : List (List Move))
def aftA (q : List Int) (a : Int) : List Int := (f36 L N ⟨ms⟩ q a).getD []
theorem aftA_ok (hm : Leads ms) (hL : 8589934592 ≤ L) (q : List Int) (hq : Fits ms q) (a : Int) : f36 L N ⟨ms⟩ q a = some (aftA L N ms q a) ∧ Row ms (aftA L N ms q a) (Slip ms (StepX ms (fun t => (t : Int) ∈ q) a)) := by
  obtain ⟨q', e, h⟩ := after_row L N ms q _ a hm hq (by omega)
  unfold aftA
  rw [e]
  exact ⟨rfl, h⟩
theorem aftA_some (hm : Leads ms) (hL : 8589934592 ≤ L) (q : List Int) (hq : Fits ms q) (a : Int) : aftA L N ms q a ≠ [] ↔ ∃ t, StepX ms (fun t => (t : Int) ∈ q) a t := by
  obtain ⟨-, h⟩ := aftA_ok L N ms hm hL q hq a
  rw [← List.length_pos_iff, h.some]
  exact ⟨fun ⟨t, ht⟩ => slip_some ht, fun ⟨t, ht⟩ => ⟨t, .base t ht⟩⟩
end
end Go.Proofs.YtffkhhblppfbfaaDoor.Ev
namespace Go.Proofs.YtffkhhblppfbfaaDoor.Ev
open Go
set_option linter.unusedVariables false
set_option linter.unusedSimpArgs false
def place (a : Int) : Nat := (if a > 0 then 3 + a else -a - 1).toNat
theorem place_lt {a : Int} (h : -4 ≤ a ∧ a ≤ 4) (h0 : a ≠ 0) : place a < 8 := by unfold place; split <;> omega
theorem place_ok (L N : Nat) {a : Int} (h : -4 ≤ a ∧ a ≤ 4) (h0 : a ≠ 0) : f46 L N a = some (place a : Int) := by
  show f46.b L N some a = _
  unfold f46.b f46.b' place
  by_cases hp : a > 0
  · rw [dt hp, cond_true, wi_id (n := 4 + a) (by omega) (by omega), wi_id (by omega) (by omega), if_pos hp]
    congr 1; omega
  · rw [df hp, cond_false, wi_id (n := 0 - a) (by omega) (by omega), wi_id (by omega) (by omega), if_neg hp]
    congr 1; omega
def ActsOk (row : List Move) : Prop := ∀ m ∈ row, -4 ≤ m.act ∧ m.act ≤ 4
def calmR (row : List Move) : Bool := row.all fun m => !(m.act == 0)
def offersR (row : List Move) (k : Nat) : Bool := row.any fun m => !(m.act == 0) && place m.act == k
theorem any_take {α : Type} {p : α → Bool} {x : List α} {i : Nat} (h : i < x.length) : (x.take (i + 1)).any p = ((x.take i).any p || p x[i]) := by
  rw [List.take_succ_eq_append_getElem h, List.any_append]; simp
theorem all_take {α : Type} {p : α → Bool} {x : List α} {i : Nat} (h : i < x.length) : (x.take (i + 1)).all p = ((x.take i).all p && p x[i]) := by
  rw [List.take_succ_eq_append_getElem h, List.all_append]; simp
theorem offers_ok (L N : Nat) (g : Graph) (s : Nat) (hs : s < g.moves.length) (ha : ActsOk g.moves[s]) (hL : 1048576 < L) (hl : (g.moves[s]).length ≤ 1048576) :
    ∃ offs, f79 L N g (s : Int) = some (offs, calmR g.moves[s]) ∧ offs.length = 8 ∧ ∀ k, k < 8 → offs.getD k false = offersR g.moves[s] k := by
  show ∃ offs, f79.b L N (fun a0 a1 => some (a0, a1)) g (s : Int) = _ ∧ _
  unfold f79.b f79.b'
  obtain ⟨⟨calm, offs⟩, h1, h2, h3, h4⟩ := inv_loop (l := fun n i st => f79.l0 L N (fun z5 z6 => f79.p0_e0 L N (fun a0 a1 => some (a0, a1)) z5 z6) n (s : Int) st.1 i g.moves st.2) (len := (g.moves[s]).length) (K := fun st => some (st.2, st.1))
    (fun i st => st.2.length = 8 ∧ st.1 = calmR ((g.moves[s]).take i) ∧ ∀ k, k < 8 → st.2.getD k false = offersR ((g.moves[s]).take i) k) (fun n i st hi ⟨p1, p2, p3⟩ => by
      show ∃ s', f79.s0 L N _ (f79.l0 L N _ n) (s : Int) st.1 i g.moves st.2 = _ ∧ _
      unfold f79.s0 f79.s0'
      simp only [le0, lt_cast hs, lt_cast hi, cond_true, Bool.and_true, Bool.true_and, Int.toNat_natCast, at_lt hs, at_lt hi, wi_nat (show i < 9223372036854775807 by omega)]
      by_cases h0 : (g.moves[s])[i].act = 0
      · have hb : ((g.moves[s])[i].act == 0) = true := by simpa using h0
        rw [hb]
        simp only [cond_true]
        refine ⟨(false, st.2), rfl, p1, ?_, fun k hk => ?_⟩
        · show false = _
          unfold calmR; rw [all_take hi, hb]; simp
        · show st.2.getD k false = _
          rw [p3 k hk]
          unfold offersR; rw [any_take hi, hb]; simp
      · have hb : ((g.moves[s])[i].act == 0) = false := by simpa using h0
        have hr := ha _ (List.getElem_mem hi)
        have hp := place_lt hr h0
        rw [hb]
        simp only [cond_false, place_ok L N hr h0, Option.bind_some, le0, lt_cast (show place (g.moves[s])[i].act < st.2.length by omega), Bool.and_true, cond_true, Int.toNat_natCast]
        refine ⟨(st.1, st.2.set (place (g.moves[s])[i].act) true), rfl, by simp [p1], ?_, fun k hk => ?_⟩
        · show st.1 = _
          rw [p2]
          unfold calmR; rw [all_take hi, hb]; simp
        · show (st.2.set (place (g.moves[s])[i].act) true).getD k false = _
          have e1 : offersR ((g.moves[s]).take (i + 1)) k = (offersR ((g.moves[s]).take i) k || place (g.moves[s])[i].act == k) := by
            unfold offersR; rw [any_take hi, hb]; simp
          rw [e1, ← p3 k hk, List.getD_eq_getElem?_getD, List.getD_eq_getElem?_getD]
          by_cases hk2 : place (g.moves[s])[i].act = k
          · subst hk2
            rw [List.getElem?_set_self (by omega)]; simp
          · rw [List.getElem?_set_ne hk2]
            have : (place (g.moves[s])[i].act == k) = false := by simpa using hk2
            rw [this]; simp) (fun n st _ => by
      show f79.s0 L N _ (f79.l0 L N _ n) (s : Int) st.1 (g.moves[s]).length g.moves st.2 = _
      unfold f79.s0 f79.s0'
      simp only [le0, lt_cast hs, cond_true, Bool.and_true, Bool.true_and, Int.toNat_natCast, at_lt hs, ge_cast (Nat.lt_irrefl _), cond_false]
      rfl) L 0 (true, List.replicate 8 false) (by omega) (by omega) ⟨by simp, rfl, fun k hk => by
        rw [List.getD_eq_getElem?_getD, List.getElem?_replicate, if_pos hk]; rfl⟩
  rw [List.take_length] at h3 h4
  simp only at h2 h3 h4
  subst h3
  exact ⟨offs, h1, h2, h4⟩
theorem refuses2_ok (L N : Nat) (g : Graph) (s : Nat) (menu : List Bool) (hs : s < g.moves.length) (ha : ActsOk g.moves[s]) (hm : menu.length = 8) (hL : 1048576 < L) (hl : (g.moves[s]).length ≤ 1048576) :
    f68 L N g (s : Int) menu = some (calmR g.moves[s] && !((g.moves[s]).any fun m => !(m.act == 0) && menu.getD (place m.act) false)) := by
  obtain ⟨offs, h1, h2, h3⟩ := offers_ok L N g s hs ha hL hl
  show f68.b L N some g (s : Int) menu = _
  unfold f68.b f68.b'
  have hg : Graph.mk g.moves = g := by cases g; rfl
  rw [hg, h1]
  simp only [Option.bind_some]
  refine (all_loop (l := fun n k => f68.l0 L N (fun z5 => f68.p0_e0 L N some z5) (fun z11 z12 => f68.p0_r L N some z11 z12) n menu offs (calmR g.moves[s]) k) (len := menu.length) (q := fun k => !(menu.getD k false && offs.getD k false)) (rt := some (calmR g.moves[s])) (rf := some false) (fun n k hk => ?_) (fun n => ?_) L 0 (by omega) (by omega)).trans ?_
  · show f68.s0 L N _ _ (f68.l0 L N _ _ n) menu offs _ k = _
    unfold f68.s0 f68.s0'
    simp only [le0, lt_cast hk, lt_cast (show k < offs.length by omega), cond_true, Bool.and_true, Bool.true_and, Int.toNat_natCast, atD, wi_nat (show k < 9223372036854775807 by omega)]
    cases menu.getD k false
    · rfl
    · cases offs.getD k false <;> rfl
  · show f68.s0 L N _ _ (f68.l0 L N _ _ n) menu offs _ menu.length = _
    unfold f68.s0 f68.s0'
    simp only [ge_cast (Nat.lt_irrefl _), cond_false]
    rfl
  · have key : allN (fun k => !(menu.getD k false && offs.getD k false)) (menu.length - 0) 0 = !((g.moves[s]).any fun m => !(m.act == 0) && menu.getD (place m.act) false) := by
      apply Bool.eq_iff_iff.2
      constructor
      · intro h
        rw [Bool.not_eq_true', List.any_eq_false]
        intro m hmm
        by_cases h0 : m.act = 0
        · simp [h0]
        · have hb : (m.act == 0) = false := by simpa using h0
          have hp := place_lt (ha m hmm) h0
          have h4 := allN_get _ 0 h (place m.act) (by omega) (by omega)
          have h5 : offersR g.moves[s] (place m.act) = true := by
            unfold offersR
            rw [List.any_eq_true]
            exact ⟨m, hmm, by simp [hb]⟩
          simp only [h3 _ hp, h5, Bool.and_true] at h4
          simp only [hb, Bool.not_false, Bool.true_and]
          simpa using h4
      · intro h
        rw [Bool.not_eq_true', List.any_eq_false] at h
        have : ∀ j, 0 ≤ j → j < 0 + (menu.length - 0) → (fun k => !(menu.getD k false && offs.getD k false)) j = (fun _ => true) j := by
          intro j _ hj
          have hj8 : j < 8 := by omega
          simp only [h3 j hj8]
          cases ho : offersR g.moves[s] j
          · simp
          · unfold offersR at ho
            rw [List.any_eq_true] at ho
            obtain ⟨m, hmm, h6⟩ := ho
            simp only [Bool.and_eq_true, Bool.not_eq_true', beq_iff_eq] at h6
            have h7 := h m hmm
            have hb : (m.act == 0) = false := by simpa using h6.1
            simp only [hb, Bool.not_false, Bool.true_and, h6.2] at h7
            simpa using h7
        rw [allN_eq _ _ this, allN_true]
    rw [key]
    cases calmR g.moves[s] <;> cases (g.moves[s]).any (fun m => !(m.act == 0) && menu.getD (place m.act) false) <;> rfl
theorem calm_ok (L N : Nat) (g : Graph) (s : Nat) (hs : s < g.moves.length) (hL : 1048576 < L) (hl : (g.moves[s]).length ≤ 1048576) : f28 L N g (s : Int) = some (calmR g.moves[s]) := by
  generalize hrow : g.moves[s] = row
  rw [hrow] at hl
  obtain ⟨r, hr, hd⟩ := find_loop (l := fun n i => f61_2.l0 L N (f61_2.p0_e0 L N some) (fun z4 => f61_2.p0_r L N some z4) n row (row.length : Int) i) (x := row) (p := fun m => m.act == 0) (fun n i hi => by
    show f61_2.s0 L N _ _ (f61_2.l0 L N _ _ n) row (row.length : Int) i = _
    unfold f61_2.s0 f61_2.s0'
    have hc : ∀ m : Move, f60 L N m = some (m.act == 0) := fun m => rfl
    simp only [lt_cast hi, le0, cond_true, Bool.and_true, Int.toNat_natCast, at_lt hi, hc, Option.bind_some, wi_nat (show i < 9223372036854775807 by omega)]
    rfl) (fun n => by
    show f61_2.s0 L N _ _ (f61_2.l0 L N _ _ n) row (row.length : Int) row.length = _
    unfold f61_2.s0 f61_2.s0'
    simp only [ge_cast (Nat.lt_irrefl _), cond_false]
    rfl) L 0 (by omega) (by omega)
  have h91 : f61_2 L N row = some r := hr
  have h71 : f29_3 L N row = some (decide (r ≥ 0)) := by
    show f29_3.b L N some row = _
    unfold f29_3.b f29_3.b'
    rw [h91]; rfl
  show f28.b L N some g (s : Int) = _
  unfold f28.b f28.b'
  simp only [le0, lt_cast hs, Bool.and_true, cond_true, Int.toNat_natCast, at_lt hs, hrow, h71, Option.bind_some, hd, List.drop_zero]
  congr 1
  unfold calmR
  clear h71 h91 hd hr hl hrow
  induction row with
  | nil => rfl
  | cons a row ih => rw [List.any_cons, List.all_cons, Bool.not_or, ih]
end Go.Proofs.YtffkhhblppfbfaaDoor.Ev
namespace Go.Proofs.YtffkhhblppfbfaaDoor.Ev
open Go
set_option linter.unusedVariables false
set_option linter.unusedSimpArgs false
def refR (row : List Move) (menu : List Bool) : Bool := calmR row && !(row.any fun m => !(m.act == 0) && menu.getD (place m.act) false)
theorem refR_iff {row : List Move} {menu : List Bool} : refR row menu = true ↔ (∀ m ∈ row, m.act ≠ 0) ∧ ∀ m ∈ row, menu.getD (place m.act) false = false := by
  unfold refR calmR
  rw [Bool.and_eq_true, List.all_eq_true, Bool.not_eq_true', List.any_eq_false]
  constructor
  · rintro ⟨h1, h2⟩
    have h3 : ∀ m ∈ row, m.act ≠ 0 := fun m hm e => by have := h1 m hm; rw [e] at this; exact absurd this (by decide)
    refine ⟨h3, fun m hm => ?_⟩
    have := h2 m hm
    have hb : (m.act == 0) = false := by simpa using h3 m hm
    rw [hb] at this
    simpa using this
  · rintro ⟨h1, h2⟩
    refine ⟨fun m hm => ?_, fun m hm h => ?_⟩
    · have : (m.act == 0) = false := by simpa using h1 m hm
      rw [this]; rfl
    · rw [Bool.and_eq_true] at h
      rw [h2 m hm] at h
      cases h.2
end Go.Proofs.YtffkhhblppfbfaaDoor.Ev
namespace Go.Proofs.YtffkhhblppfbfaaDoor.Ev
open Go
set_option linter.unusedVariables false
set_option linter.unusedSimpArgs false
theorem acts_of {g : Graph} (hok : graphOk g = true) {k : Nat} (hk : k < g.moves.length) : ActsOk g.moves[k] := fun m hm => by
  obtain ⟨i, hi, rfl⟩ := List.mem_iff_getElem.1 hm
  have := (graphOk_mv hok).2.2 k hk i hi
  exact ⟨this.1, this.2.1⟩
theorem failsS_ok (L N : Nat) (g : Graph) (hok : graphOk g = true) (hg : g.moves.length + gsize g.moves ≤ 1048576) (hL : 1048576 < L) (m : List Bool) (h8 : m.length = 8) (x : List Bool) (hx : x.length = g.moves.length) :
    ∃ b, f47 L N g x m = some b ∧ (b = true ↔ ∃ t, Tr x t ∧ ∃ h : t < g.moves.length, refR g.moves[t] m = true) := by
  have hn := (leads_of hok hg).1
  have hge : Graph.mk g.moves = g := by cases g; rfl
  show ∃ b, f47.b L N some g x m = some b ∧ _
  unfold f47.b f47.b'
  have lp : ∀ (n i : Nat), i ≤ x.length → x.length - i < n → (∀ t, t < i → ¬ (Tr x t ∧ ∃ h : t < g.moves.length, refR g.moves[t] m = true)) →
      ∃ b, f47.l0 L N (f47.p0_e0 L N some) (fun z10 => f47.p0_r L N some z10) n x m (i : Int) g.moves = some b ∧ (b = true ↔ ∃ t, Tr x t ∧ ∃ h : t < g.moves.length, refR g.moves[t] m = true) := by
    intro n
    induction n with
    | zero => intro i _ h; omega
    | succ n ih =>
      intro i hi hn' hno
      show ∃ b, f47.s0 L N _ _ (f47.l0 L N _ _ n) x m (i : Int) g.moves = some b ∧ _
      unfold f47.s0 f47.s0'
      by_cases hlt : i < x.length
      · have hin : i < g.moves.length := by omega
        have hrow := gsize_row _ (List.getElem_mem hin)
        simp only [lt_cast hlt, le0, Bool.and_true, cond_true, Int.toNat_natCast, atD]
        have next : ¬ (Tr x i ∧ ∃ h : i < g.moves.length, refR g.moves[i] m = true) → ∃ b, f47.l0 L N (f47.p0_e0 L N some) (fun z10 => f47.p0_r L N some z10) n x m (wi ((i : Int) + 1)) g.moves = some b ∧ (b = true ↔ ∃ t, Tr x t ∧ ∃ h : t < g.moves.length, refR g.moves[t] m = true) := fun hni => by
          rw [wi_nat (by omega)]
          refine ih (i + 1) (by omega) (by omega) fun t ht => ?_
          by_cases e : t < i
          · exact hno t e
          · obtain rfl : t = i := by omega
            exact hni
        cases hb : x.getD i false with
        | false => rw [cond_false]; exact next fun h => by have := h.1; unfold Tr at this; rw [hb] at this; cases this
        | true =>
          rw [cond_true, hge, refuses2_ok L N g i m hin (acts_of hok hin) h8 hL (by omega), Option.bind_some]
          cases hr : refR g.moves[i] m with
          | true =>
            rw [show (calmR g.moves[i] && !((g.moves[i]).any fun m' => !(m'.act == 0) && m.getD (place m'.act) false)) = true from hr, cond_true]
            exact ⟨true, rfl, ⟨fun _ => ⟨i, hb, hin, hr⟩, fun _ => rfl⟩⟩
          | false =>
            rw [show (calmR g.moves[i] && !((g.moves[i]).any fun m' => !(m'.act == 0) && m.getD (place m'.act) false)) = false from hr, cond_false]
            refine next fun h => ?_
            obtain ⟨-, _, h2⟩ := h
            rw [hr] at h2; cases h2
      · rw [ge_cast hlt, cond_false]
        refine ⟨false, rfl, ⟨fun h => (by cases h), fun ⟨t, ht, h⟩ => ?_⟩⟩
        exact absurd ⟨ht, h⟩ (hno t (by have := Tr_lt ht; omega))
  exact lp L 0 (by omega) (by omega) fun t h => by omega
end Go.Proofs.YtffkhhblppfbfaaDoor.Ev
namespace Go.Proofs.YtffkhhblppfbfaaDoor.Ev
open Go
set_option linter.unusedVariables false
set_option linter.unusedSimpArgs false
theorem hasAct_ok (L N : Nat) (row : List Move) (a : Int) (hL : 1048576 < L) (hl : row.length ≤ 1048576) : f29_2 L N row a = some (row.any fun m => m.act == a) := by
  have key : ∀ (n i : Nat), i ≤ row.length → row.length - i < n → ∃ r : Int, f61_3.l0 L N (f61_3.p0_e0 L N some) (fun z5 => f61_3.p0_r L N some z5) n row a (row.length : Int) (i : Int) = some r ∧ decide (r ≥ 0) = (row.drop i).any fun m => m.act == a := by
    intro n
    induction n with
    | zero => intro i _ h; omega
    | succ n ih =>
      intro i hi hn
      show ∃ r : Int, f61_3.s0 L N _ _ (f61_3.l0 L N _ _ n) row a (row.length : Int) (i : Int) = some r ∧ _
      unfold f61_3.s0 f61_3.s0'
      by_cases hlt : i < row.length
      · have hc : ∀ m : Move, f30_1 L N m a = some (m.act == a) := fun m => rfl
        simp only [lt_cast hlt, le0, cond_true, Bool.and_true, Int.toNat_natCast, at_lt hlt, hc, Option.bind_some]
        rw [List.drop_eq_getElem_cons hlt, List.any_cons]
        cases hb : (row[i].act == a) with
        | true => rw [cond_true]; exact ⟨(i : Int), rfl, by rw [Bool.true_or]; exact dt (by omega)⟩
        | false => rw [cond_false, Bool.false_or, wi_nat (by omega)]; exact ih (i + 1) (by omega) (by omega)
      · rw [ge_cast hlt, cond_false, List.drop_eq_nil_of_le (by omega)]
        exact ⟨-1, rfl, rfl⟩
  obtain ⟨r, h1, h2⟩ := key L 0 (by omega) (by omega)
  rw [List.drop_zero] at h2
  have h3 : f61_3 L N row a = some r := h1
  show f29_2.b L N some row a = _
  unfold f29_2.b f29_2.b'
  rw [h3, Option.bind_some, h2]
def lacksR (ms : List (List Move)) (a : Int) (s : Int) : Bool := calmR (ms.getD s.toNat []) && !(ms.getD s.toNat []).any fun m => m.act == a
theorem failSure1_ok (L N : Nat) (ms : List (List Move)) (hm : Leads ms) (hL : 8589934592 ≤ L) (u : Bool) (q r w : List Int) (hq : Fits ms q) :
    ∃ ac, f27 L N ⟨ms⟩ q = some ac ∧ Rises ac ∧ ac.length ≤ 100000000 ∧ (∀ a, a ∈ ac ↔ a ≠ 0 ∧ ∃ t, StepX ms (fun t => (t : Int) ∈ q) a t) ∧
      f26_1 L N u ⟨q, r, w⟩ ms = some (u || ac.any fun a => q.any (lacksR ms a), u || ac.any fun a => q.any (lacksR ms a)) := by
  have hlim := lim_eq
  have hn := hm.1
  have hql := hq.1
  obtain ⟨ac, e1, e2, e3, e4⟩ := actsOf_ok L N ms hm q _ hq (by omega)
  refine ⟨ac, e1, e2, e3, e4, ?_⟩
  show f26_1.b L N (fun a0 a1 => some (a0, a1)) u ⟨q, r, w⟩ ms = _
  unfold f26_1.b f26_1.b'
  have e1' : f27 L N ⟨ms⟩ (Duo.mk q r w).a = some ac := e1
  rw [e1', Option.bind_some]
  have key : ∀ (n i : Nat) (u : Bool), i ≤ ac.length → ac.length - i < n →
      f26_1.l0 L N (fun z9 => f26_1.p0_e0 L N (fun a0 a1 => some (a0, a1)) z9) n ms ac (ac.length : Int) (i : Int) u q r w = some (u || (ac.drop i).any fun a => q.any (lacksR ms a), u || (ac.drop i).any fun a => q.any (lacksR ms a)) := by
    intro n
    induction n with
    | zero => intro i u _ h; omega
    | succ n ih =>
      intro i u hi hin
      show f26_1.s0 L N _ (f26_1.l0 L N _ n) ms ac (ac.length : Int) (i : Int) u q r w = _
      unfold f26_1.s0 f26_1.s0'
      by_cases hlt : i < ac.length
      · have inner : ∀ (n' j : Nat) (u : Bool), j ≤ q.length → q.length - j < n' →
            f26_1.l1 L N (fun z22 z23 z24 z25 z26 z27 z28 z29 => f26_1.p1_e2 L N (fun z9 => f26_1.p0_e0 L N (fun a0 a1 => some (a0, a1)) z9) (f26_1.l0 L N (fun z9 => f26_1.p0_e0 L N (fun a0 a1 => some (a0, a1)) z9) n) z22 z23 z24 z25 z26 z27 z28 z29) n' ms ac (ac.length : Int) (i : Int) q (q.length : Int) (j : Int) u q r w ac[i]
              = f26_1.l0 L N (fun z9 => f26_1.p0_e0 L N (fun a0 a1 => some (a0, a1)) z9) n ms ac (ac.length : Int) ((i + 1 : Nat) : Int) (u || (q.drop j).any (lacksR ms ac[i])) q r w := by
          intro n'
          induction n' with
          | zero => intro j u _ h; omega
          | succ n' ih' =>
            intro j u hj hjn
            show f26_1.s1 L N _ (f26_1.l1 L N _ n') ms ac (ac.length : Int) (i : Int) q (q.length : Int) (j : Int) u q r w ac[i] = _
            unfold f26_1.s1 f26_1.s1'
            by_cases hjl : j < q.length
            · have hv := hq.2.1 _ (List.getElem_mem hjl)
              obtain ⟨s, hs⟩ := Int.eq_ofNat_of_zero_le hv.1
              have hsl : s < ms.length := by omega
              have hrl := (hm.2 s hsl).1
              have hcalm := calm_ok L N ⟨ms⟩ s hsl (by omega) hrl
              have hhas := hasAct_ok L N ms[s] ac[i] (by omega) hrl
              have hl : lacksR ms ac[i] q[j] = (calmR ms[s] && !(ms[s]).any fun m => m.act == ac[i]) := by unfold lacksR; rw [hs, Int.toNat_natCast, getD_lt hsl]
              rw [List.drop_eq_getElem_cons hjl, List.any_cons, hl]
              simp only [lt_cast hjl, le0, cond_true, Bool.and_true, Int.toNat_natCast, at_lt hjl, hs, hcalm, Option.bind_some, lt_cast hsl, at_lt hsl, hhas]
              rw [wi_nat (by omega)]
              cases u with
              | true => rw [cond_true, ih' (j + 1) true (by omega) (by omega), Bool.true_or, Bool.true_or]
              | false =>
                rw [cond_false]
                have hcr : calmR (Graph.mk ms).moves[s] = calmR ms[s] := rfl
                rw [hcr]
                cases calmR ms[s] with
                | true => rw [cond_true, ih' (j + 1) _ (by omega) (by omega), Bool.true_and, Bool.false_or]
                | false => rw [cond_false, ih' (j + 1) false (by omega) (by omega)]; simp only [Bool.false_and, Bool.false_or]
            · rw [ge_cast hjl, cond_false, List.drop_eq_nil_of_le (by omega)]
              show f26_1.p1_e2 L N _ _ ms ac (ac.length : Int) (i : Int) u q r w = _
              unfold f26_1.p1_e2 f26_1.p1_e2'
              rw [wi_nat (by omega), List.any_nil, Bool.or_false]
        have h1 := inner L 0 u (by omega) (by omega)
        rw [List.drop_zero] at h1
        simp only [lt_cast hlt, le0, cond_true, Bool.and_true, Int.toNat_natCast, at_lt hlt]
        refine (show _ = _ from h1).trans ?_
        rw [ih (i + 1) _ (by omega) (by omega), List.drop_eq_getElem_cons hlt, List.any_cons, Bool.or_assoc]
      · rw [ge_cast hlt, cond_false, List.drop_eq_nil_of_le (by omega), List.any_nil, Bool.or_false]
        rfl
  have := key L 0 u (by omega) (by omega)
  rw [List.drop_zero] at this
  exact this
end Go.Proofs.YtffkhhblppfbfaaDoor.Ev
namespace Go.Proofs.YtffkhhblppfbfaaDoor.Ev
open Go
set_option linter.unusedVariables false
set_option linter.unusedSimpArgs false
def stepB (A : Int → List Int) : List Int → List (List Int) → List (List Int)
  | [], S => S
  | a :: ac, S => stepB A ac (if A a ∈ S then S else S ++ [A a])
theorem findB_put (x y : ByteArray) (v : Bool) : ∀ es : List (ByteArray × Bool), mapFind .str .bool x (mapPut .str .bool y v es) = if y = x then some v else mapFind .str .bool x es
  | [] => by
    show (bif keyEq .str x y then some v else none) = _
    by_cases e : y = x
    · subst e
      rw [show keyEq .str y y = true from by rw [keyEq_str]; exact dt rfl, cond_true, if_pos rfl]
    · rw [show keyEq .str x y = false from by rw [keyEq_str]; exact df fun h => e h.symm, cond_false, if_neg e]; rfl
  | (k, u) :: r => by
    have ih := findB_put x y v r
    by_cases e : y = k
    · subst e
      have h1 : mapPut .str .bool y v ((y, u) :: r) = (y, v) :: r := by
        show (bif keyEq .str y y then (y, v) :: r else _) = _
        rw [show keyEq .str y y = true from by rw [keyEq_str]; exact dt rfl, cond_true]
      rw [h1]
      show (bif keyEq .str x y then some v else mapFind .str .bool x r) = if y = x then some v else (bif keyEq .str x y then some u else mapFind .str .bool x r)
      by_cases e2 : y = x
      · subst e2
        rw [show keyEq .str y y = true from by rw [keyEq_str]; exact dt rfl, cond_true, if_pos rfl]
      · rw [show keyEq .str x y = false from by rw [keyEq_str]; exact df fun h => e2 h.symm, cond_false, cond_false, if_neg e2]
    · have h1 : mapPut .str .bool y v ((k, u) :: r) = (k, u) :: mapPut .str .bool y v r := by
        show (bif keyEq .str y k then _ else (k, u) :: mapPut .str .bool y v r) = _
        rw [show keyEq .str y k = false from by rw [keyEq_str]; exact df e, cond_false]
      rw [h1]
      show (bif keyEq .str x k then some u else mapFind .str .bool x (mapPut .str .bool y v r)) = if y = x then some v else (bif keyEq .str x k then some u else mapFind .str .bool x r)
      by_cases e2 : x = k
      · subst e2
        rw [show keyEq .str x x = true from by rw [keyEq_str]; exact dt rfl, cond_true, cond_true, if_neg e]
      · rw [show keyEq .str x k = false from by rw [keyEq_str]; exact df e2, cond_false, cond_false, ih]
def keyD (q : List Int) : ByteArray := keyB q ++ keyB q
theorem keyD_eq (q : List Int) : keyD q = ⟨(keyL q ++ keyL q).toArray⟩ := ba_app _ _
theorem keyD_inj {a b : List Int} (ha : ∀ v ∈ a, 0 ≤ v ∧ v < 60) (hb : ∀ v ∈ b, 0 ≤ v ∧ v < 60) (h : keyD a = keyD b) : a = b := by
  rw [keyD_eq, keyD_eq] at h
  have h1 : (keyL a ++ keyL a).toArray = (keyL b ++ keyL b).toArray := congrArg ByteArray.data h
  have h2 : keyL a ++ keyL a = keyL b ++ keyL b := by simpa using h1
  exact (keyL_inj (fun v hv => by have := ha v hv; omega) (fun v hv => by have := hb v hv; omega) h2).1
theorem keyB_size {q : List Int} (h : q.length ≤ 60) : (keyB q).size ≤ 400 := by
  unfold keyB
  rw [ba_size]
  have : ∀ l : List Int, (numsL l).length ≤ 3 * l.length := by
    intro l
    induction l with
    | nil => simp [numsL]
    | cons a l ih =>
      have h1 := digL_len a.toNat
      have h2 : numsL (a :: l) = digL a.toNat ++ [32] ++ numsL l := by unfold numsL; rw [List.flatMap_cons]
      rw [h2]; simp; omega
  have := this q
  unfold keyL
  simp; omega
def Seen (S : List (List Int)) (es : List (ByteArray × Bool)) : Prop := ∀ x : List Int, (∀ v ∈ x, 0 ≤ v ∧ v < 60) → mapFind .str .bool (keyD x) es = if x ∈ S then some true else none
theorem Seen.add {S : List (List Int)} {es : List (ByteArray × Bool)} (h : Seen S es) {y : List Int} (hy : ∀ v ∈ y, 0 ≤ v ∧ v < 60) : Seen (S ++ [y]) (mapPut .str .bool (keyD y) true es) := by
  intro x hx
  rw [findB_put]
  by_cases e : y = x
  · subst e
    rw [if_pos rfl, if_pos (by simp)]
  · rw [if_neg (fun h => e (keyD_inj hy hx h)), h x hx]
    by_cases hm : x ∈ S
    · rw [if_pos hm, if_pos (List.mem_append_left _ hm)]
    · rw [if_neg hm, if_neg (by simp [hm]; exact fun h => e h.symm)]
theorem Seen.nil : Seen [] [] := fun x _ => by rw [if_neg (by simp)]; rfl
theorem inD {R : Type} (L N : Nat) (ms : List (List Move)) (hm : Leads ms) (hL : 8589934592 ≤ L) (K2 : Int → List (List Move) → Int → Bool → List (List Move) → List (List Move) → List Duo → List (ByteArray × Bool) → Option R) (Kr : Int → List (List Move) → Bool → Int → Bool → List (List Move) → List (List Move) → List Duo → List (ByteArray × Bool) → Option R)
    (k : Int) (u : Bool) (q w : List Int) (B : Nat) (hB : B ≤ 1000001) (hw : w.length + 1 ≤ B) (hq : Fits ms q) (ac : List Int) (hac : ac.length ≤ 100000000) (hne : ∀ a ∈ ac, aftA L N ms q a ≠ []) :
    ∀ (n j : Nat) (ds : List Duo) (es : List (ByteArray × Bool)), j ≤ ac.length → ac.length - j < n → Seen (ds.map Duo.a) es → ds.map Duo.b = ds.map Duo.a → (∀ d ∈ ds, d.w.length ≤ B) → ds.length ≤ 1000000 + j →
      ∃ ds' es', f25_1.l1 L N K2 Kr n (-1) ms k ac (ac.length : Int) (j : Int) u ms ms q q w ds es = K2 (-1) ms k u ms ms ds' es' ∧ ds'.map Duo.a = stepB (aftA L N ms q) (ac.drop j) (ds.map Duo.a) ∧ ds'.map Duo.b = ds'.map Duo.a ∧ Seen (ds'.map Duo.a) es' ∧ ∀ d ∈ ds', d.w.length ≤ B := by
  have hlim := lim_eq
  have hn := hm.1
  intro n
  induction n with
  | zero => intro j ds es _ h; omega
  | succ n ih =>
    intro j ds es hj hjn hsn hab hwl hdl
    have hu : f25_1.l1 L N K2 Kr (n + 1) (-1) ms k ac (ac.length : Int) (j : Int) u ms ms q q w ds es = f25_1.s1 L N K2 Kr (f25_1.l1 L N K2 Kr n) (-1) ms k ac (ac.length : Int) (j : Int) u ms ms q q w ds es := rfl
    rw [hu]
    unfold f25_1.s1 f25_1.s1'
    by_cases hlt : j < ac.length
    · obtain ⟨ha, hrow⟩ := aftA_ok L N ms hm hL q hq ac[j]
      have hfk := Fits.key hm hrow.fits
      have hkey := setKey_ok L N _ hfk.1 hfk.2 (by omega)
      have hksz := keyB_size hfk.1
      have hlen : 0 < (aftA L N ms q ac[j]).length := List.length_pos_iff.2 (hne _ (List.getElem_mem hlt))
      have hz : (((aftA L N ms q ac[j]).length : Int) == 0) = false := beq_eq_false_iff_ne.2 (by omega)
      have hcl : fclone w = some () := by unfold fclone; rw [dt (by omega)]; rfl
      have hl1 : decide (w.length + ([ac[j]] : List Int).length ≤ lim) = true := dt (by simp only [List.length_cons, List.length_nil]; omega)
      have hl2 : decide ((keyB (aftA L N ms q ac[j])).size + (keyB (aftA L N ms q ac[j])).size ≤ 4611686018427387904) = true := dt (by omega)
      have hf := hsn (aftA L N ms q ac[j]) hfk.2
      unfold keyD at hf
      rw [List.drop_eq_getElem_cons hlt]
      simp only [lt_cast hlt, le0, cond_true, Bool.and_true, Int.toNat_natCast, at_lt hlt, ha, Option.bind_some, hcl, hl1, hz, cond_false, hkey, hl2, hf]
      unfold stepB
      by_cases hmem : aftA L N ms q ac[j] ∈ ds.map Duo.a
      · rw [if_pos hmem, if_pos hmem, Option.getD_some, cond_true, wi_nat (by omega)]
        exact ih (j + 1) ds es (by omega) (by omega) hsn hab hwl (by omega)
      · have hl3 : decide (ds.length + ([Duo.mk (aftA L N ms q ac[j]) (aftA L N ms q ac[j]) (w ++ [ac[j]])] : List Duo).length ≤ lim) = true := dt (by simp only [List.length_cons, List.length_nil]; omega)
        rw [if_neg hmem, if_neg hmem, Option.getD_none]
        show ∃ ds' es', (bif false then _ else _) = _ ∧ _
        rw [cond_false, hl3, cond_true, wi_nat (by omega)]
        have hmp : ds.map Duo.a ++ [aftA L N ms q ac[j]] = (ds ++ [Duo.mk (aftA L N ms q ac[j]) (aftA L N ms q ac[j]) (w ++ [ac[j]])]).map Duo.a := by rw [List.map_append]; rfl
        rw [hmp]
        refine ih (j + 1) _ _ (by omega) (by omega) ?_ ?_ (fun d hd => ?_) (by simp; omega)
        · rw [← hmp]; exact hsn.add hfk.2
        · rw [List.map_append, List.map_append, hab]; rfl
        · rcases List.mem_append.1 hd with h | h
          · exact hwl d h
          · obtain rfl := List.mem_singleton.1 h; simpa using hw
    · rw [ge_cast hlt, cond_false, List.drop_eq_nil_of_le (by omega)]
      exact ⟨ds, es, rfl, rfl, hab, hsn, hwl⟩
end Go.Proofs.YtffkhhblppfbfaaDoor.Ev
namespace Go.Proofs.YtffkhhblppfbfaaDoor.Ev
open Go
set_option linter.unusedVariables false
set_option linter.unusedSimpArgs false
theorem inF {R : Type} (L N : Nat) (ms : List (List Move)) (hm : Leads ms) (hL : 8589934592 ≤ L) (K2 : Int → List (List Move) → List (List Bool) → Option R)
    (k : Nat) (q : List Int) (hq : Fits ms q) (ac : List Int) (hr : Rises ac) (hac : ∀ a, a ∈ ac ↔ a ≠ 0 ∧ aftA L N ms q a ≠ []) (h4 : ∀ a ∈ ac, -4 ≤ a ∧ a ≤ 4) :
    ∀ (d n : Nat) (sets : List (List Bool)), d ≤ 9 → d < n → (sets.map listB)[k]? = some q → (∀ s ∈ sets, s.length = ms.length) → sets.length + d ≤ 1000000 →
      ∃ sets', sets'.map listB = stepB (aftA L N ms q) (ac.filter fun b => decide ((5 : Int) - (d : Int) ≤ b)) (sets.map listB) ∧ (∀ s ∈ sets', s.length = ms.length) ∧ f6.l1 L N K2 n (k : Int) ((5 : Int) - (d : Int)) ms sets = K2 (k : Int) ms sets' := by
  have hlim := lim_eq
  have hn := hm.1
  intro d
  induction d with
  | zero =>
    intro n sets _ hn0 hk hs hl
    obtain ⟨n, rfl⟩ : ∃ n', n = n' + 1 := ⟨n - 1, by omega⟩
    have hnil : (ac.filter fun b => decide ((5 : Int) - ((0 : Nat) : Int) ≤ b)) = [] := by
      rw [List.filter_eq_nil_iff]
      intro b hb
      have := h4 b hb
      simp only [decide_eq_true_eq]; omega
    rw [hnil]
    refine ⟨sets, rfl, hs, ?_⟩
    show f6.s1 L N K2 (f6.l1 L N K2 n) (k : Int) ((5 : Int) - ((0 : Nat) : Int)) ms sets = _
    unfold f6.s1 f6.s1'
    rw [df (by omega), cond_false]
  | succ d ih =>
    intro n sets hd9 hnd hk hs hl
    obtain ⟨n, rfl⟩ : ∃ n', n = n' + 1 := ⟨n - 1, by omega⟩
    have hu : f6.l1 L N K2 (n + 1) (k : Int) ((5 : Int) - ((d + 1 : Nat) : Int)) ms sets = f6.s1 L N K2 (f6.l1 L N K2 n) (k : Int) ((5 : Int) - ((d + 1 : Nat) : Int)) ms sets := rfl
    rw [hu]
    generalize ha : (5 : Int) - ((d + 1 : Nat) : Int) = a
    have ha1 : a + 1 = (5 : Int) - (d : Int) := by omega
    have hwi : wi (a + 1) = (5 : Int) - (d : Int) := by rw [wi_id (by omega) (by omega)]; exact ha1
    have hkl : k < sets.length := by
      rcases Nat.lt_or_ge k sets.length with h | h
      · exact h
      · rw [List.getElem?_eq_none (by rw [List.length_map]; exact h)] at hk; cases hk
    have hkq : listB sets[k] = q := by
      rw [List.getElem?_map, List.getElem?_eq_getElem hkl] at hk
      exact Option.some.inj hk
    have hskl := hs _ (List.getElem_mem hkl)
    obtain ⟨out, o1, o2, o3⟩ := do8_ok L N ms sets[k] a hm hskl (by omega)
    have hrow := listB_row o2 o3
    have hx : ∀ t, Tr sets[k] t ↔ (t : Int) ∈ q := fun t => by
      rw [← hkq, listB_mem]
      exact ⟨fun h => ⟨t, rfl, h⟩, fun ⟨u, e, h⟩ => (show u = t by omega) ▸ h⟩
    have hA := (aftA_ok L N ms hm hL q hq a).2
    have hout : listB out = aftA L N ms q a := by
      refine Row.uniq (X := Slip ms (StepX ms (fun t => (t : Int) ∈ q) a)) ⟨hrow.1, hrow.2.1, fun t => (hrow.2.2.1 t).trans (Slip.iff (fun t => StepX.iff hx a t) t), hrow.2.2.2⟩ hA
    obtain ⟨r, r1, r2⟩ := any8_ok L N out (by omega) (by omega)
    have hra : r = true ↔ aftA L N ms q a ≠ [] := by
      rw [r2, ← hout]
      constructor
      · rintro ⟨t, ht⟩ e
        have := (listB_mem out (t : Int)).2 ⟨t, rfl, ht⟩
        rw [e] at this; cases this
      · intro h
        obtain ⟨v, hv⟩ := List.exists_mem_of_ne_nil _ h
        obtain ⟨t, -, ht⟩ := (listB_mem out v).1 hv
        exact ⟨t, ht⟩
    rw [from_step hr a]
    unfold f6.s1 f6.s1' f6.j0'
    simp only [dt (show a ≤ 4 by omega), lt_cast hkl, le0, Bool.and_true, cond_true, Int.toNat_natCast, at_lt hkl, o1, Option.bind_some, hwi]
    have skip : a ∉ ac → ∃ sets', sets'.map listB = stepB (aftA L N ms q) ((if a ∈ ac then [a] else []) ++ ac.filter fun b => decide (a + 1 ≤ b)) (sets.map listB) ∧ (∀ s ∈ sets', s.length = ms.length) ∧ f6.l1 L N K2 n (k : Int) ((5 : Int) - (d : Int)) ms sets = K2 (k : Int) ms sets' := fun hno => by
      rw [if_neg hno, List.nil_append, ha1]
      exact ih n sets (by omega) (by omega) hk hs (by omega)
    by_cases ha0 : a = 0
    · have hb : (a != 0) = false := by rw [ha0]; rfl
      rw [hb]
      simp only [cond_false]
      exact skip fun h => ((hac a).1 h).1 ha0
    · have hb : (a != 0) = true := by rw [bne_iff_ne]; exact ha0
      rw [hb]
      simp only [cond_true, r1, Option.bind_some]
      cases hrr : r with
      | false =>
        simp only [cond_false]
        exact skip fun h => by rw [hra.2 ((hac a).1 h).2] at hrr; cases hrr
      | true =>
        have hin : a ∈ ac := (hac a).2 ⟨ha0, hra.1 hrr⟩
        have hfind := find8_ok L N sets out (fun s hs' => by rw [hs s hs']; omega) (by omega) (by omega) (by omega)
        rw [hout] at hfind
        have hmapl : (sets.map listB).length = sets.length := List.length_map _
        simp only [cond_true, hfind, Option.bind_some]
        rw [if_pos hin, List.singleton_append]
        unfold stepB
        by_cases hmem : aftA L N ms q a ∈ sets.map listB
        · have hlt := List.idxOf_lt_length_of_mem hmem
          have b2 : ((((sets.map listB).idxOf (aftA L N ms q a) : Nat) : Int) == (sets.length : Int)) = false := beq_eq_false_iff_ne.2 (by omega)
          rw [if_pos hmem, b2, cond_false, ha1]
          exact ih n sets (by omega) (by omega) hk hs (by omega)
        · have hidx := idx_not hmem
          have b2 : ((((sets.map listB).idxOf (aftA L N ms q a) : Nat) : Int) == (sets.length : Int)) = true := beq_iff_eq.2 (by omega)
          have hl2 : decide (sets.length + ([out] : List (List Bool)).length ≤ lim) = true := dt (by simp only [List.length_cons, List.length_nil]; omega)
          have hmp : sets.map listB ++ [aftA L N ms q a] = (sets ++ [out]).map listB := by rw [List.map_append, ← hout]; rfl
          rw [if_neg hmem, b2, cond_true, hl2, cond_true, ha1, hmp]
          refine ih n (sets ++ [out]) (by omega) (by omega) ?_ (fun s hs' => ?_) (by simp; omega)
          · rw [← hmp, List.getElem?_append_left (by rw [List.length_map]; exact hkl)]; exact hk
          · rcases List.mem_append.1 hs' with h | h
            · exact hs s h
            · obtain rfl := List.mem_singleton.1 h; exact o2
end Go.Proofs.YtffkhhblppfbfaaDoor.Ev
namespace Go.Proofs.YtffkhhblppfbfaaDoor.Ev
open Go
set_option linter.unusedVariables false
set_option linter.unusedSimpArgs false
def only8 (a : Int) : List Bool := (List.replicate 8 false).set (place a) true
theorem l9Sure_ok (L N : Nat) (g : Graph) (hok : graphOk g = true) (hg : g.moves.length + gsize g.moves ≤ 1048576) (hL : 8589934592 ≤ L) (x : List Bool) (hx : x.length = g.moves.length) :
    ∃ b, f18 L N g x = some b ∧ (b = true ↔ ∀ a, -4 ≤ a → a ≤ 4 → a ≠ 0 → (∃ t, StepX g.moves (Tr x) a t) → ¬ ∃ t, Tr x t ∧ ∃ h : t < g.moves.length, refR g.moves[t] (only8 a) = true) := by
  have hlim := lim_eq
  have hm := leads_of hok hg
  have hn := hm.1
  have hge : Graph.mk g.moves = g := by cases g; rfl
  show ∃ b, f18.b L N some g x = some b ∧ _
  unfold f18.b f18.b'
  have key : ∀ (d n : Nat), d ≤ 9 → d < n → (∀ a, -4 ≤ a → a < 5 - (d : Int) → a ≠ 0 → (∃ t, StepX g.moves (Tr x) a t) → ¬ ∃ t, Tr x t ∧ ∃ h : t < g.moves.length, refR g.moves[t] (only8 a) = true) →
      ∃ b, f18.l0 L N (f18.p0_e0 L N some) (fun z5 => f18.p0_r L N some z5) n x ((5 : Int) - (d : Int)) g.moves = some b ∧ (b = true ↔ ∀ a, -4 ≤ a → a ≤ 4 → a ≠ 0 → (∃ t, StepX g.moves (Tr x) a t) → ¬ ∃ t, Tr x t ∧ ∃ h : t < g.moves.length, refR g.moves[t] (only8 a) = true) := by
    intro d
    induction d with
    | zero =>
      intro n _ hn0 hall
      obtain ⟨n, rfl⟩ : ∃ n', n = n' + 1 := ⟨n - 1, by omega⟩
      show ∃ b, f18.s0 L N _ _ (f18.l0 L N _ _ n) x ((5 : Int) - ((0 : Nat) : Int)) g.moves = some b ∧ _
      unfold f18.s0 f18.s0'
      rw [df (by omega), cond_false]
      exact ⟨true, rfl, fun _ a h1 h2 => hall a h1 (by omega), fun _ => rfl⟩
    | succ d ih =>
      intro n hd9 hnd hall
      obtain ⟨n, rfl⟩ : ∃ n', n = n' + 1 := ⟨n - 1, by omega⟩
      show ∃ b, f18.s0 L N _ _ (f18.l0 L N _ _ n) x ((5 : Int) - ((d + 1 : Nat) : Int)) g.moves = some b ∧ _
      generalize ha : (5 : Int) - ((d + 1 : Nat) : Int) = a
      rw [ha] at hall
      have hwi : wi (a + 1) = (5 : Int) - (d : Int) := by rw [wi_id (by omega) (by omega)]; omega
      have next : (a ≠ 0 → (∃ t, StepX g.moves (Tr x) a t) → ¬ ∃ t, Tr x t ∧ ∃ h : t < g.moves.length, refR g.moves[t] (only8 a) = true) → ∀ b, -4 ≤ b → b < 5 - (d : Int) → b ≠ 0 → (∃ t, StepX g.moves (Tr x) b t) → ¬ ∃ t, Tr x t ∧ ∃ h : t < g.moves.length, refR g.moves[t] (only8 b) = true := fun h b h1 h2 => by
        by_cases e : b = a
        · rw [e]; exact h
        · exact hall b h1 (by omega)
      unfold f18.s0 f18.s0'
      rw [dt (show a ≤ 4 by omega), cond_true, hwi, hge]
      by_cases ha0 : a = 0
      · rw [show (a == 0) = true from beq_iff_eq.2 ha0, cond_true]
        exact ih n (by omega) (by omega) (next fun h => absurd ha0 h)
      · rw [show (a == 0) = false from beq_eq_false_iff_ne.2 ha0, cond_false]
        obtain ⟨out, o1, o2, o3⟩ := do8_ok L N g.moves x a hm hx (by omega)
        rw [hge] at o1
        obtain ⟨r, r1, r2⟩ := any8_ok L N out (by omega) (by omega)
        rw [o1, Option.bind_some, r1, Option.bind_some]
        have hr : r = true ↔ ∃ t, StepX g.moves (Tr x) a t := by
          rw [r2]
          exact ⟨fun ⟨t, ht⟩ => slip_some ((o3 t).1 ht), fun ⟨t, ht⟩ => ⟨t, (o3 t).2 (.base t ht)⟩⟩
        cases hrr : r with
        | false =>
          rw [Bool.not_false, cond_true]
          exact ih n (by omega) (by omega) (next fun _ h => by rw [hr.2 h] at hrr; cases hrr)
        | true =>
          rw [Bool.not_true, cond_false]
          unfold f18.j0'
          have hp8 := place_lt (a := a) ⟨by omega, by omega⟩ ha0
          have hpl := place_ok L N (a := a) ⟨by omega, by omega⟩ ha0
          obtain ⟨b, b1, b2⟩ := failsS_ok L N g hok hg (by omega) (only8 a) (by unfold only8; simp) x hx
          have h8 : (List.replicate (8 : Int).toNat false).length = 8 := by simp
          have hlt : decide (((place a : Nat) : Int) < ((List.replicate (8 : Int).toNat false).length : Int)) = true := by rw [h8]; exact dt (by omega)
          have hle8 : decide ((8 : Int) ≤ (lim : Int)) = true := dt (by omega)
          have h08 : decide ((0 : Int) ≤ 8) = true := rfl
          have hset : (List.replicate (8 : Int).toNat false).set ((place a : Nat) : Int).toNat true = only8 a := rfl
          rw [h08, hle8, Bool.and_true, cond_true, hpl, Option.bind_some, le0, hlt, Bool.and_true, cond_true, hset, hge, b1, Option.bind_some]
          cases hbb : b with
          | true =>
            rw [cond_true]
            refine ⟨false, rfl, fun h => (by cases h), fun h => absurd (b2.1 hbb) (h a (by omega) (by omega) ha0 (hr.1 hrr))⟩
          | false =>
            rw [cond_false, hwi]
            exact ih n (by omega) (by omega) (next fun _ _ h => by rw [b2.2 h] at hbb; cases hbb)
  exact key 9 L (by omega) (by omega) fun a h1 h2 => by omega
end Go.Proofs.YtffkhhblppfbfaaDoor.Ev
namespace Go.Proofs.YtffkhhblppfbfaaDoor.Ev
open Go
set_option linter.unusedVariables false
set_option linter.unusedSimpArgs false
theorem findI_put (x y : Int) (v : Bool) : ∀ es : List (Int × Bool), mapFind i64 .bool x (mapPut i64 .bool y v es) = if y = x then some v else mapFind i64 .bool x es
  | [] => by
    show (bif (x == y) then some v else none) = _
    by_cases e : y = x
    · subst e; rw [beq_self_eq_true, cond_true, if_pos rfl]
    · rw [beq_eq_false_iff_ne.2 (fun h => e h.symm), cond_false, if_neg e]; rfl
  | (k, u) :: r => by
    have ih := findI_put x y v r
    by_cases e : y = k
    · subst e
      have h1 : mapPut i64 .bool y v ((y, u) :: r) = (y, v) :: r := by
        show (bif (y == y) then (y, v) :: r else _) = _
        rw [beq_self_eq_true, cond_true]
      rw [h1]
      show (bif (x == y) then some v else mapFind i64 .bool x r) = if y = x then some v else (bif (x == y) then some u else mapFind i64 .bool x r)
      by_cases e2 : y = x
      · subst e2; rw [beq_self_eq_true, cond_true, if_pos rfl]
      · rw [beq_eq_false_iff_ne.2 (fun h => e2 h.symm), cond_false, cond_false, if_neg e2]
    · have h1 : mapPut i64 .bool y v ((k, u) :: r) = (k, u) :: mapPut i64 .bool y v r := by
        show (bif (y == k) then _ else (k, u) :: mapPut i64 .bool y v r) = _
        rw [beq_eq_false_iff_ne.2 e, cond_false]
      rw [h1]
      show (bif (x == k) then some u else mapFind i64 .bool x (mapPut i64 .bool y v r)) = if y = x then some v else (bif (x == k) then some u else mapFind i64 .bool x r)
      by_cases e2 : x = k
      · subst e2; rw [beq_self_eq_true, cond_true, cond_true, if_neg e]
      · rw [beq_eq_false_iff_ne.2 e2, cond_false, cond_false, ih]
structure Met (ms : List (List Move)) (q : List Int) (es : List (Int × Bool)) (b : List Bool) : Prop where
  es : ∀ v, mapFind i64 .bool v es = if v ∈ q then some true else none
  len : b.length = ms.length
  tr : ∀ t : Nat, Tr b t ↔ (t : Int) ∈ q
  rng : ∀ v ∈ q, 0 ≤ v ∧ v < (ms.length : Int)
  cnt : q.length = cnt b
theorem Met.short {ms : List (List Move)} {q : List Int} {es : List (Int × Bool)} {b : List Bool} (h : Met ms q es b) : q.length ≤ ms.length := by
  rw [h.cnt, ← h.len]; exact cnt_le b
theorem Met.add {ms : List (List Move)} {q : List Int} {es : List (Int × Bool)} {b : List Bool} (h : Met ms q es b) {t : Nat} (ht : t < ms.length) (hn : (t : Int) ∉ q) : Met ms (q ++ [(t : Int)]) (mapPut i64 .bool (t : Int) true es) (b.set t true) := by
  have hl := h.len
  have hf : b.getD t false = false := by
    cases e : b.getD t false with
    | false => rfl
    | true => exact absurd ((h.tr t).1 e) hn
  refine ⟨fun v => ?_, by simpa using hl, fun u => ?_, fun v hv => ?_, ?_⟩
  · rw [findI_put, h.es v]
    by_cases e : (t : Int) = v
    · rw [if_pos e, if_pos (by rw [← e]; simp)]
    · rw [if_neg e]
      by_cases hm : v ∈ q
      · rw [if_pos hm, if_pos (List.mem_append_left _ hm)]
      · rw [if_neg hm, if_neg (by simp [hm]; exact fun h => e h.symm)]
  · rw [Tr_set (by omega), h.tr u, List.mem_append, List.mem_singleton]
    constructor
    · rintro (rfl | h)
      · exact .inr rfl
      · exact .inl h
    · rintro (h | h)
      · exact .inr h
      · exact .inl (by omega)
  · rcases List.mem_append.1 hv with q' | q'
    · exact h.rng v q'
    · rw [List.mem_singleton.1 q']; omega
  · rw [cnt_set b t (by omega) hf, List.length_append, h.cnt]; rfl
theorem reach_eq (L N : Nat) (ms : List (List Move)) (hm : Leads ms) (h1 : 1 ≤ ms.length) (hL : 1048576 < L) : ∃ q, f55 L N ⟨ms⟩ 0 = some q ∧ f44 L N ⟨ms⟩ 0 = some q ∧ (∀ v ∈ q, 0 ≤ v ∧ v < (ms.length : Int)) ∧ q.length ≤ ms.length := by
  have hlim := lim_eq
  have hn := hm.1
  have key : ∀ (d k : Nat) (q : List Int) (es : List (Int × Bool)) (b : List Bool), 61 ≤ k + d → k ≤ q.length → Met ms q es b → ∀ n1 n2, d ≤ n1 → d ≤ n2 → ∃ q',
      f55.l0 L N (fun z4 => f55.p0_e0 L N some z4) n1 (k : Int) ms q es = some q' ∧ f44.l0 L N (fun z4 => f44.p0_e0 L N some z4) n2 (k : Int) ms q b = some q' ∧ (∀ v ∈ q', 0 ≤ v ∧ v < (ms.length : Int)) ∧ q'.length ≤ ms.length := by
    intro d
    induction d with
    | zero => intro k q es b hd hk hM; have := hM.short; omega
    | succ d ih =>
      intro k q es b hd hk hM n1 n2 hn1 hn2
      obtain ⟨n1, rfl⟩ : ∃ n', n1 = n' + 1 := ⟨n1 - 1, by omega⟩
      obtain ⟨n2, rfl⟩ : ∃ n', n2 = n' + 1 := ⟨n2 - 1, by omega⟩
      show ∃ q', f55.s0 L N _ (f55.l0 L N _ n1) (k : Int) ms q es = some q' ∧ f44.s0 L N _ (f44.l0 L N _ n2) (k : Int) ms q b = some q' ∧ _
      unfold f55.s0 f55.s0' f44.s0 f44.s0'
      by_cases hlt : k < q.length
      · obtain ⟨h0, hv⟩ := hM.rng _ (List.getElem_mem hlt)
        obtain ⟨s, hs⟩ := Int.eq_ofNat_of_zero_le h0
        have hsl : s < ms.length := by omega
        have hrl := (hm.2 s hsl).1
        have hk60 : k ≤ 60 := by have := hM.short; omega
        have inner : ∀ (n j : Nat) (q : List Int) (es : List (Int × Bool)) (b : List Bool), j ≤ (ms[s]).length → (ms[s]).length - j < n → Met ms q es b → ∃ q' es' b', Met ms q' es' b' ∧ q.length ≤ q'.length ∧
            f55.l1 L N (fun z12 z13 z14 z15 => f55.p1_e2 L N (fun z4 => f55.p0_e0 L N some z4) (f55.l0 L N (fun z4 => f55.p0_e0 L N some z4) n1) z12 z13 z14 z15) n (k : Int) ms[s] ((ms[s]).length : Int) (j : Int) ms q es = f55.l0 L N (fun z4 => f55.p0_e0 L N some z4) n1 ((k + 1 : Nat) : Int) ms q' es' ∧
            f44.l1 L N (fun z11 z12 z13 z14 => f44.p1_e2 L N (fun z4 => f44.p0_e0 L N some z4) (f44.l0 L N (fun z4 => f44.p0_e0 L N some z4) n2) z11 z12 z13 z14) n (k : Int) ms[s] (j : Int) ms q b = f44.l0 L N (fun z4 => f44.p0_e0 L N some z4) n2 ((k + 1 : Nat) : Int) ms q' b' := by
          intro n
          induction n with
          | zero => intro j q es b _ h; omega
          | succ n ih' =>
            intro j q es b hj hjn hM
            have hsh := hM.short
            have hbl := hM.len
            by_cases hjl : j < (ms[s]).length
            · obtain ⟨t, ht, htl⟩ := hm.nat hsl hjl
              have htb : t < b.length := by omega
              have hf := hM.es (t : Int)
              have hle : decide (q.length + ([(t : Int)] : List Int).length ≤ lim) = true := dt (by simp only [List.length_cons, List.length_nil]; omega)
              by_cases hmem : (t : Int) ∈ q
              · have hb : b.getD t false = true := (hM.tr t).2 hmem
                rw [if_pos hmem] at hf
                obtain ⟨q', es', b', m1, m2, e1, e2⟩ := ih' (j + 1) q es b (by omega) (by omega) hM
                refine ⟨q', es', b', m1, m2, ?_, ?_⟩
                · show f55.s1 L N _ (f55.l1 L N _ n) (k : Int) ms[s] ((ms[s]).length : Int) (j : Int) ms q es = _
                  unfold f55.s1 f55.s1'
                  simp only [lt_cast hjl, le0, cond_true, Bool.and_true, Int.toNat_natCast, at_lt hjl, ht, hf, Option.getD_some, Bool.not_true, cond_false]
                  rw [wi_nat (by omega)]; exact e1
                · show f44.s1 L N _ (f44.l1 L N _ n) (k : Int) ms[s] (j : Int) ms q b = _
                  unfold f44.s1 f44.s1'
                  simp only [lt_cast hjl, le0, cond_true, Bool.and_true, Int.toNat_natCast, at_lt hjl, ht, lt_cast htb, atD, hb, Bool.not_true, cond_false]
                  rw [wi_nat (by omega)]; exact e2
              · have hb : b.getD t false = false := by
                  cases e : b.getD t false with
                  | false => rfl
                  | true => exact absurd ((hM.tr t).1 e) hmem
                rw [if_neg hmem] at hf
                obtain ⟨q', es', b', m1, m2, e1, e2⟩ := ih' (j + 1) _ _ _ (by omega) (by omega) (hM.add htl hmem)
                refine ⟨q', es', b', m1, by rw [List.length_append] at m2; omega, ?_, ?_⟩
                · show f55.s1 L N _ (f55.l1 L N _ n) (k : Int) ms[s] ((ms[s]).length : Int) (j : Int) ms q es = _
                  unfold f55.s1 f55.s1'
                  have hdf : (Ty.dflt .bool : Bool) = false := rfl
                  simp only [lt_cast hjl, le0, cond_true, Bool.and_true, Int.toNat_natCast, at_lt hjl, ht, hf, Option.getD_none, hdf, Bool.not_false, hle]
                  rw [wi_nat (by omega)]; exact e1
                · show f44.s1 L N _ (f44.l1 L N _ n) (k : Int) ms[s] (j : Int) ms q b = _
                  unfold f44.s1 f44.s1'
                  simp only [lt_cast hjl, le0, cond_true, Bool.and_true, Int.toNat_natCast, at_lt hjl, ht, lt_cast htb, atD, hb, Bool.not_false, hle]
                  rw [wi_nat (by omega)]; exact e2
            · refine ⟨q, es, b, hM, Nat.le_refl _, ?_, ?_⟩
              · show f55.s1 L N _ (f55.l1 L N _ n) (k : Int) ms[s] ((ms[s]).length : Int) (j : Int) ms q es = _
                unfold f55.s1 f55.s1'
                rw [ge_cast hjl, cond_false]
                show f55.p1_e2 L N _ _ (k : Int) ms q es = _
                unfold f55.p1_e2 f55.p1_e2'
                rw [wi_nat (by omega)]
              · show f44.s1 L N _ (f44.l1 L N _ n) (k : Int) ms[s] (j : Int) ms q b = _
                unfold f44.s1 f44.s1'
                rw [ge_cast hjl, cond_false]
                show f44.p1_e2 L N _ _ (k : Int) ms q b = _
                unfold f44.p1_e2 f44.p1_e2'
                rw [wi_nat (by omega)]
        obtain ⟨q', es', b', m1, m2, e1, e2⟩ := inner L 0 q es b (by omega) (by omega) hM
        obtain ⟨q2, f1, f2, f3⟩ := ih (k + 1) q' es' b' (by omega) (by omega) m1 n1 n2 (by omega) (by omega)
        simp only [lt_cast hlt, le0, cond_true, Bool.and_true, Int.toNat_natCast, at_lt hlt, hs, lt_cast hsl, at_lt hsl]
        exact ⟨q2, (show _ = _ from e1).trans f1, (show _ = _ from e2).trans f2, f3⟩
      · simp only [ge_cast hlt, cond_false]
        exact ⟨q, rfl, rfl, hM.rng, hM.short⟩
  have h0 : Met ms [0] (mapPut i64 .bool (0 : Int) true []) ((List.replicate ms.length false).set 0 true) := by
    have hnil : Met ms [] [] (List.replicate ms.length false) := ⟨fun v => by rw [if_neg (by simp)]; rfl, by simp, fun t => ⟨fun h => absurd h (Tr_replicate _ _), fun h => (by cases h)⟩, fun v h => (by cases h), by rw [cnt_replicate]; rfl⟩
    exact hnil.add (t := 0) (by omega) (by simp)
  obtain ⟨q', e1, e2, e3⟩ := key 61 0 [0] _ _ (by omega) (by simp) h0 L L (by omega) (by omega)
  refine ⟨q', e1, ?_, e3⟩
  show f44.b L N some ⟨ms⟩ 0 = _
  unfold f44.b f44.b'
  refine (bif_t2 (by omega) (by show (ms.length : Int) ≤ _; omega)).trans ?_
  refine (bif_t2 (by omega) (by simp only [List.length_replicate]; show (0 : Int) < ((ms.length : Int).toNat : Int); omega)).trans ?_
  exact e2
end Go.Proofs.YtffkhhblppfbfaaDoor.Ev
namespace Go.Proofs.YtffkhhblppfbfaaDoor.Ev
open Go
set_option linter.unusedVariables false
set_option linter.unusedSimpArgs false
def hasT (row : List Move) (x : List Bool) : Bool := row.any fun m => m.act == 0 && x.getD m.to.toNat false
def lRound (ms : List (List Move)) : Nat → Nat → Bool × List Bool → Bool × List Bool
  | 0, _, st => st
  | n + 1, i, st => lRound ms n (i + 1) (if st.2.getD i false && !hasT (ms.getD i []) st.2 then (true, st.2.set i false) else st)
theorem lRound_len (ms : List (List Move)) : ∀ (n i : Nat) (st : Bool × List Bool), (lRound ms n i st).2.length = st.2.length
  | 0, _, _ => rfl
  | n + 1, i, st => by
    unfold lRound
    rw [lRound_len ms n]
    split <;> simp
theorem contains_ok (L N : Nat) (row : List Move) (x : List Bool) (hL : row.length < L) (hl : row.length ≤ 1048576) (hto : ∀ m ∈ row, 0 ≤ m.to ∧ m.to < (x.length : Int)) :
    f29_1 L N row x = some (hasT row x) := by
  have one : ∀ m ∈ row, f71_1 L N m x = some (m.act == 0 && x.getD m.to.toNat false) := fun m hm => by
    obtain ⟨h0, h1⟩ := hto m hm
    obtain ⟨t, ht⟩ := Int.eq_ofNat_of_zero_le h0
    have htl : t < x.length := by omega
    show f71_1.b' L N some m x = _
    unfold f71_1.b'
    cases ha : (m.act == 0) with
    | false => rfl
    | true => simp only [cond_true, ht, le0, lt_cast htl, Bool.and_true, Int.toNat_natCast, atD, Bool.true_and]
  have key : ∀ (n i : Nat), i ≤ row.length → row.length - i < n → ∃ r : Int, f61_1.l0 L N (f61_1.p0_e0 L N some) (fun z5 => f61_1.p0_r L N some z5) n row x (row.length : Int) (i : Int) = some r ∧ decide (r ≥ 0) = hasT (row.drop i) x := by
    intro n
    induction n with
    | zero => intro i _ h; omega
    | succ n ih =>
      intro i hi hn
      show ∃ r, f61_1.s0 L N _ _ (f61_1.l0 L N _ _ n) row x (row.length : Int) (i : Int) = some r ∧ _
      unfold f61_1.s0 f61_1.s0'
      by_cases hlt : i < row.length
      · rw [List.drop_eq_getElem_cons hlt]
        simp only [lt_cast hlt, le0, Bool.and_true, cond_true, Int.toNat_natCast, at_lt hlt, one _ (List.getElem_mem hlt), Option.bind_some]
        unfold hasT
        rw [List.any_cons]
        cases hc : ((row[i]).act == 0 && x.getD (row[i]).to.toNat false) with
        | true =>
          rw [cond_true, Bool.true_or]
          exact ⟨(i : Int), rfl, dt (by omega)⟩
        | false =>
          rw [cond_false, Bool.false_or, wi_nat (by omega)]
          exact ih (i + 1) (by omega) (by omega)
      · rw [ge_cast hlt, cond_false, List.drop_eq_nil_of_le (by omega)]
        exact ⟨-1, rfl, rfl⟩
  obtain ⟨r, e, hr⟩ := key L 0 (by omega) (by omega)
  have e' : f61_1 L N row x = some r := e
  show f29_1.b' L N some row x = _
  unfold f29_1.b'
  rw [e', Option.bind_some, hr, List.drop_zero]
theorem impl_round {R : Type} (L N : Nat) (hL : 1048576 < L) (K : Bool → List (List Move) → List Bool → Option R) (ms : List (List Move)) (hm : Leads ms) :
    ∀ (n i : Nat) (ch : Bool) (x : List Bool), x.length = ms.length → i ≤ ms.length → ms.length - i < n →
      f53.l2 L N K n ch (ms.length : Int) (i : Int) ms x = K (lRound ms (ms.length - i) i (ch, x)).1 ms (lRound ms (ms.length - i) i (ch, x)).2 := by
  have hn60 := hm.1
  intro n
  induction n with
  | zero => intro i ch x _ _ h; omega
  | succ n ih =>
    intro i ch x hx hi hn
    show f53.s2 L N K (f53.l2 L N K n) ch (ms.length : Int) (i : Int) ms x = _
    unfold f53.s2 f53.s2'
    by_cases hlt : i < ms.length
    · have hxl : i < x.length := by omega
      have hrow := hm.2 i hlt
      have hc := contains_ok L N ms[i] x (by omega) hrow.1 (fun m hmm => by
        obtain ⟨k, hk, rfl⟩ := List.mem_iff_getElem.1 hmm
        rw [hx]; exact hrow.2 k hk)
      rw [show ms.length - i = (ms.length - (i + 1)) + 1 by omega]
      unfold lRound
      simp only [lt_cast hlt, lt_cast hxl, le0, Bool.and_true, cond_true, Int.toNat_natCast, at_lt hlt, atD, hc, Option.bind_some, getD_lt hlt]
      unfold f53.j0'
      cases hb : x.getD i false with
      | false =>
        rw [cond_false, cond_false, wi_nat (by omega), ih (i + 1) ch x hx (by omega) (by omega), Bool.false_and]
        rfl
      | true =>
        rw [cond_true, Bool.true_and]
        cases hh : hasT ms[i] x with
        | true =>
          rw [Bool.not_true, cond_false, wi_nat (by omega), ih (i + 1) ch x hx (by omega) (by omega)]
          rfl
        | false =>
          simp only [Bool.not_false, cond_true, lt_cast hxl, le0, Bool.and_true, Int.toNat_natCast]
          rw [wi_nat (by omega), ih (i + 1) true _ (by simp [hx]) (by omega) (by omega), if_pos trivial]
    · rw [ge_cast hlt, cond_false, show ms.length - i = 0 by omega]
      rfl
theorem spec_row {R : Type} (L N : Nat) (K : Bool → Int → Bool → List (List Move) → List Bool → Option R) (ms : List (List Move)) (hm : Leads ms) (ch : Bool) (i : Nat) (hi : i < ms.length) (x : List Bool) (hx : x.length = ms.length) :
    ∀ (n k : Nat) (b : Bool), k ≤ (ms[i]).length → (ms[i]).length - k < n → f43.l3 L N K n ch (i : Int) b (k : Int) ms x = K ch (i : Int) (b || hasT ((ms[i]).drop k) x) ms x := by
  have hrow := (hm.2 i hi).1
  intro n
  induction n with
  | zero => intro k b _ h; omega
  | succ n ih =>
    intro k b hk hn
    show f43.s3 L N K (f43.l3 L N K n) ch (i : Int) b (k : Int) ms x = _
    unfold f43.s3 f43.s3'
    by_cases hlt : k < (ms[i]).length
    · rw [List.drop_eq_getElem_cons hlt]
      obtain ⟨t, ht, htl⟩ := hm.nat hi hlt
      have htx : t < x.length := by omega
      have hw : wi ((k : Int) + 1) = ((k + 1 : Nat) : Int) := wi_nat (by omega)
      simp only [le0, lt_cast hi, Bool.and_true, cond_true, Int.toNat_natCast, at_lt hi, lt_cast hlt, at_lt hlt, ht, lt_cast htx, atD, hw]
      cases b with
      | true => rw [cond_true, ih (k + 1) true (by omega) (by omega), Bool.true_or, Bool.true_or]
      | false =>
        rw [cond_false]
        unfold hasT
        rw [List.any_cons, ht, Int.toNat_natCast]
        cases ha : ((ms[i])[k].act == 0) with
        | true => rw [cond_true, ih (k + 1) _ (by omega) (by omega), Bool.true_and, Bool.false_or]; rfl
        | false => rw [cond_false, ih (k + 1) false (by omega) (by omega), Bool.false_and, Bool.false_or, Bool.false_or, Bool.false_or]; rfl
    · simp only [le0, lt_cast hi, Bool.and_true, cond_true, Int.toNat_natCast, at_lt hi, ge_cast hlt, cond_false]
      rw [List.drop_eq_nil_of_le (by omega)]
      unfold hasT
      rw [List.any_nil, Bool.or_false]
theorem spec_round {R : Type} (L N : Nat) (hL : 1048576 < L) (K : Bool → List (List Move) → List Bool → Option R) (ms : List (List Move)) (hm : Leads ms) :
    ∀ (n i : Nat) (ch : Bool) (x : List Bool), x.length = ms.length → i ≤ ms.length → ms.length - i < n →
      f43.l2 L N K n ch (i : Int) ms x = K (lRound ms (ms.length - i) i (ch, x)).1 ms (lRound ms (ms.length - i) i (ch, x)).2 := by
  have hn60 := hm.1
  intro n
  induction n with
  | zero => intro i ch x _ _ h; omega
  | succ n ih =>
    intro i ch x hx hi hn
    show f43.s2 L N K (f43.l2 L N K n) ch (i : Int) ms x = _
    unfold f43.s2 f43.s2'
    by_cases hlt : i < ms.length
    · have hxl : i < x.length := by omega
      have hrow := hm.2 i hlt
      rw [show ms.length - i = (ms.length - (i + 1)) + 1 by omega]
      unfold lRound
      rw [lt_cast hxl, cond_true]
      refine (spec_row L N _ ms hm ch i hlt x hx L 0 false (by omega) (by omega)).trans ?_
      rw [Bool.false_or, List.drop_zero, getD_lt hlt]
      show f43.p3_e6' L N K _ ch (i : Int) (hasT ms[i] x) ms x = _
      unfold f43.p3_e6'
      simp only [lt_cast hxl, le0, Bool.and_true, cond_true, Int.toNat_natCast, atD]
      unfold f43.j0'
      cases hb : x.getD i false with
      | false =>
        rw [cond_false, cond_false, wi_nat (by omega), ih (i + 1) ch x hx (by omega) (by omega), Bool.false_and]
        rfl
      | true =>
        rw [cond_true, Bool.true_and]
        cases hh : hasT ms[i] x with
        | true =>
          rw [Bool.not_true, cond_false, wi_nat (by omega), ih (i + 1) ch x hx (by omega) (by omega)]
          rfl
        | false =>
          simp only [Bool.not_false, cond_true, lt_cast hxl, le0, Bool.and_true, Int.toNat_natCast]
          rw [wi_nat (by omega), ih (i + 1) true _ (by simp [hx]) (by omega) (by omega), if_pos trivial]
    · have hxl : ¬ i < x.length := by omega
      rw [ge_cast hxl, cond_false, show ms.length - i = 0 by omega]
      rfl
theorem getD_set_false (x : List Bool) (i t : Nat) : (x.set i false).getD t false = if t = i then false else x.getD t false := by
  by_cases h : t = i
  · subst h
    rw [if_pos rfl]
    by_cases hl : t < x.length
    · rw [getD_lt (by simpa using hl), List.getElem_set_self]
    · rw [List.getD, List.getElem?_eq_none (by simp; omega)]; rfl
  · rw [if_neg h, List.getD, List.getElem?_set_ne (by omega), ← List.getD]
theorem hasT_mono {row : List Move} {x : List Bool} {i : Nat} (h : hasT row (x.set i false) = true) : hasT row x = true := by
  unfold hasT at *
  rw [List.any_eq_true] at *
  obtain ⟨m, hm, hx⟩ := h
  refine ⟨m, hm, ?_⟩
  rw [Bool.and_eq_true] at *
  refine ⟨hx.1, ?_⟩
  have h2 := hx.2
  rw [getD_set_false] at h2
  split at h2
  · cases h2
  · exact h2
theorem cnt_unset : ∀ (l : List Bool) (j : Nat), l.getD j false = true → cnt (l.set j false) + 1 = cnt l
  | [], j, h => by simp at h
  | b :: l, 0, h => by
    have hb : b = true := by simpa using h
    subst hb
    simp [cnt]; omega
  | b :: l, j + 1, h => by
    have ih := cnt_unset l j (by simpa using h)
    simp only [List.set_cons_succ, cnt]
    omega
def LInv (ms : List (List Move)) (x : List Bool) : Prop := ∀ j, x.getD j false = false → hasT (ms.getD j []) x = false
def LStab (ms : List (List Move)) (x : List Bool) : Prop := ∀ j, j < ms.length → x.getD j false = true → hasT (ms.getD j []) x = true
theorem lRound_spec (ms : List (List Move)) : ∀ (n i : Nat) (st : Bool × List Bool), LInv ms st.2 →
    LInv ms (lRound ms n i st).2 ∧ cnt (lRound ms n i st).2 ≤ cnt st.2 ∧ ((lRound ms n i st).1 = false → st.1 = false ∧ (lRound ms n i st).2 = st.2 ∧ ∀ j, i ≤ j → j < i + n → st.2.getD j false = true → hasT (ms.getD j []) st.2 = true) ∧ ((lRound ms n i st).1 = true → st.1 = true ∨ cnt (lRound ms n i st).2 < cnt st.2)
  | 0, i, st, h => ⟨h, Nat.le_refl _, fun e => ⟨e, rfl, fun j h1 h2 => by omega⟩, fun e => .inl e⟩
  | n + 1, i, st, h => by
    unfold lRound
    cases hc : (st.2.getD i false && !hasT (ms.getD i []) st.2) with
    | true =>
      rw [if_pos rfl]
      rw [Bool.and_eq_true] at hc
      have h2 : hasT (ms.getD i []) st.2 = false := by simpa using hc.2
      have hcnt := cnt_unset st.2 i hc.1
      have hinv : LInv ms (st.2.set i false) := fun j hj => by
        rw [getD_set_false] at hj
        cases hh : hasT (ms.getD j []) (st.2.set i false) with
        | false => rfl
        | true =>
          have := hasT_mono hh
          by_cases e : j = i
          · subst e; rw [h2] at this; cases this
          · rw [if_neg e] at hj; rw [h j hj] at this; cases this
      obtain ⟨a1, a2, a3, a4⟩ := lRound_spec ms n (i + 1) (true, st.2.set i false) hinv
      refine ⟨a1, Nat.le_trans a2 (by show cnt (st.2.set i false) ≤ _; omega), (fun e => by have := (a3 e).1; cases this), fun _ => .inr ?_⟩
      have a2' : cnt (lRound ms n (i + 1) (true, st.2.set i false)).2 ≤ cnt (st.2.set i false) := a2
      omega
    | false =>
      rw [if_neg (by simp)]
      obtain ⟨a1, a2, a3, a4⟩ := lRound_spec ms n (i + 1) st h
      refine ⟨a1, a2, fun e => ?_, a4⟩
      obtain ⟨b1, b2, b3⟩ := a3 e
      refine ⟨b1, b2, fun j h1 h2 h3 => ?_⟩
      by_cases e : j = i
      · subst e
        rw [h3, Bool.true_and] at hc
        simpa using hc
      · exact b3 j (by omega) (by omega) h3
theorem lfix (L N : Nat) (hL : 1048576 < L) (ms : List (List Move)) (hm : Leads ms) (K1 K2 : List Bool → Option (List Bool)) :
    ∀ (n : Nat) (ch : Bool) (x : List Bool), x.length = ms.length → LInv ms x → (if ch then cnt x + 1 else 0) < n → (ch = false → LStab ms x) →
      ∃ x', x'.length = ms.length ∧ LInv ms x' ∧ LStab ms x' ∧ f53.l1 L N K1 n ch ms x = K1 x' ∧ f43.l1 L N K2 n ch ms x = K2 x' := by
  have hn60 := hm.1
  intro n
  induction n with
  | zero => intro ch x _ _ h; omega
  | succ n ih =>
    intro ch x hx hinv hn hst
    cases ch with
    | false => exact ⟨x, hx, hinv, hst rfl, rfl, rfl⟩
    | true =>
      rw [if_pos rfl] at hn
      have e1 : f53.l1 L N K1 (n + 1) true ms x = f53.l2 L N (fun z15 z16 z17 => f53.p2_e4 L N K1 (f53.l1 L N K1 n) z15 z16 z17) L false (x.length : Int) (0 : Int) ms x := rfl
      have e2 : f43.l1 L N K2 (n + 1) true ms x = f43.l2 L N (fun z13 z14 z15 => f43.p2_e4 L N K2 (f43.l1 L N K2 n) z13 z14 z15) L false (0 : Int) ms x := rfl
      have r1 := impl_round L N hL (fun z15 z16 z17 => f53.p2_e4 L N K1 (f53.l1 L N K1 n) z15 z16 z17) ms hm L 0 false x hx (by omega) (by omega)
      have r2 := spec_round L N hL (fun z13 z14 z15 => f43.p2_e4 L N K2 (f43.l1 L N K2 n) z13 z14 z15) ms hm L 0 false x hx (by omega) (by omega)
      obtain ⟨a1, a2, a3, a4⟩ := lRound_spec ms (ms.length - 0) 0 (false, x) hinv
      have hlen := lRound_len ms (ms.length - 0) 0 (false, x)
      have e1' : f53.l1 L N K1 (n + 1) true ms x = f53.l1 L N K1 n (lRound ms (ms.length - 0) 0 (false, x)).1 ms (lRound ms (ms.length - 0) 0 (false, x)).2 := by rw [e1, hx]; exact r1
      have e2' : f43.l1 L N K2 (n + 1) true ms x = f43.l1 L N K2 n (lRound ms (ms.length - 0) 0 (false, x)).1 ms (lRound ms (ms.length - 0) 0 (false, x)).2 := by rw [e2]; exact r2
      rw [e1', e2']
      generalize hr : lRound ms (ms.length - 0) 0 (false, x) = r at *
      obtain ⟨c, y⟩ := r
      have hlen' : y.length = x.length := hlen
      refine ih c y (by omega) a1 ?_ fun hc => ?_
      · cases c with
        | false => simp; omega
        | true =>
          rcases a4 rfl with h | h
          · cases h
          · have h' : cnt y < cnt x := h
            rw [if_pos rfl]; omega
      · obtain ⟨-, b2, b3⟩ := a3 hc
        have hy : y = x := b2
        subst hy
        exact fun j hj hxj => b3 j (by omega) (by omega) hxj
theorem loops_eq (L N : Nat) (hL : 1048576 < L) (ms : List (List Move)) (hm : Leads ms) : ∃ x, f53 L N ⟨ms⟩ = some x ∧ f43 L N ⟨ms⟩ = some x ∧ x.length = ms.length ∧ LInv ms x ∧ LStab ms x := by
  have hlim := lim_eq
  have hn60 := hm.1
  have h0 : decide ((ms.length : Int) ≤ (lim : Int)) = true := dt (by omega)
  have e0 : ((ms.length : Int)).toNat = ms.length := rfl
  have fill1 : ∀ {R : Type} (K : List (List Move) → List Bool → Option R) (n i : Nat) (x : List Bool), x.length = ms.length → i ≤ ms.length → ms.length - i < n → (∀ j, j < i → x.getD j false = true) →
      ∃ x', x'.length = ms.length ∧ (∀ j, j < ms.length → x'.getD j false = true) ∧ f53.l0 L N K n (ms.length : Int) (i : Int) ms x = K ms x' := by
    intro R K n
    induction n with
    | zero => intro i x _ _ h; omega
    | succ n ih =>
      intro i x hx hi hn hp
      show ∃ x', _ ∧ _ ∧ f53.s0 L N K (f53.l0 L N K n) (ms.length : Int) (i : Int) ms x = _
      unfold f53.s0 f53.s0'
      by_cases hlt : i < ms.length
      · have hxl : i < x.length := by omega
        simp only [lt_cast hlt, lt_cast hxl, le0, Bool.and_true, cond_true, Int.toNat_natCast]
        rw [wi_nat (by omega)]
        refine ih (i + 1) _ (by simp [hx]) (by omega) (by omega) fun j hj => ?_
        by_cases e : j = i
        · subst e; rw [getD_lt (by simpa using hxl), List.getElem_set_self]
        · rw [List.getD, List.getElem?_set_ne (by omega), ← List.getD]; exact hp j (by omega)
      · rw [ge_cast hlt, cond_false]
        exact ⟨x, hx, fun j hj => hp j (by omega), rfl⟩
  have fill2 : ∀ {R : Type} (K : List (List Move) → List Bool → Option R) (n i : Nat) (x : List Bool), x.length = ms.length → i ≤ ms.length → ms.length - i < n → (∀ j, j < i → x.getD j false = true) →
      ∃ x', x'.length = ms.length ∧ (∀ j, j < ms.length → x'.getD j false = true) ∧ f43.l0 L N K n (i : Int) ms x = K ms x' := by
    intro R K n
    induction n with
    | zero => intro i x _ _ h; omega
    | succ n ih =>
      intro i x hx hi hn hp
      show ∃ x', _ ∧ _ ∧ f43.s0 L N K (f43.l0 L N K n) (i : Int) ms x = _
      unfold f43.s0 f43.s0'
      by_cases hlt : i < x.length
      · simp only [lt_cast hlt, le0, Bool.and_true, cond_true, Int.toNat_natCast]
        rw [wi_nat (by omega)]
        refine ih (i + 1) _ (by simp [hx]) (by omega) (by omega) fun j hj => ?_
        by_cases e : j = i
        · subst e; rw [getD_lt (by simpa using hlt), List.getElem_set_self]
        · rw [List.getD, List.getElem?_set_ne (by omega), ← List.getD]; exact hp j (by omega)
      · rw [ge_cast hlt, cond_false]
        exact ⟨x, hx, fun j hj => hp j (by omega), rfl⟩
  obtain ⟨x1, a1, a2, a3⟩ := fill1 (fun z4 z5 => f53.p0_e0 L N some z4 z5) L 0 (List.replicate ms.length false) (by simp) (by omega) (by omega) (fun j h => by omega)
  obtain ⟨x2, b1, b2, b3⟩ := fill2 (fun z3 z4 => f43.p0_e0 L N some z3 z4) L 0 (List.replicate ms.length false) (by simp) (by omega) (by omega) (fun j h => by omega)
  have hxx : x1 = x2 := List.ext_getElem (by omega) fun j h1 h2 => by
    have c1 := a2 j (by omega); have c2 := b2 j (by omega)
    rw [getD_lt h1] at c1; rw [getD_lt h2] at c2
    rw [c1, c2]
  subst hxx
  have hinv : LInv ms x1 := fun j hj => by
    by_cases h : j < ms.length
    · rw [a2 j h] at hj; cases hj
    · rw [show ms.getD j [] = [] by rw [List.getD, List.getElem?_eq_none (by omega)]; rfl]; rfl
  have hcl := cnt_le x1
  obtain ⟨x, h1, h2, h3, h4, h5⟩ := lfix L N hL ms hm (fun z9 => f53.p1_e2 L N some z9) (fun z8 => f43.p1_e2 L N some z8) L true x1 a1 hinv (by rw [if_pos rfl]; omega) (fun h => by cases h)
  refine ⟨x, ?_, ?_, h1, h2, h3⟩
  · show f53.b L N some ⟨ms⟩ = _
    unfold f53.b f53.b'
    simp only [le0, h0, Bool.and_true, cond_true, e0, List.length_replicate]
    exact a3.trans h4
  · show f43.b L N some ⟨ms⟩ = _
    unfold f43.b f43.b'
    simp only [le0, h0, Bool.and_true, cond_true, e0]
    exact b3.trans h5
end Go.Proofs.YtffkhhblppfbfaaDoor.Ev
namespace Go.Proofs.YtffkhhblppfbfaaDoor.Ev
open Go
set_option linter.unusedVariables false
set_option linter.unusedSimpArgs false
theorem first8_ok (L N : Nat) (ms : List (List Move)) (hm : Leads ms) (h1 : 1 ≤ ms.length) (hL : 1048576 < L) : ∃ b, f17 L N ⟨ms⟩ = some b ∧ b.length = ms.length ∧ ∀ t, Tr b t ↔ Slip ms (fun x => x = 0) t := by
  have hlim := lim_eq
  have hn := hm.1
  obtain ⟨b0, c1, c2, c3⟩ := slip2_ok L N ms ((List.replicate ms.length false).set 0 true) hm (by simp) (by omega)
  refine ⟨b0, ?_, c2, fun t => (c3 t).trans (Slip.iff (fun t => ?_) t)⟩
  · show f17.b L N some ⟨ms⟩ = _
    unfold f17.b f17.b'
    refine (bif_t2 (by omega) (by show (ms.length : Int) ≤ _; omega)).trans ?_
    refine (bif_t2 (by omega) (by simp only [List.length_replicate]; show (0 : Int) < ((ms.length : Int).toNat : Int); omega)).trans ?_
    show ((f45 L N ⟨ms⟩ ((List.replicate ms.length false).set 0 true)).bind fun y => some y) = _
    rw [c1]; rfl
  · rw [Tr_set (by simp; omega)]
    exact ⟨fun h => h.resolve_right (Tr_replicate _ _), .inl⟩
end Go.Proofs.YtffkhhblppfbfaaDoor.Ev
namespace Go.Proofs.YtffkhhblppfbfaaDoor.Ev
open Go
set_option linter.unusedVariables false
set_option linter.unusedSimpArgs false
theorem place_inj {a b : Int} (ha : -4 ≤ a ∧ a ≤ 4) (hb : -4 ≤ b ∧ b ≤ 4) (a0 : a ≠ 0) (b0 : b ≠ 0) (h : place a = place b) : a = b := by
  unfold place at h
  split at h <;> split at h <;> omega
theorem only8_getD (a : Int) (h : -4 ≤ a ∧ a ≤ 4) (h0 : a ≠ 0) (k : Nat) : (only8 a).getD k false = decide (k = place a) := by
  unfold only8
  have hp := place_lt h h0
  by_cases e : k = place a
  · subst e
    rw [List.getD_eq_getElem?_getD, List.getElem?_set_self (by simpa using hp), decide_eq_true rfl]; rfl
  · rw [List.getD_eq_getElem?_getD, List.getElem?_set_ne (fun h => e h.symm), decide_eq_false e, List.getElem?_replicate]
    split <;> rfl
theorem refR_only {row : List Move} (hrow : ∀ m ∈ row, -4 ≤ m.act ∧ m.act ≤ 4) {a : Int} (h : -4 ≤ a ∧ a ≤ 4) (h0 : a ≠ 0) : refR row (only8 a) = (calmR row && !row.any fun m => m.act == a) := by
  apply Bool.eq_iff_iff.2
  rw [refR_iff, Bool.and_eq_true, Bool.not_eq_true', List.any_eq_false]
  unfold calmR
  rw [List.all_eq_true]
  constructor
  · rintro ⟨h1, h2⟩
    refine ⟨fun m hm => by have := h1 m hm; simpa using this, fun m hm e => ?_⟩
    have := h2 m hm
    rw [only8_getD a h h0] at this
    have e' : m.act = a := by simpa using e
    rw [e', decide_eq_true rfl] at this
    cases this
  · rintro ⟨h1, h2⟩
    have h3 : ∀ m ∈ row, m.act ≠ 0 := fun m hm => by have := h1 m hm; simpa using this
    refine ⟨h3, fun m hm => ?_⟩
    rw [only8_getD a h h0]
    refine decide_eq_false fun e => h2 m hm ?_
    have := place_inj (hrow m hm) h (h3 m hm) h0 e
    simpa using this
section
variable (L N : Nat)
theorem sure_ask (g : Graph) (hok : graphOk g = true) (hg : g.moves.length + gsize g.moves ≤ 1048576) {q : List Int} (hq : Fits g.moves q) {x : List Bool} (hxq : listB x = q) {ac : List Int} (hac : ∀ a, a ∈ ac ↔ a ≠ 0 ∧ ∃ t, StepX g.moves (fun t => (t : Int) ∈ q) a t) :
    (∀ a, -4 ≤ a → a ≤ 4 → a ≠ 0 → (∃ t, StepX g.moves (Tr x) a t) → ¬ ∃ t, Tr x t ∧ ∃ h : t < g.moves.length, refR g.moves[t] (only8 a) = true) ↔ (ac.any fun a => q.any (lacksR g.moves a)) = false := by
  obtain ⟨hn1, hn2, hmv⟩ := graphOk_mv hok
  have hact : ∀ (i : Nat) (hi : i < g.moves.length), ∀ m ∈ g.moves[i], -4 ≤ m.act ∧ m.act ≤ 4 := fun i hi m hm' => by
    obtain ⟨k, hk, rfl⟩ := List.mem_iff_getElem.1 hm'
    have := hmv i hi k hk
    exact ⟨this.1, this.2.1⟩
  have hx : ∀ t, Tr x t ↔ (t : Int) ∈ q := fun t => by
    rw [← hxq, listB_mem]
    exact ⟨fun h => ⟨t, rfl, h⟩, fun ⟨u, e, h⟩ => (show u = t by omega) ▸ h⟩
  have hl : ∀ (a : Int) (t : Nat) (ht : t < g.moves.length), lacksR g.moves a (t : Int) = (calmR g.moves[t] && !(g.moves[t]).any fun m => m.act == a) := fun a t ht => by
    unfold lacksR; rw [Int.toNat_natCast, getD_lt ht]
  have h4 : ∀ a t, StepX g.moves (fun t => (t : Int) ∈ q) a t → -4 ≤ a ∧ a ≤ 4 := fun a t ⟨s, _, hs, k, hk, e, _⟩ => by rw [← e]; exact hact s hs _ (List.getElem_mem hk)
  rw [List.any_eq_false]
  constructor
  · intro h a ha hany
    obtain ⟨h0, t, ht⟩ := (hac a).1 ha
    obtain ⟨v, hv, hlk⟩ := List.any_eq_true.1 hany
    have hr := hq.2.1 v hv
    obtain ⟨s, rfl⟩ := Int.eq_ofNat_of_zero_le hr.1
    have hsl : s < g.moves.length := by omega
    have ha4 := h4 a t ht
    rw [hl a s hsl, ← refR_only (hact s hsl) ha4 h0] at hlk
    exact h a ha4.1 ha4.2 h0 ⟨t, (StepX.iff hx a t).2 ht⟩ ⟨s, (hx s).2 hv, hsl, hlk⟩
  · intro h a h1 h2 h0 ⟨t, ht⟩ ⟨s, hs, hsl, hr⟩
    refine h a ((hac a).2 ⟨h0, t, (StepX.iff hx a t).1 ht⟩) (List.any_eq_true.2 ⟨(s : Int), (hx s).1 hs, ?_⟩)
    rw [hl a s hsl, ← refR_only (hact s hsl) ⟨h1, h2⟩ h0]; exact hr
theorem stepB_mem {A : Int → List Int} : ∀ (ac : List Int) (S : List (List Int)) (x : List Int), x ∈ stepB A ac S → x ∈ S ∨ ∃ a ∈ ac, x = A a
  | [], S, x, h => .inl h
  | a :: ac, S, x, h => by
    unfold stepB at h
    rcases stepB_mem ac _ x h with h | ⟨b, hb, e⟩
    · by_cases hm : A a ∈ S
      · rw [if_pos hm] at h; exact .inl h
      · rw [if_neg hm] at h
        rcases List.mem_append.1 h with h | h
        · exact .inl h
        · exact .inr ⟨a, .head _, List.mem_singleton.1 h⟩
    · exact .inr ⟨b, .tail _ hb, e⟩
theorem stepB_len {A : Int → List Int} : ∀ (ac : List Int) (S : List (List Int)), S.length ≤ (stepB A ac S).length
  | [], S => Nat.le_refl _
  | a :: ac, S => by
    unfold stepB
    have := stepB_len (A := A) ac (if A a ∈ S then S else S ++ [A a])
    by_cases hm : A a ∈ S
    · rw [if_pos hm] at this ⊢; exact this
    · rw [if_neg hm] at this ⊢; rw [List.length_append] at this; omega
theorem fail_loop (P : List Int → Prop) (g : Graph) (hok : graphOk g = true) (hg : g.moves.length + gsize g.moves ≤ 1048576) (hL : 8589934592 ≤ L) (hP : ∀ q a, Fits g.moves q → P q → P (aftA L N g.moves q a)) :
    ∀ (d k : Nat) (ds : List Duo) (es : List (ByteArray × Bool)) (sets : List (List Bool)), k ≤ 400 → 401 ≤ k + d → k ≤ ds.length → Seen (ds.map Duo.a) es → ds.map Duo.b = ds.map Duo.a → (∀ e ∈ ds, e.w.length ≤ k) → (∀ x ∈ ds.map Duo.a, Fits g.moves x) → (∀ x ∈ ds.map Duo.a, P x) → sets.map listB = ds.map Duo.a → (∀ s ∈ sets, s.length = g.moves.length) →
      ∀ n1 n2, d ≤ n1 → d ≤ n2 → ∃ (o v : Bool),
        f25_1.l0 L N (fun z12 => f25_1.p0_e0 L N (fun a0 a1 => some (a0, a1)) z12) (fun z13 z14 => f25_1.p0_r L N (fun a0 a1 => some (a0, a1)) z13 z14) n1 (-1) g.moves (k : Int) false g.moves g.moves ds es = some (o, v) ∧
        f6.l0 L N (f6.p0_e0 L N (fun a0 a1 => some (a0, a1))) (fun z9 z10 => f6.p0_r L N (fun a0 a1 => some (a0, a1)) z9 z10) n2 (k : Int) g.moves sets = some (o && !v, o) ∧
        ((∀ q, Fits g.moves q → P q → ∀ a, (∃ t, StepX g.moves (fun t => (t : Int) ∈ q) a t) → q.any (lacksR g.moves a) = false) → v = false) := by
  have hlim := lim_eq
  have hm := leads_of hok hg
  obtain ⟨hn1, hn2, hmv⟩ := graphOk_mv hok
  have hact : ∀ (i : Nat) (hi : i < g.moves.length), ∀ m ∈ g.moves[i], -4 ≤ m.act ∧ m.act ≤ 4 := fun i hi m hm' => by
    obtain ⟨k, hk, rfl⟩ := List.mem_iff_getElem.1 hm'
    have := hmv i hi k hk
    exact ⟨this.1, this.2.1⟩
  have hge : Graph.mk g.moves = g := by cases g; rfl
  intro d
  induction d with
  | zero => intro k ds es sets hk hd; omega
  | succ d ih =>
    intro k ds es sets hk4 hd hk hsn hab hwl hfit hPP hsets hsl n1 n2 hn1' hn2'
    obtain ⟨n1, rfl⟩ : ∃ n', n1 = n' + 1 := ⟨n1 - 1, by omega⟩
    obtain ⟨n2, rfl⟩ : ∃ n', n2 = n' + 1 := ⟨n2 - 1, by omega⟩
    have hsl2 : sets.length = ds.length := by have := congrArg List.length hsets; simpa using this
    show ∃ o v, f25_1.s0 L N (fun z12 => f25_1.p0_e0 L N (fun a0 a1 => some (a0, a1)) z12) (fun z13 z14 => f25_1.p0_r L N (fun a0 a1 => some (a0, a1)) z13 z14) (f25_1.l0 L N (fun z12 => f25_1.p0_e0 L N (fun a0 a1 => some (a0, a1)) z12) (fun z13 z14 => f25_1.p0_r L N (fun a0 a1 => some (a0, a1)) z13 z14) n1) (-1) g.moves (k : Int) false g.moves g.moves ds es = some (o, v) ∧
        f6.s0 L N (f6.p0_e0 L N (fun a0 a1 => some (a0, a1))) (fun z9 z10 => f6.p0_r L N (fun a0 a1 => some (a0, a1)) z9 z10) (f6.l0 L N (f6.p0_e0 L N (fun a0 a1 => some (a0, a1))) (fun z9 z10 => f6.p0_r L N (fun a0 a1 => some (a0, a1)) z9 z10) n2) (k : Int) g.moves sets = some (o && !v, o) ∧ _
    unfold f25_1.s0 f25_1.s0' f6.s0 f6.s0'
    by_cases hlt : k < ds.length
    · have hlt2 : k < sets.length := by omega
      by_cases h400 : ds.length > 400
      · simp only [lt_cast hlt, lt_cast hlt2, le0, Bool.and_true, cond_true]
        rw [dt (show (ds.length : Int) > 400 by omega), dt (show (sets.length : Int) > 400 by omega), cond_true, cond_true]
        exact ⟨false, false, rfl, rfl, fun _ => rfl⟩
      · have hd1 : decide ((ds.length : Int) > 400) = false := df (by omega)
        have hd2 : decide ((sets.length : Int) > 400) = false := df (by omega)
        have hq : Fits g.moves (ds[k]).a := hfit _ (List.mem_map_of_mem (List.getElem_mem hlt))
        have hbk : (ds[k]).b = (ds[k]).a := by
          have := congrArg (fun l => l[k]?) hab
          simpa [hlt] using this
        have hsk : listB sets[k] = (ds[k]).a := by
          have := congrArg (fun l => l[k]?) hsets
          simpa [hlt, hlt2] using this
        have hwk := hwl _ (List.getElem_mem hlt)
        obtain ⟨ac, e1, e2, e3, e4, e5⟩ := failSure1_ok L N g.moves hm hL false (ds[k]).a (ds[k]).b (ds[k]).w hq
        obtain ⟨b, s1, s2⟩ := l9Sure_ok L N g hok hg hL sets[k] (hsl _ (List.getElem_mem hlt2))
        rw [Bool.false_or] at e5
        have hask := sure_ask g hok hg hq hsk e4
        have hv : (ac.any fun a => (ds[k]).a.any (lacksR g.moves a)) = !b := by
          cases hb : b with
          | true => exact hask.1 (s2.1 hb)
          | false =>
            cases hany : (ac.any fun a => (ds[k]).a.any (lacksR g.moves a)) with
            | true => rfl
            | false => rw [s2.2 (hask.2 hany)] at hb; cases hb
        rw [hv] at e5
        have hlist : listAt ds (Ty.dflt (.st 4)) k = ds[k] := at_lt hlt
        have hwm : (((ds[k]).w.length : Int) == -1) = false := beq_eq_false_iff_ne.2 (by omega)
        simp only [lt_cast hlt, lt_cast hlt2, le0, Bool.and_true, cond_true, hd1, hd2, cond_false, Int.toNat_natCast, hlist, e5, Option.bind_some, at_lt hlt2, hge, s1, hwm]
        cases hb : b with
        | false =>
          simp only [Bool.not_false, cond_true]
          refine ⟨true, true, rfl, rfl, fun hno => ?_⟩
          have hPk := hPP _ (List.mem_map_of_mem (List.getElem_mem hlt))
          have : (ac.any fun a => (ds[k]).a.any (lacksR g.moves a)) = false := List.any_eq_false.2 fun a ha => by
            rw [hno _ hq hPk a ((e4 a).1 ha).2]; simp
          rw [this, hb] at hv; cases hv
        | true =>
          simp only [Bool.not_true, cond_false]
          rw [hge] at e1
          rw [e1, Option.bind_some]
          have hne : ∀ a ∈ ac, aftA L N g.moves (ds[k]).a a ≠ [] := fun a ha => (aftA_some L N g.moves hm hL _ hq a).2 ((e4 a).1 ha).2
          have h4 : ∀ a ∈ ac, -4 ≤ a ∧ a ≤ 4 := fun a ha => by
            obtain ⟨-, t, s, -, hs, k', hk', e, -⟩ := (e4 a).1 ha
            rw [← e]; exact hact s hs _ (List.getElem_mem hk')
          obtain ⟨ds', es', i1, i2, i3, i4, i5⟩ := inD L N g.moves hm hL (fun z31 z32 z33 z34 z35 z36 z37 z38 => f25_1.p1_e2 L N (fun z12 => f25_1.p0_e0 L N (fun a0 a1 => some (a0, a1)) z12) (fun z13 z14 => f25_1.p0_r L N (fun a0 a1 => some (a0, a1)) z13 z14) (f25_1.l0 L N (fun z12 => f25_1.p0_e0 L N (fun a0 a1 => some (a0, a1)) z12) (fun z13 z14 => f25_1.p0_r L N (fun a0 a1 => some (a0, a1)) z13 z14) n1) z31 z32 z33 z34 z35 z36 z37 z38) (fun z43 z44 z45 z46 z47 z48 z49 z50 z51 => f25_1.p1_r L N (fun z12 => f25_1.p0_e0 L N (fun a0 a1 => some (a0, a1)) z12) (fun z13 z14 => f25_1.p0_r L N (fun a0 a1 => some (a0, a1)) z13 z14) (f25_1.l0 L N (fun z12 => f25_1.p0_e0 L N (fun a0 a1 => some (a0, a1)) z12) (fun z13 z14 => f25_1.p0_r L N (fun a0 a1 => some (a0, a1)) z13 z14) n1) z43 z44 z45 z46 z47 z48 z49 z50 z51)
            (k : Int) false (ds[k]).a (ds[k]).w (k + 1) (by omega) (by omega) hq ac e3 hne L 0 ds es (by omega) (by omega) hsn hab (fun e he => by have := hwl e he; omega) (by omega)
          obtain ⟨sets', j1, j2, j3⟩ := inF L N g.moves hm hL (fun z16 z17 z18 => f6.p1_e2 L N (f6.p0_e0 L N (fun a0 a1 => some (a0, a1))) (fun z9 z10 => f6.p0_r L N (fun a0 a1 => some (a0, a1)) z9 z10) (f6.l0 L N (f6.p0_e0 L N (fun a0 a1 => some (a0, a1))) (fun z9 z10 => f6.p0_r L N (fun a0 a1 => some (a0, a1)) z9 z10) n2) z16 z17 z18)
            k (ds[k]).a hq ac e2 (fun a => (e4 a).trans (and_congr Iff.rfl (aftA_some L N g.moves hm hL _ hq a).symm)) h4 9 L sets (by omega) (by omega) (by rw [List.getElem?_map, List.getElem?_eq_getElem hlt2, Option.map_some, hsk]) hsl (by omega)
          have hall : (ac.filter fun b => decide ((5 : Int) - ((9 : Nat) : Int) ≤ b)) = ac := by
            rw [List.filter_eq_self]
            intro b hb
            have := h4 b hb
            simp only [decide_eq_true_eq]; omega
          have h94 : (5 : Int) - ((9 : Nat) : Int) = -4 := by omega
          rw [hall, hsets] at j1
          rw [h94] at j3
          rw [List.drop_zero] at i2
          have hfit' : ∀ x ∈ ds'.map Duo.a, Fits g.moves x := fun x hx => by
            rw [i2] at hx
            rcases stepB_mem ac _ x hx with h | ⟨a, -, rfl⟩
            · exact hfit x h
            · exact (aftA_ok L N g.moves hm hL _ hq a).2.fits
          have hPP' : ∀ x ∈ ds'.map Duo.a, P x := fun x hx => by
            rw [i2] at hx
            rcases stepB_mem ac _ x hx with h | ⟨a, -, rfl⟩
            · exact hPP x h
            · exact hP _ a hq (hPP _ (List.mem_map_of_mem (List.getElem_mem hlt)))
          have hgrow : ds.length ≤ ds'.length := by
            have h1 := stepB_len (A := aftA L N g.moves (ds[k]).a) ac (ds.map Duo.a)
            rw [← i2, List.length_map, List.length_map] at h1; exact h1
          obtain ⟨o, v, f1, f2, f3⟩ := ih (k + 1) ds' es' sets' (by omega) (by omega) (by omega) i4 i3 (fun e he => by have := i5 e he; omega) hfit' hPP' (by rw [j1, i2]) j2 n1 n2 (by omega) (by omega)
          refine ⟨o, v, ?_, ?_, f3⟩
          · rw [hbk]
            refine (show _ = _ from i1).trans ?_
            show f25_1.p1_e2 L N _ _ _ (-1) g.moves (k : Int) false g.moves g.moves ds' es' = _
            unfold f25_1.p1_e2 f25_1.p1_e2'
            rw [wi_nat (by omega)]
            exact f1
          · refine (show _ = _ from j3).trans ?_
            show f6.p1_e2 L N _ _ _ (k : Int) g.moves sets' = _
            unfold f6.p1_e2 f6.p1_e2'
            rw [wi_nat (by omega)]
            exact f2
    · have hlt2 : ¬ k < sets.length := by omega
      rw [ge_cast hlt, cond_false, ge_cast hlt2, cond_false]
      exact ⟨true, false, rfl, rfl, fun _ => rfl⟩
end
end Go.Proofs.YtffkhhblppfbfaaDoor.Ev
namespace Go.Proofs.YtffkhhblppfbfaaDoor.Ev
open Go
set_option linter.unusedVariables false
set_option linter.unusedSimpArgs false
theorem hasEnd_ok (L N : Nat) (q : List Int) (x : List Bool) (hL : q.length < L) (hl : q.length ≤ 1048576) (hr : ∀ v ∈ q, 0 ≤ v ∧ v < (x.length : Int)) : f54_1 L N q x = some (q.any fun s => x.getD s.toNat false) := by
  have one : ∀ v ∈ q, f56_1 L N v x = some (x.getD v.toNat false) := fun v hv => by
    obtain ⟨h0, h1⟩ := hr v hv
    obtain ⟨t, rfl⟩ := Int.eq_ofNat_of_zero_le h0
    have htl : t < x.length := by omega
    show f56_1.b' L N some (t : Int) x = _
    unfold f56_1.b'
    simp only [le0, lt_cast htl, Bool.and_true, cond_true, Int.toNat_natCast, atD]
  have key : ∀ (n i : Nat), i ≤ q.length → q.length - i < n → ∃ r : Int, f72_1.l0 L N (f72_1.p0_e0 L N some) (fun z5 => f72_1.p0_r L N some z5) n q x (q.length : Int) (i : Int) = some r ∧ decide (r ≥ 0) = (q.drop i).any fun s => x.getD s.toNat false := by
    intro n
    induction n with
    | zero => intro i _ h; omega
    | succ n ih =>
      intro i hi hn
      show ∃ r : Int, f72_1.s0 L N _ _ (f72_1.l0 L N _ _ n) q x (q.length : Int) (i : Int) = some r ∧ _
      unfold f72_1.s0 f72_1.s0'
      by_cases hlt : i < q.length
      · simp only [lt_cast hlt, le0, cond_true, Bool.and_true, Int.toNat_natCast, at_lt hlt, one _ (List.getElem_mem hlt), Option.bind_some]
        rw [List.drop_eq_getElem_cons hlt, List.any_cons]
        cases hb : x.getD (q[i]).toNat false with
        | true => rw [cond_true]; exact ⟨(i : Int), rfl, by rw [Bool.true_or]; exact dt (by omega)⟩
        | false => rw [cond_false, Bool.false_or, wi_nat (by omega)]; exact ih (i + 1) (by omega) (by omega)
      · rw [ge_cast hlt, cond_false, List.drop_eq_nil_of_le (by omega)]
        exact ⟨-1, rfl, rfl⟩
  obtain ⟨r, h1, h2⟩ := key L 0 (by omega) (by omega)
  rw [List.drop_zero] at h2
  have h3 : f72_1 L N q x = some r := h1
  show f54_1.b' L N some q x = _
  unfold f54_1.b'
  rw [h3, Option.bind_some, h2]
theorem calm_eq (L N : Nat) (g : Graph) (hok : graphOk g = true) (hg : g.moves.length + gsize g.moves ≤ 1048576) (hL : 1048576 < L) : ∃ e, f24 L N g = some e ∧ f16 L N g = some (!e) := by
  have hm := leads_of hok hg
  have hn := hm.1
  obtain ⟨hn1, -, -⟩ := graphOk_mv hok
  have hge : Graph.mk g.moves = g := by cases g; rfl
  obtain ⟨x, l1, l2, l3, -, -⟩ := loops_eq L N hL g.moves hm
  obtain ⟨q, q1, q2, q3, q4⟩ := reach_eq L N g.moves hm hn1 hL
  rw [hge] at l1 l2 q1 q2
  have hr : ∀ v ∈ q, 0 ≤ v ∧ v < (x.length : Int) := fun v hv => by have := q3 v hv; omega
  refine ⟨q.any fun s => x.getD s.toNat false, ?_, ?_⟩
  · show f24.b' L N some g = _
    unfold f24.b'
    rw [hge, l1, Option.bind_some, q1, Option.bind_some, hasEnd_ok L N q x (by omega) (by omega) hr]; rfl
  · show f16.b L N some g = _
    unfold f16.b f16.b'
    rw [hge, l2, Option.bind_some, q2, Option.bind_some]
    have key : ∀ (n i : Nat), i ≤ q.length → q.length - i < n → f16.l0 L N (f16.p0_e0 L N some) (fun z5 => f16.p0_r L N some z5) n x q (i : Int) = some (!(q.drop i).any fun s => x.getD s.toNat false) := by
      intro n
      induction n with
      | zero => intro i _ h; omega
      | succ n ih =>
        intro i hi hn
        show f16.s0 L N _ _ (f16.l0 L N _ _ n) x q (i : Int) = _
        unfold f16.s0 f16.s0'
        by_cases hlt : i < q.length
        · obtain ⟨h0, h1⟩ := hr _ (List.getElem_mem hlt)
          obtain ⟨t, ht⟩ := Int.eq_ofNat_of_zero_le h0
          have htl : t < x.length := by omega
          simp only [lt_cast hlt, le0, cond_true, Bool.and_true, Int.toNat_natCast, at_lt hlt, ht, lt_cast htl, atD]
          rw [List.drop_eq_getElem_cons hlt, List.any_cons, ht, Int.toNat_natCast]
          cases hb : x.getD t false with
          | true => rw [cond_true, Bool.true_or]; rfl
          | false => rw [cond_false, Bool.false_or, wi_nat (by omega)]; exact ih (i + 1) (by omega) (by omega)
        · rw [ge_cast hlt, cond_false, List.drop_eq_nil_of_le (by omega)]; rfl
    exact key L 0 (by omega) (by omega)
theorem failSure_eq (P : List Int → Prop) (L N : Nat) (g : Graph) (hg : g.moves.length + gsize g.moves ≤ 1048576) (hL : 8589934592 ≤ L) (hP : graphOk g = true → ∀ q a, Fits g.moves q → P q → P (aftA L N g.moves q a)) (hP0 : graphOk g = true → ∀ q, Row g.moves q (Slip g.moves fun x => x = 0) → P q) :
    ∃ a b, f8 L N g = some (a, b) ∧ f6 L N g = some (a, b) ∧ ((graphOk g = true → ∀ q, Fits g.moves q → P q → ∀ a, (∃ t, StepX g.moves (fun t => (t : Int) ∈ q) a t) → q.any (lacksR g.moves a) = false) → b = true → a = true) := by
  have hge : Graph.mk g.moves = g := by cases g; rfl
  have h1 := gok1_ok L N g (by omega) hg
  have h2 := gok2_ok L N g (by omega) hg
  show ∃ a b, f8.b L N (fun a0 a1 => some (a0, a1)) g = some (a, b) ∧ f6.b L N (fun a0 a1 => some (a0, a1)) g = some (a, b) ∧ _
  unfold f8.b f8.b' f6.b f6.b'
  rw [hge, h1, h2, Option.bind_some, Option.bind_some]
  cases hok : graphOk g with
  | false => exact ⟨false, false, rfl, rfl, fun _ h => by cases h⟩
  | true =>
    rw [Bool.not_true, cond_false, cond_false]
    obtain ⟨e, c1, c2⟩ := calm_eq L N g hok hg (by omega)
    rw [c1, c2, Option.bind_some, Option.bind_some, Bool.not_not]
    cases e with
    | true => exact ⟨false, false, rfl, rfl, fun _ h => by cases h⟩
    | false =>
      rw [cond_false, cond_false]
      have hm := leads_of hok hg
      obtain ⟨hn1, -, -⟩ := graphOk_mv hok
      obtain ⟨q, b1, b2⟩ := behI L N g.moves [] hm hn1 (by simp) (by omega)
      obtain ⟨b, f1, f2, f3⟩ := first8_ok L N g.moves hm hn1 (by omega)
      rw [hge] at b1 f1
      have hqb : listB b = q := Row.uniq (X := Slip g.moves fun x => x = 0) (listB_row f2 f3) b2
      have hqf := b2.fits
      have hkey := Fits.key hm hqf
      have hk0 := setKey_ok L N q hkey.1 hkey.2 (by omega)
      have hksz := keyB_size hkey.1
      obtain ⟨o, v, r1, r2, r3⟩ := fail_loop L N P g hok hg hL (hP hok) 401 0 [Duo.mk q q []] (mapPut .str .bool (keyD q) true []) [b] (by omega) (by omega) (by simp)
        (by have := Seen.nil.add (y := q) hkey.2; simpa using this) rfl (fun e he => by obtain rfl := List.mem_singleton.1 he; simp) (fun x hx => by
          have : x = q := by simpa using hx
          rw [this]; exact hqf) (fun x hx => by
          have : x = q := by simpa using hx
          rw [this]; exact hP0 hok q b2) (by simp [hqb]) (fun s hs => by obtain rfl := List.mem_singleton.1 hs; exact f2) L L (by omega) (by omega)
      have hl2 : decide ((keyB q).size + (keyB q).size ≤ 4611686018427387904) = true := dt (by omega)
      have hd : f25_1 L N false ⟨g.moves⟩ ⟨g.moves⟩ (-1) g.moves = some (o, v) := by
        show f25_1.b L N (fun a0 a1 => some (a0, a1)) false ⟨g.moves⟩ ⟨g.moves⟩ (-1) g.moves = _
        unfold f25_1.b f25_1.b'
        rw [hge, b1]
        simp only [Option.bind_some]
        have hz : (decide ((0 : Int) ≤ 0) && decide ((0 : Int) < (([Duo.mk q q []] : List Duo).length : Int))) = true := rfl
        have hla : listAt [Duo.mk q q []] (Ty.dflt (.st 4)) (0 : Int).toNat = Duo.mk q q [] := rfl
        rw [hz, cond_true, hla, hk0, Option.bind_some, cond_true, Option.bind_some, hl2, cond_true]
        exact r1
      unfold f8.j0' f6.j1'
      rw [hd, hge, f1, Option.bind_some, Option.bind_some]
      have r2' : f6.l0 L N (f6.p0_e0 L N (fun a0 a1 => some (a0, a1))) (fun z9 z10 => f6.p0_r L N (fun a0 a1 => some (a0, a1)) z9 z10) L (0 : Int) g.moves [b] = some (o && !v, o) := r2
      dsimp only
      rw [r2']
      cases o with
      | false => exact ⟨false, false, rfl, rfl, fun _ h => by cases h⟩
      | true => exact ⟨!v, true, rfl, rfl, fun hno _ => by rw [r3 (hno (by trivial))]; rfl⟩
theorem exactFailSure (g : Graph) (hg : DatOk (.st 2) g) : ∃ L N, f3 L N g = some true := by
  have hge : Graph.mk g.moves = g := by cases g; rfl
  generalize hLL : 8589934592 = L
  refine ⟨L, 0, ?_⟩
  have hlim := lim_eq
  show f3.b' L 0 some g = _
  unfold f3.b'
  rw [hge]
  obtain ⟨r, hr, hc⟩ := szGraph_ok L 0 g hg (by omega)
  rw [hr]
  simp only [Option.bind_some]
  by_cases hn : r < 0
  · rw [dt hn, cond_true]
  · rw [df hn, cond_false]
    have hsz : g.moves.length + gsize g.moves ≤ 1048576 := by omega
    obtain ⟨a, b, h1, h2, -⟩ := failSure_eq (fun _ => True) L 0 g hsz (by omega) (fun _ _ _ _ _ => trivial) (fun _ _ _ => trivial)
    simp only [toGraph_ok L 0 g (by omega) hsz, hge, h1, h2, Option.bind_some, beq_self_eq_true, Bool.not_true, cond_false]
    unfold f3.j0'
    simp only [toGraph_ok L 0 g (by omega) hsz, hge, Option.bind_some, eqGraph_ok L 0 g (by omega) hsz, Bool.not_true, cond_false]
end Go.Proofs.YtffkhhblppfbfaaDoor.Ev
