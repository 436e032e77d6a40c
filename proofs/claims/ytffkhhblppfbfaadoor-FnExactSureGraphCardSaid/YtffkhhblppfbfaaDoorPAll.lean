/- Plain laws, in one text. -/
import Derived.Test.YtffkhhblppfbfaaDoorGZ4b
import Derived.Test.YtffkhhblppfbfaaDoorEvZ
import Derived.Test.YtffkhhblppfbfaaDoorEvSort
import Derived.Lib.ItoaNum
namespace Go.Proofs.YtffkhhblppfbfaaDoor.Ev
open Go
set_option linter.unusedVariables false
set_option linter.unusedSimpArgs false
theorem act1_ok (L N : Nat) (n : Int) : f51 L N n = some (decide (-4 ≤ n ∧ n ≤ 4)) := by
  show f51.b L N some n = _
  unfold f51.b f51.b'
  by_cases h : n ≥ -4
  · rw [dt h, cond_true]; congr 1; by_cases h2 : n ≤ 4
    · rw [dt h2, dt (by omega)]
    · rw [df h2, df (by omega)]
  · rw [df h, cond_false, df (by omega)]
theorem in_ok (L N : Nat) (n a b : Int) : f40 L N n a b = some (decide (a ≤ n ∧ n ≤ b)) := by
  show f40.b L N some n a b = _
  unfold f40.b f40.b'
  by_cases h : n ≥ a
  · rw [dt h, cond_true]; congr 1; by_cases h2 : n ≤ b
    · rw [dt h2, dt (by omega)]
    · rw [df h2, df (by omega)]
  · rw [df h, cond_false, df (by omega)]
theorem act2_ok (L N : Nat) (n : Int) : f41 L N n = some (decide (-4 ≤ n ∧ n ≤ 4)) := by
  show f41.b L N some n = _
  unfold f41.b f41.b'
  rw [in_ok]; rfl
def gsize (ms : List (List Move)) : Nat := (ms.map List.length).sum
theorem szMoveS_ok (L N : Nat) (x : List Move) (left : Int) (hx : x.length ≤ maxLen) (h0 : 0 ≤ left) (h1 : left ≤ 1048576) : f39 L N x left = some (if (x.length : Int) ≤ left then left - x.length else -1) := by
  show f39.b L N some x left = _
  unfold f39.b f39.b'
  have hm := maxLen_eq
  rw [wi_id (by omega) (by omega)]
  by_cases h : (x.length : Int) ≤ left
  · rw [df (by omega), cond_false, if_pos h]
  · rw [dt (by omega), cond_true, if_neg h]
theorem szMoveSS_ok (L N : Nat) (x : List (List Move)) (left : Int) (hx : x.length ≤ maxLen) (hr : ∀ r ∈ x, r.length ≤ maxLen) (hL : 1048576 < L) (h0 : 0 ≤ left) (h1 : left ≤ 1048576) :
    f14 L N x left = some (if ((x.length + gsize x : Nat) : Int) ≤ left then left - (x.length + gsize x : Nat) else -1) := by
  have hm := maxLen_eq
  show f14.b L N some x left = _
  unfold f14.b f14.b'
  rw [wi_id (by omega) (by omega)]
  by_cases h : left - (x.length : Int) < 0
  · rw [dt h, cond_true, if_neg (by omega)]
  · rw [df h, cond_false]
    have key : ∀ (n i : Nat) (l : Int), x.length - i < n → i ≤ x.length → 0 ≤ l → l ≤ 1048576 →
        f14.l0 L N (fun z3 => f14.p0_e0 L N some z3) (fun z5 z6 => f14.p0_r L N some z5 z6) n x l (i : Int) = some (if ((gsize (x.drop i) : Nat) : Int) ≤ l then l - (gsize (x.drop i) : Nat) else -1) := by
      intro n
      induction n with
      | zero => intro i l h; omega
      | succ n ih =>
        intro i l h2 hi l0 l1
        show f14.s0 L N _ _ (f14.l0 L N _ _ n) x l i = _
        unfold f14.s0 f14.s0'
        by_cases hlt : i < x.length
        · simp only [lt_cast hlt, le0, cond_true, Bool.and_true, Int.toNat_natCast, at_lt hlt]
          rw [szMoveS_ok L N x[i] l (hr _ (List.getElem_mem hlt)) l0 l1]
          have hd : gsize (x.drop i) = x[i].length + gsize (x.drop (i + 1)) := by
            rw [List.drop_eq_getElem_cons hlt]; simp only [gsize, List.map_cons, List.sum_cons]
          simp only [Option.bind_some]
          by_cases hc : (x[i].length : Int) ≤ l
          · rw [if_pos hc, df (by omega), cond_false, wi_nat (by omega), ih (i + 1) _ (by omega) (by omega) (by omega) (by omega), hd]
            congr 1
            split <;> split <;> omega
          · rw [if_neg hc, dt (by omega), cond_true, if_neg (by omega)]
            rfl
        · simp only [ge_cast hlt, cond_false]
          have hi' : i = x.length := by omega
          subst hi'
          rw [List.drop_length]
          have : ((gsize ([] : List (List Move)) : Nat) : Int) = 0 := rfl
          rw [this, if_pos l0, Int.sub_zero]
          rfl
    refine (key L 0 _ (by omega) (by omega) (by omega) (by omega)).trans ?_
    rw [List.drop_zero]
    congr 1
    split <;> split <;> omega
theorem szGraph_ok (L N : Nat) (g : Graph) (hg : DatOk (.st 2) g) (hL : 1048576 < L) :
    ∃ r : Int, f5 L N g 1048576 = some r ∧ (r < 0 ∨ (g.moves.length + gsize g.moves ≤ 1048576 ∧ 0 ≤ r ∧ r ≤ 1048576)) := by
  obtain ⟨h1, h2⟩ := graph_ok hg
  show ∃ r, f5.b L N some g 1048576 = some r ∧ _
  unfold f5.b f5.b'
  rw [szMoveSS_ok L N g.moves 1048576 h1 (fun r hr => (h2 r hr).1) hL (by omega) (by omega)]
  simp only [Option.bind_some]
  by_cases hc : ((g.moves.length + gsize g.moves : Nat) : Int) ≤ 1048576
  · rw [if_pos hc, df (by omega), cond_false]
    exact ⟨_, rfl, .inr (by omega)⟩
  · rw [if_neg hc, dt (by omega), cond_true]
    exact ⟨_, rfl, .inl (by omega)⟩
theorem gsize_row {ms : List (List Move)} : ∀ r ∈ ms, r.length ≤ gsize ms := by
  intro r hr
  unfold gsize
  induction ms with
  | nil => cases hr
  | cons a ms ih =>
    rw [List.map_cons, List.sum_cons]
    rcases List.mem_cons.1 hr with rfl | hr
    · omega
    · have := ih hr; omega
theorem toMove_ok (L N : Nat) (m : Move) : f69 L N m = some m := rfl
theorem toMoveS_ok (L N : Nat) (x : List Move) (hL : x.length < L) (hl : x.length ≤ lim) : f50 L N x = some x := by
  have hm := lim_eq
  show f50.b L N some x = _
  unfold f50.b f50.b'
  refine (bif_t2 (by omega) (by omega)).trans ?_
  refine copy_loop (l := fun n i ys => f50.l0 L N (fun z3 => f50.p0_e0 L N some z3) n x i ys) (fun n i hi ys hy => ?_) (fun n ys => ?_) L 0 _ (by omega) (by omega) (by simp) (by simp)
  · show f50.s0 L N _ (f50.l0 L N _ n) x i ys = _
    unfold f50.s0 f50.s0'
    simp only [lt_cast hi, le0, cond_true, Bool.and_true, Int.toNat_natCast, at_lt hi, toMove_ok, Option.bind_some, lt_cast (show i < ys.length by omega), wi_nat (show i < 9223372036854775807 by omega)]
  · show f50.s0 L N _ (f50.l0 L N _ n) x x.length ys = _
    unfold f50.s0 f50.s0'
    simp only [ge_cast (Nat.lt_irrefl _), cond_false]
    rfl
theorem toMoveSS_ok (L N : Nat) (x : List (List Move)) (hL : x.length < L) (hl : x.length ≤ lim) (hr : ∀ r ∈ x, r.length < L ∧ r.length ≤ lim) : f22 L N x = some x := by
  have hm := lim_eq
  show f22.b L N some x = _
  unfold f22.b f22.b'
  refine (bif_t2 (by omega) (by omega)).trans ?_
  refine copy_loop (l := fun n i ys => f22.l0 L N (fun z3 => f22.p0_e0 L N some z3) n x i ys) (fun n i hi ys hy => ?_) (fun n ys => ?_) L 0 _ (by omega) (by omega) (by simp) (by simp)
  · show f22.s0 L N _ (f22.l0 L N _ n) x i ys = _
    unfold f22.s0 f22.s0'
    have h1 := hr _ (List.getElem_mem hi)
    simp only [lt_cast hi, le0, cond_true, Bool.and_true, Int.toNat_natCast, at_lt hi, toMoveS_ok L N x[i] h1.1 h1.2, Option.bind_some, lt_cast (show i < ys.length by omega), wi_nat (show i < 9223372036854775807 by omega)]
  · show f22.s0 L N _ (f22.l0 L N _ n) x x.length ys = _
    unfold f22.s0 f22.s0'
    simp only [ge_cast (Nat.lt_irrefl _), cond_false]
    rfl
theorem toGraph_ok (L N : Nat) (g : Graph) (hL : 1048576 < L) (hs : g.moves.length + gsize g.moves ≤ 1048576) : f7 L N g = some g.moves := by
  have hm := lim_eq
  show f7.b L N some g = _
  unfold f7.b f7.b'
  rw [toMoveSS_ok L N g.moves (by omega) (by omega) (fun r hr => by have := gsize_row r hr; omega)]
  rfl
theorem eqMove_ok (L N : Nat) (m : Move) : f75 L N m m = some true := by
  show f75.b L N some m m = _
  unfold f75.b f75.b'
  simp only [bne_self_eq_false, cond_false]
theorem allN_true (k i : Nat) : allN (fun _ => true) k i = true := by
  induction k generalizing i with
  | zero => rfl
  | succ k ih => exact ih (i + 1)
theorem eqMoveS_ok (L N : Nat) (x : List Move) (hL : x.length < L) (hl : x.length ≤ lim) : f62 L N x x = some true := by
  have hm := lim_eq
  show f62.b L N some x x = _
  unfold f62.b f62.b'
  simp only [bne_self_eq_false, cond_false]
  refine (all_loop (l := fun n i => f62.l0 L N (f62.p0_e0 L N some) (fun z4 => f62.p0_r L N some z4) n x x i) (len := x.length) (q := fun _ => true) (rt := some true) (rf := some false) (fun n i hi => ?_) (fun n => ?_) L 0 (by omega) (by omega)).trans (by rw [allN_true]; rfl)
  · show f62.s0 L N _ _ (f62.l0 L N _ _ n) x x i = _
    unfold f62.s0 f62.s0'
    simp only [lt_cast hi, le0, cond_true, Bool.and_true, Int.toNat_natCast, at_lt hi, eqMove_ok, Option.bind_some, Bool.not_true, cond_false, wi_nat (show i < 9223372036854775807 by omega)]
  · show f62.s0 L N _ _ (f62.l0 L N _ _ n) x x x.length = _
    unfold f62.s0 f62.s0'
    simp only [ge_cast (Nat.lt_irrefl _), cond_false]
    rfl
theorem eqGraph_ok (L N : Nat) (g : Graph) (hL : 1048576 < L) (hs : g.moves.length + gsize g.moves ≤ 1048576) : f9 L N g g = some true := by
  have hm := lim_eq
  have key : f31 L N g.moves g.moves = some true := by
    generalize hx : g.moves = x
    rw [hx] at hs
    show f31.b L N some x x = _
    unfold f31.b f31.b'
    simp only [bne_self_eq_false, cond_false]
    refine (all_loop (l := fun n i => f31.l0 L N (f31.p0_e0 L N some) (fun z4 => f31.p0_r L N some z4) n x x i) (len := x.length) (q := fun _ => true) (rt := some true) (rf := some false) (fun n i hi => ?_) (fun n => ?_) L 0 (by omega) (by omega)).trans (by rw [allN_true]; rfl)
    · show f31.s0 L N _ _ (f31.l0 L N _ _ n) x x i = _
      unfold f31.s0 f31.s0'
      have := gsize_row _ (List.getElem_mem hi)
      simp only [lt_cast hi, le0, cond_true, Bool.and_true, Int.toNat_natCast, at_lt hi, eqMoveS_ok L N x[i] (by omega) (by omega), Option.bind_some, Bool.not_true, cond_false, wi_nat (show i < 9223372036854775807 by omega)]
    · show f31.s0 L N _ _ (f31.l0 L N _ _ n) x x x.length = _
      unfold f31.s0 f31.s0'
      simp only [ge_cast (Nat.lt_irrefl _), cond_false]
      rfl
  show f9.b L N some g g = _
  unfold f9.b f9.b'
  rw [key]; rfl
def lessM (a b : Move) : Bool := decide (a.act < b.act ∨ (a.act = b.act ∧ a.to < b.to))
def mvOk (n : Nat) (m : Move) : Bool := decide (-4 ≤ m.act ∧ m.act ≤ 4) && decide (0 ≤ m.to ∧ m.to < (n : Int))
def atOk (n : Nat) (r : List Move) (k : Nat) : Bool := mvOk n (r.getD k ⟨0, 0⟩) && (decide (k = 0) || lessM (r.getD (k - 1) ⟨0, 0⟩) (r.getD k ⟨0, 0⟩))
def rowOk (n : Nat) (r : List Move) : Bool := allN (atOk n r) r.length 0
def graphOk (g : Graph) : Bool := decide (1 ≤ g.moves.length ∧ g.moves.length ≤ 60) && allN (fun i => rowOk g.moves.length (g.moves.getD i [])) g.moves.length 0
theorem atD {α : Type} (x : List α) (d : α) (i : Nat) : listAt x d i = x.getD i d := rfl
theorem less2_ok (L N : Nat) (a b : Move) : f42 L N a b = some (lessM a b) := by
  show f42.b L N some a b = _
  unfold f42.b f42.b' lessM
  by_cases h : a.act < b.act
  · rw [dt h, cond_true, dt (by omega)]
  · rw [df h, cond_false]
    by_cases h2 : a.act = b.act
    · have : (a.act == b.act) = true := by simpa using h2
      rw [this, cond_true]
      by_cases h3 : a.to < b.to
      · rw [dt h3, dt (by omega)]
      · rw [df h3, df (by omega)]
    · have : (a.act == b.act) = false := by simpa using h2
      rw [this, cond_false, df (by omega)]
theorem cmp_ok (L N : Nat) (a b : Int) : f70 L N a b = some (if a < b then -1 else if a > b then 1 else 0) := by
  show f70.b L N some a b = _
  unfold f70.b f70.b'
  have h0 : ∀ a, f80 L N a = some false := fun a => by
    show f80.b L N some a = _
    unfold f80.b f80.b'
    simp
  simp only [h0, Option.bind_some, cond_false]
  by_cases h : a < b
  · rw [dt h, cond_true, if_pos h]
  · rw [df h, cond_false, if_neg h]
    by_cases h2 : a > b
    · rw [dt h2, cond_true, if_pos h2]
    · rw [df h2, cond_false, if_neg h2]
theorem byMove_ok (L N : Nat) (a b : Move) : ∃ r : Int, f52 L N a b = some r ∧ decide (r ≥ 0) = !lessM a b := by
  show ∃ r, f52.b L N some a b = some r ∧ _
  unfold f52.b f52.b' lessM
  simp only [cmp_ok, Option.bind_some]
  by_cases h : a.act < b.act
  · rw [if_pos h]
    exact ⟨-1, rfl, by rw [dt (show a.act < b.act ∨ _ from .inl h)]; rfl⟩
  · rw [if_neg h]
    by_cases h2 : a.act > b.act
    · rw [if_pos h2]
      exact ⟨1, rfl, by rw [df (show ¬ (a.act < b.act ∨ a.act = b.act ∧ a.to < b.to) by omega)]; rfl⟩
    · rw [if_neg h2]
      refine ⟨_, rfl, ?_⟩
      by_cases h3 : a.to < b.to
      · rw [if_pos h3, dt (show a.act < b.act ∨ a.act = b.act ∧ a.to < b.to by omega)]; rfl
      · rw [if_neg h3, df (show ¬ (a.act < b.act ∨ a.act = b.act ∧ a.to < b.to) by omega)]
        by_cases h4 : a.to > b.to
        · rw [if_pos h4]; rfl
        · rw [if_neg h4]; rfl
end Go.Proofs.YtffkhhblppfbfaaDoor.Ev
namespace Go.Proofs.YtffkhhblppfbfaaDoor.Ev
open Go
set_option linter.unusedVariables false
set_option linter.unusedSimpArgs false
theorem getD_lt {α : Type} {x : List α} {d : α} {i : Nat} (h : i < x.length) : x.getD i d = x[i] := by
  rw [List.getD_eq_getElem?_getD, List.getElem?_eq_getElem h]; rfl
theorem pred_cast {k : Nat} (h : 0 < k) (h2 : k < 9223372036854775807) : wi ((k : Int) - 1) = ((k - 1 : Nat) : Int) := by
  rw [wi_id (by omega) (by omega)]; omega
theorem mv_eta (m : Move) : Move.mk m.act m.to = m := by cases m; rfl
theorem gok2_ok (L N : Nat) (g : Graph) (hL : 1048576 < L) (hs : g.moves.length + gsize g.moves ≤ 1048576) : f15 L N g = some (graphOk g) := by
  show f15.b L N some g = _
  unfold f15.b f15.b' graphOk
  generalize hms : g.moves = ms
  rw [hms] at hs
  rw [in_ok]
  simp only [Option.bind_some]
  by_cases hr : 1 ≤ (ms.length : Int) ∧ (ms.length : Int) ≤ 60
  · rw [dt hr, dt (show 1 ≤ ms.length ∧ ms.length ≤ 60 by omega)]
    simp only [Bool.not_true, cond_false, Bool.true_and]
    refine (all_loop (l := fun n i => f15.l0 L N (f15.p0_e0 L N some) (fun z => f15.p0_r L N some z) n i ms) (len := ms.length) (q := fun i => rowOk ms.length (ms.getD i [])) (rt := some true) (rf := some false) (fun n i hi => ?_) (fun n => ?_) L 0 (by omega) (by omega)).trans ?_
    · show f15.s0 L N _ _ (f15.l0 L N _ _ n) i ms = _
      unfold f15.s0 f15.s0'
      simp only [lt_cast hi, cond_true, getD_lt hi]
      have hrow := gsize_row _ (List.getElem_mem hi)
      refine (all_loop (l := fun n k => f15.l1 L N (fun z6 z7 => f15.p1_e2 L N (f15.p0_e0 L N some) (fun z => f15.p0_r L N some z) (f15.l0 L N (f15.p0_e0 L N some) (fun z => f15.p0_r L N some z) _) z6 z7) (fun z15 z16 z17 => f15.p1_r L N (f15.p0_e0 L N some) (fun z => f15.p0_r L N some z) (f15.l0 L N (f15.p0_e0 L N some) (fun z => f15.p0_r L N some z) _) z15 z16 z17) n i k ms) (len := (ms[i]).length) (q := atOk ms.length ms[i]) (rt := f15.l0 L N (f15.p0_e0 L N some) (fun z => f15.p0_r L N some z) n ((i + 1 : Nat) : Int) ms) (rf := some false) (fun n' k hk => ?_) (fun n' => ?_) L 0 (by omega) (by omega)).trans (by rw [Nat.sub_zero]; rfl)
      · show f15.s1 L N _ _ (f15.l1 L N _ _ n') i k ms = _
        unfold f15.s1 f15.s1'
        have hw : wi ((ms.length : Int) - 1) = (ms.length : Int) - 1 := wi_id (by omega) (by omega)
        simp only [lt_cast hi, le0, cond_true, Bool.and_true, Bool.true_and, Int.toNat_natCast, at_lt hi, lt_cast hk, at_lt hk, act2_ok, in_ok, Option.bind_some, less2_ok, hw, mv_eta, wi_nat (show k < 9223372036854775807 by omega)]
        unfold atOk mvOk
        rw [getD_lt hk]
        by_cases hA : -4 ≤ (ms[i])[k].act ∧ (ms[i])[k].act ≤ 4
        · by_cases hB : 0 ≤ (ms[i])[k].to ∧ (ms[i])[k].to < (ms.length : Int)
          · rw [dt hA, dt hB, dt (show 0 ≤ (ms[i])[k].to ∧ (ms[i])[k].to ≤ (ms.length : Int) - 1 by omega)]
            simp only [Bool.not_true, cond_false, Bool.true_and]
            by_cases hk0 : k = 0
            · subst hk0
              rfl
            · have hp : k - 1 < (ms[i]).length := by omega
              rw [dt (show (k : Int) > 0 by omega), cond_true, pred_cast (by omega) (by omega)]
              simp only [le0, lt_cast hp, Bool.and_true, cond_true, Int.toNat_natCast, at_lt hp, Option.bind_some, df hk0, Bool.false_or, getD_lt hp]
              cases lessM (ms[i])[k - 1] (ms[i])[k] <;> rfl
          · rw [dt hA, df hB, df (show ¬ (0 ≤ (ms[i])[k].to ∧ (ms[i])[k].to ≤ (ms.length : Int) - 1) by omega)]
            rfl
        · rw [df hA]
          rfl
      · show f15.s1 L N _ _ (f15.l1 L N _ _ n') i (ms[i]).length ms = _
        unfold f15.s1 f15.s1'
        simp only [lt_cast hi, le0, cond_true, Bool.and_true, Bool.true_and, Int.toNat_natCast, at_lt hi, ge_cast (Nat.lt_irrefl _), cond_false]
        show f15.l0 L N _ _ n (wi ((i : Int) + 1)) ms = _
        rw [wi_nat (by omega)]
    · show f15.s0 L N _ _ (f15.l0 L N _ _ n) ms.length ms = _
      unfold f15.s0 f15.s0'
      simp only [ge_cast (Nat.lt_irrefl _), cond_false]
      rfl
    · rw [Nat.sub_zero]
      cases allN (fun i => rowOk ms.length (ms.getD i [])) ms.length 0 <;> rfl
  · rw [df hr, df (show ¬ (1 ≤ ms.length ∧ ms.length ≤ 60) by omega)]
    rfl
theorem gok1_ok (L N : Nat) (g : Graph) (hL : 1048576 < L) (hs : g.moves.length + gsize g.moves ≤ 1048576) : f23 L N g = some (graphOk g) := by
  show f23.b L N some g = _
  unfold f23.b f23.b' graphOk
  generalize hms : g.moves = ms
  rw [hms] at hs
  by_cases h1 : (ms.length : Int) < 1
  · rw [dt h1, cond_true, df (show ¬ (1 ≤ ms.length ∧ ms.length ≤ 60) by omega)]; rfl
  · rw [df h1, cond_false]
    by_cases h2 : (ms.length : Int) > 60
    · rw [dt h2, cond_true, df (show ¬ (1 ≤ ms.length ∧ ms.length ≤ 60) by omega)]; rfl
    · rw [df h2, cond_false, dt (show 1 ≤ ms.length ∧ ms.length ≤ 60 by omega)]
      simp only [Bool.true_and]
      unfold f23.j0'
      refine (all_loop (l := fun n i => f23.l0 L N (f23.p0_e0 L N some) (fun z => f23.p0_r L N some z) n ms (ms.length : Int) i ms) (len := ms.length) (q := fun i => rowOk ms.length (ms.getD i [])) (rt := some true) (rf := some false) (fun n i hi => ?_) (fun n => ?_) L 0 (by omega) (by omega)).trans ?_
      · show f23.s0 L N _ _ (f23.l0 L N _ _ n) ms (ms.length : Int) i ms = _
        unfold f23.s0 f23.s0'
        simp only [lt_cast hi, le0, Bool.and_true, cond_true, Int.toNat_natCast, at_lt hi, getD_lt hi]
        have hrow := gsize_row _ (List.getElem_mem hi)
        refine (all_loop (l := fun n k => f23.l1 L N (fun z15 z16 z17 z18 => f23.p1_e2 L N (f23.p0_e0 L N some) (fun z => f23.p0_r L N some z) (f23.l0 L N (f23.p0_e0 L N some) (fun z => f23.p0_r L N some z) _) z15 z16 z17 z18) (fun z30 z31 z32 z33 z34 => f23.p1_r L N (f23.p0_e0 L N some) (fun z => f23.p0_r L N some z) (f23.l0 L N (f23.p0_e0 L N some) (fun z => f23.p0_r L N some z) _) z30 z31 z32 z33 z34) n ms[i] ms (ms.length : Int) i ms[i] ((ms[i]).length : Int) k ms) (len := (ms[i]).length) (q := atOk ms.length ms[i]) (rt := f23.l0 L N (f23.p0_e0 L N some) (fun z => f23.p0_r L N some z) n ms (ms.length : Int) ((i + 1 : Nat) : Int) ms) (rf := some false) (fun n' k hk => ?_) (fun n' => ?_) L 0 (by omega) (by omega)).trans (by rw [Nat.sub_zero]; rfl)
        · show f23.s1 L N _ _ (f23.l1 L N _ _ n') ms[i] ms (ms.length : Int) i ms[i] ((ms[i]).length : Int) k ms = _
          unfold f23.s1 f23.s1'
          simp only [le0, cond_true, Bool.and_true, Bool.true_and, Int.toNat_natCast, lt_cast hk, at_lt hk, act1_ok, Option.bind_some, mv_eta, wi_nat (show k < 9223372036854775807 by omega)]
          unfold atOk mvOk
          rw [getD_lt hk]
          by_cases hA : -4 ≤ (ms[i])[k].act ∧ (ms[i])[k].act ≤ 4
          · rw [dt hA]
            simp only [Bool.not_true, cond_false, Bool.true_and]
            by_cases hB0 : (ms[i])[k].to < 0
            · rw [dt hB0, df (show ¬ (0 ≤ (ms[i])[k].to ∧ (ms[i])[k].to < (ms.length : Int)) by omega)]; rfl
            · rw [df hB0, cond_false]
              by_cases hB1 : (ms[i])[k].to ≥ (ms.length : Int)
              · rw [dt hB1, df (show ¬ (0 ≤ (ms[i])[k].to ∧ (ms[i])[k].to < (ms.length : Int)) by omega)]; rfl
              · rw [df hB1, cond_false, dt (show 0 ≤ (ms[i])[k].to ∧ (ms[i])[k].to < (ms.length : Int) by omega)]
                by_cases hk0 : k = 0
                · subst hk0
                  rfl
                · have hp : k - 1 < (ms[i]).length := by omega
                  rw [dt (show (k : Int) > 0 by omega), cond_true, pred_cast (by omega) (by omega)]
                  obtain ⟨r, hr, hd⟩ := byMove_ok L N (ms[i])[k - 1] (ms[i])[k]
                  simp only [le0, lt_cast hp, Bool.and_true, cond_true, Int.toNat_natCast, at_lt hp, hr, Option.bind_some, hd, df hk0, Bool.false_or, Bool.true_and, getD_lt hp]
                  cases lessM (ms[i])[k - 1] (ms[i])[k] <;> rfl
          · rw [df hA]
            rfl
        · show f23.s1 L N _ _ (f23.l1 L N _ _ n') ms[i] ms (ms.length : Int) i ms[i] ((ms[i]).length : Int) (ms[i]).length ms = _
          unfold f23.s1 f23.s1'
          simp only [ge_cast (Nat.lt_irrefl _), cond_false]
          show f23.l0 L N _ _ n ms (ms.length : Int) (wi ((i : Int) + 1)) ms = _
          rw [wi_nat (by omega)]
      · show f23.s0 L N _ _ (f23.l0 L N _ _ n) ms (ms.length : Int) ms.length ms = _
        unfold f23.s0 f23.s0'
        simp only [ge_cast (Nat.lt_irrefl _), cond_false]
        rfl
      · rw [Nat.sub_zero]
        cases allN (fun i => rowOk ms.length (ms.getD i [])) ms.length 0 <;> rfl
theorem graphOk_mv {g : Graph} (h : graphOk g = true) : 1 ≤ g.moves.length ∧ g.moves.length ≤ 60 ∧ ∀ (i : Nat) (hi : i < g.moves.length) (k : Nat) (hk : k < (g.moves[i]).length), -4 ≤ (g.moves[i])[k].act ∧ (g.moves[i])[k].act ≤ 4 ∧ 0 ≤ (g.moves[i])[k].to ∧ (g.moves[i])[k].to < (g.moves.length : Int) := by
  unfold graphOk at h
  simp only [Bool.and_eq_true, decide_eq_true_eq] at h
  refine ⟨h.1.1, h.1.2, fun i hi k hk => ?_⟩
  have h1 := allN_get _ 0 h.2 i (by omega) (by omega)
  simp only [getD_lt hi] at h1
  have h2 := allN_get _ 0 h1 k (by omega) (by omega)
  unfold atOk mvOk at h2
  rw [getD_lt hk] at h2
  simp only [Bool.and_eq_true, decide_eq_true_eq] at h2
  exact ⟨h2.1.1.1, h2.1.1.2, h2.1.2.1, h2.1.2.2⟩
end Go.Proofs.YtffkhhblppfbfaaDoor.Ev
namespace Go.Proofs.YtffkhhblppfbfaaDoor.Ev
open Go
set_option linter.unusedVariables false
set_option linter.unusedSimpArgs false
end Go.Proofs.YtffkhhblppfbfaaDoor.Ev
namespace Go.Proofs.YtffkhhblppfbfaaDoor.Ev
open Go
set_option linter.unusedVariables false
set_option linter.unusedSimpArgs false
def upM (k : Int) (n : Nat) : List Move := (List.range n).map fun (i : Nat) => Move.mk (k + 2 * (i : Int)) (k + 2 * (i : Int) + 1)
theorem upM_len (k : Int) (n : Nat) : (upM k n).length = n := by simp [upM]
theorem upM_at (k : Int) (n : Nat) {i : Nat} (h : i < (upM k n).length) : (upM k n)[i] = Move.mk (k + 2 * (i : Int)) (k + 2 * (i : Int) + 1) := by simp [upM]
theorem markMoveS_eq (L N : Nat) (xs : List Move) (k : Int) (hL : xs.length < L) (h0 : 0 ≤ k) (hk : k + 2 * (xs.length : Int) ≤ 4611686018427387904) (hl : xs.length ≤ 4611686018427387904) :
    f66 L N xs k = some (k + 2 * (xs.length : Int), upM k xs.length) := by
  show f66.b L N xs.length _ xs k = _
  unfold f66.b f66.b'
  have key : ∀ (n i : Nat) (ys : List Move), ys.length = xs.length → i ≤ xs.length → xs.length - i < n → (∀ t, t < i → ys[t]? = some (Move.mk (k + 2 * (t : Int)) (k + 2 * (t : Int) + 1))) →
      f66.l0 L N xs.length (fun z3 z4 => f66.p0_e0 L N xs.length (fun a0 a1 => some (a0, a1)) z3 z4) n (k + 2 * (i : Int)) (i : Int) ys = some (k + 2 * (xs.length : Int), upM k xs.length) := by
    intro n
    induction n with
    | zero => intro i ys _ _ h; omega
    | succ n ih =>
      intro i ys hy hi hn hp
      show f66.s0 L N xs.length _ (f66.l0 L N xs.length _ n) (k + 2 * (i : Int)) (i : Int) ys = _
      unfold f66.s0 f66.s0'
      by_cases hlt : i < ys.length
      · simp only [lt_cast hlt, le0, cond_true, Bool.and_true, Int.toNat_natCast, List.length_set]
        rw [show wi (wi (k + 2 * (i : Int) + 1) + 1) = k + 2 * ((i + 1 : Nat) : Int) by rw [wi_id (n := k + 2 * (i : Int) + 1) (by omega) (by omega), wi_id (by omega) (by omega)]; omega, wi_nat (show i < 9223372036854775807 by omega), wi_id (n := k + 2 * (i : Int) + 1) (by omega) (by omega)]
        refine ih (i + 1) _ (by simp [hy]) (by omega) (by omega) (fun t ht => ?_)
        by_cases e : t = i
        · subst e
          simp [hlt, atD, List.getD, List.getElem?_set, List.getElem?_eq_getElem]
        · rw [List.getElem?_set_ne (by omega)]
          try rw [List.getElem?_set_ne (by omega)]
          exact hp t (by omega)
      · simp only [ge_cast hlt, cond_false]
        have hi' : i = xs.length := by omega
        subst hi'
        have hys : ys = upM k xs.length := by
          apply List.ext_getElem?
          intro t
          by_cases ht : t < xs.length
          · rw [hp t ht, List.getElem?_eq_getElem (by rw [upM_len]; exact ht), upM_at]
          · rw [List.getElem?_eq_none (by omega), List.getElem?_eq_none (by rw [upM_len]; omega)]
        unfold f66.p0_e0 f66.p0_e0'
        rw [hy, Nat.beq_refl, cond_true, hys]
  have := key L 0 xs rfl (by omega) (by omega) (fun t ht => by omega)
  rw [show k + 2 * ((0 : Nat) : Int) = k by omega] at this
  exact this
theorem heldMoveS_ok (L N : Nat) (k : Int) (m : Nat) (hL : m < L) (h0 : 0 ≤ k) (hk : k + 2 * (m : Int) ≤ 4611686018427387904) (hl : m ≤ 4611686018427387904) :
    f67 L N (upM k m) k = some (k + 2 * (m : Int)) := by
  show f67.b L N _ (upM k m) k = _
  unfold f67.b f67.b'
  have key : ∀ (n i : Nat), i ≤ m → m - i < n →
      f67.l0 L N (fun z3 => f67.p0_e0 L N some z3) (fun z4 z5 => f67.p0_r L N some z4 z5) n (upM k m) (k + 2 * (i : Int)) (i : Int) = some (k + 2 * (m : Int)) := by
    intro n
    induction n with
    | zero => intro i _ h; omega
    | succ n ih =>
      intro i hi hn
      show f67.s0 L N _ _ (f67.l0 L N _ _ n) (upM k m) (k + 2 * (i : Int)) (i : Int) = _
      unfold f67.s0 f67.s0'
      by_cases hlt : i < (upM k m).length
      · have hm := upM_len k m
        have e1 : wi (k + 2 * (i : Int) + 1) = k + 2 * (i : Int) + 1 := wi_id (by omega) (by omega)
        have e2 : wi (k + 2 * (i : Int) + 1 + 1) = k + 2 * ((i + 1 : Nat) : Int) := by rw [wi_id (by omega) (by omega)]; omega
        simp only [lt_cast hlt, le0, cond_true, Bool.and_true, Int.toNat_natCast, at_lt hlt, upM_at k m hlt, bne_self_eq_false, cond_false, e1, e2]
        rw [wi_nat (by omega)]
        exact ih (i + 1) (by omega) (by omega)
      · simp only [ge_cast hlt, cond_false]
        rw [upM_len] at hlt
        have hi' : i = m := by omega
        subst hi'
        rfl
  have := key L 0 (by omega) (by omega)
  rw [show k + 2 * ((0 : Nat) : Int) = k by omega] at this
  exact this
def Mk : Int → List (List Move) → Int → Prop
  | k, [], j => j = k
  | k, r :: rs, j => r = upM k r.length ∧ Mk (k + 2 * (r.length : Int)) rs j
theorem Mk.le : ∀ {k j : Int} {rs : List (List Move)}, Mk k rs j → k ≤ j
  | k, j, [], h => by have h : j = k := h; omega
  | k, j, r :: rs, h => by have := Mk.le h.2; omega
theorem Mk.snoc : ∀ {k j : Int} {rs : List (List Move)} (n : Nat), Mk k rs j → Mk k (rs ++ [upM j n]) (j + 2 * (n : Int))
  | k, j, [], n, h => by
    have h : j = k := h
    subst h
    exact ⟨by rw [upM_len], by rw [upM_len]; exact rfl⟩
  | k, j, r :: rs, n, h => ⟨h.1, Mk.snoc n h.2⟩
theorem markMoveSS_eq (L N : Nat) (xs : List (List Move)) (k : Int) (hL : xs.length < L) (hr : ∀ r ∈ xs, r.length < L ∧ r.length ≤ 1048576) (hl : xs.length ≤ 1048576) (h0 : 0 ≤ k) (hk : k ≤ 1048576) :
    ∃ (j : Int) (ys : List (List Move)), f37 L N xs k = some (j, ys) ∧ Mk k ys j ∧ 0 ≤ j ∧ j ≤ k + 2097152 * (xs.length : Int) ∧ ys.length = xs.length ∧ ∀ r ∈ ys, r.length < L ∧ r.length ≤ 1048576 := by
  show ∃ j ys, f37.b L N xs.length _ xs k = _ ∧ _
  unfold f37.b f37.b'
  have key : ∀ (n i : Nat) (s : Int) (ys : List (List Move)), ys.length = xs.length → i ≤ xs.length → xs.length - i < n → (∀ r ∈ ys, r.length < L ∧ r.length ≤ 1048576) → 0 ≤ s → s ≤ k + 2097152 * (i : Int) → Mk k (ys.take i) s →
      ∃ (j : Int) (zs : List (List Move)), f37.l0 L N xs.length (fun z3 z4 => f37.p0_e0 L N xs.length (fun a0 a1 => some (a0, a1)) z3 z4) n s (i : Int) ys = some (j, zs) ∧ Mk k zs j ∧ 0 ≤ j ∧ j ≤ k + 2097152 * (xs.length : Int) ∧ zs.length = xs.length ∧ ∀ r ∈ zs, r.length < L ∧ r.length ≤ 1048576 := by
    intro n
    induction n with
    | zero => intro i s ys _ _ h; omega
    | succ n ih =>
      intro i s ys hy hi hn hro hs0 hs1 hmk
      show ∃ j zs, f37.s0 L N xs.length _ (f37.l0 L N xs.length _ n) s (i : Int) ys = _ ∧ _
      unfold f37.s0 f37.s0'
      by_cases hlt : i < ys.length
      · have hri := hro ys[i] (List.getElem_mem hlt)
        have hz := markMoveS_eq L N ys[i] s hri.1 hs0 (by omega) (by omega)
        simp only [lt_cast hlt, le0, cond_true, Bool.and_true, Int.toNat_natCast, at_lt hlt, hz, Option.bind_some]
        rw [wi_nat (by omega)]
        refine ih (i + 1) _ _ (by simp [hy]) (by omega) (by omega) (fun r hr => ?_) (by omega) (by omega) ?_
        · rcases List.mem_or_eq_of_mem_set hr with q | q
          · exact hro r q
          · rw [q, upM_len]; exact hri
        · rw [List.take_add_one, List.getElem?_set_self hlt, List.take_set_of_le (Nat.le_refl i)]
          exact hmk.snoc _
      · simp only [ge_cast hlt, cond_false]
        have hi' : i = xs.length := by omega
        subst hi'
        unfold f37.p0_e0 f37.p0_e0'
        rw [hy, Nat.beq_refl, cond_true]
        rw [List.take_of_length_le (by omega)] at hmk
        exact ⟨_, _, rfl, hmk, hs0, hs1, hy, hro⟩
  exact key L 0 k xs rfl (by omega) (by omega) hr h0 (by omega) rfl
theorem heldMoveSS_ok (L N : Nat) (ys : List (List Move)) (k j : Int) (hL : ys.length < L) (hr : ∀ r ∈ ys, r.length < L ∧ r.length ≤ 1048576) (hl : ys.length ≤ 1048576) (h0 : 0 ≤ k) (hj : j ≤ 4611686018427387904) (hm : Mk k ys j) :
    f38 L N ys k = some j := by
  show f38.b L N _ ys k = _
  unfold f38.b f38.b'
  have key : ∀ (n i : Nat) (s : Int), i ≤ ys.length → ys.length - i < n → 0 ≤ s → Mk s (ys.drop i) j →
      f38.l0 L N (fun z3 => f38.p0_e0 L N some z3) (fun z4 z5 => f38.p0_r L N some z4 z5) n ys s (i : Int) = some j := by
    intro n
    induction n with
    | zero => intro i s _ h; omega
    | succ n ih =>
      intro i s hi hn hs hmk
      show f38.s0 L N _ _ (f38.l0 L N _ _ n) ys s (i : Int) = _
      unfold f38.s0 f38.s0'
      by_cases hlt : i < ys.length
      · rw [List.drop_eq_getElem_cons hlt] at hmk
        obtain ⟨e, hmk⟩ := hmk
        have hri := hr ys[i] (List.getElem_mem hlt)
        have hle := hmk.le
        have hz := heldMoveS_ok L N s ys[i].length hri.1 hs (by omega) (by omega)
        rw [← e] at hz
        simp only [lt_cast hlt, le0, cond_true, Bool.and_true, Int.toNat_natCast, at_lt hlt, hz, Option.bind_some]
        rw [show decide (s + 2 * (ys[i].length : Int) < 0) = false from decide_eq_false (by omega), cond_false, wi_nat (by omega)]
        exact ih (i + 1) _ (by omega) (by omega) (by omega) hmk
      · simp only [ge_cast hlt, cond_false]
        rw [List.drop_eq_nil_of_le (by omega)] at hmk
        have hmk : j = s := hmk
        subst hmk
        rfl
  exact key L 0 k (by omega) (by omega) h0 hm
theorem heldGraph_ok (L N : Nat) (ys : List (List Move)) (k j : Int) (hL : ys.length < L) (hr : ∀ r ∈ ys, r.length < L ∧ r.length ≤ 1048576) (hl : ys.length ≤ 1048576) (h0 : 0 ≤ k) (hj : j ≤ 4611686018427387904) (hm : Mk k ys j) :
    f13 L N (Graph.mk ys) k = some j := by
  show f13.b' L N some (Graph.mk ys) k = _
  unfold f13.b'
  have h := heldMoveSS_ok L N ys k j hL hr hl h0 hj hm
  have hle := hm.le
  simp only [h, Option.bind_some]
  rw [show decide (j < 0) = false from decide_eq_false (by omega), cond_false]
end Go.Proofs.YtffkhhblppfbfaaDoor.Ev
namespace Go.Proofs.YtffkhhblppfbfaaDoor.Ev
open Go
set_option linter.unusedVariables false
set_option linter.unusedSimpArgs false
def Rises (l : List Int) : Prop := l.Pairwise (· < ·)
theorem rises_ext : ∀ {a b : List Int}, Rises a → Rises b → (∀ x, x ∈ a ↔ x ∈ b) → a = b
  | [], [], _, _, _ => rfl
  | [], y :: b, _, _, h => absurd ((h y).2 (.head _)) (by simp)
  | x :: a, [], _, _, h => absurd ((h x).1 (.head _)) (by simp)
  | x :: a, y :: b, ha, hb, h => by
    have ha' := List.pairwise_cons.1 ha
    have hb' := List.pairwise_cons.1 hb
    have hxy : x = y := by
      rcases List.mem_cons.1 ((h x).1 (.head _)) with e | e
      · exact e
      · rcases List.mem_cons.1 ((h y).2 (.head _)) with e' | e'
        · exact e'.symm
        · have := hb'.1 x e; have := ha'.1 y e'; omega
    subst hxy
    refine congrArg (x :: ·) (rises_ext ha'.2 hb'.2 fun z => ?_)
    have := h z
    simp only [List.mem_cons] at this
    constructor
    · intro hz
      rcases this.1 (.inr hz) with e | e
      · have := ha'.1 z hz; omega
      · exact e
    · intro hz
      rcases this.2 (.inr hz) with e | e
      · have := hb'.1 z hz; omega
      · exact e
def Tr (l : List Bool) (t : Nat) : Prop := l.getD t false = true
theorem Tr_lt {l : List Bool} {t : Nat} (h : Tr l t) : t < l.length := by
  unfold Tr at h
  rw [List.getD_eq_getElem?_getD] at h
  by_cases hl : t < l.length
  · exact hl
  · rw [List.getElem?_eq_none (by omega)] at h; cases h
theorem Tr_set {l : List Bool} {j t : Nat} (hj : j < l.length) : Tr (l.set j true) t ↔ t = j ∨ Tr l t := by
  unfold Tr
  rw [List.getD_eq_getElem?_getD, List.getD_eq_getElem?_getD]
  by_cases h : t = j
  · subst h; rw [List.getElem?_set_self hj]; simp
  · rw [List.getElem?_set_ne (Ne.symm h)]; simp [h]
theorem Tr_replicate (n t : Nat) : ¬ Tr (List.replicate n false) t := by
  unfold Tr
  rw [List.getD_eq_getElem?_getD, List.getElem?_replicate]
  split <;> simp
def cnt : List Bool → Nat
  | [] => 0
  | b :: r => (bif b then 1 else 0) + cnt r
theorem cnt_le : ∀ l : List Bool, cnt l ≤ l.length
  | [] => Nat.le_refl _
  | b :: r => by have := cnt_le r; cases b <;> simp [cnt] <;> omega
theorem cnt_set : ∀ (l : List Bool) (j : Nat), j < l.length → l.getD j false = false → cnt (l.set j true) = cnt l + 1
  | b :: r, 0, _, h => by
    have hb : b = false := h
    subst hb
    simp [cnt]; omega
  | b :: r, j + 1, hj, h => by
    have := cnt_set r j (by simpa using hj) (by simpa using h)
    simp only [List.set_cons_succ, cnt, this]; omega
theorem cnt_replicate (n : Nat) : cnt (List.replicate n false) = 0 := by
  induction n with
  | zero => rfl
  | succ n ih => rw [List.replicate_succ]; simp [cnt, ih]
inductive Slip (ms : List (List Move)) (X : Nat → Prop) : Nat → Prop
  | base (t : Nat) (h : X t) : Slip ms X t
  | step (s t : Nat) (hs : Slip ms X s) (hl : s < ms.length) (k : Nat) (hk : k < (ms[s]).length) (ha : (ms[s])[k].act = 0) (ht : (ms[s])[k].to = (t : Int)) : Slip ms X t
theorem Slip.mono {ms : List (List Move)} {X Y : Nat → Prop} (h : ∀ t, X t → Y t) {t : Nat} (r : Slip ms X t) : Slip ms Y t := by
  induction r with
  | base t hx => exact .base t (h t hx)
  | step s t _ hl k hk ha ht ih => exact .step s t ih hl k hk ha ht
theorem Slip.iff {ms : List (List Move)} {X Y : Nat → Prop} (h : ∀ t, X t ↔ Y t) (t : Nat) : Slip ms X t ↔ Slip ms Y t := ⟨fun r => r.mono fun t hx => (h t).1 hx, fun r => r.mono fun t hx => (h t).2 hx⟩
def Leads (ms : List (List Move)) : Prop := ms.length ≤ 60 ∧ ∀ (i : Nat) (hi : i < ms.length), (ms[i]).length ≤ 1048576 ∧ ∀ (k : Nat) (hk : k < (ms[i]).length), 0 ≤ (ms[i])[k].to ∧ (ms[i])[k].to < (ms.length : Int)
theorem leads_of {g : Graph} (h : graphOk g = true) (hs : g.moves.length + gsize g.moves ≤ 1048576) : Leads g.moves := by
  obtain ⟨h1, h2, h3⟩ := graphOk_mv h
  refine ⟨h2, fun i hi => ⟨?_, fun k hk => ?_⟩⟩
  · have := gsize_row _ (List.getElem_mem hi); omega
  · have := h3 i hi k hk; exact ⟨this.2.2.1, this.2.2.2⟩
theorem Leads.nat {ms : List (List Move)} (h : Leads ms) {i : Nat} (hi : i < ms.length) {k : Nat} (hk : k < (ms[i]).length) : ∃ t : Nat, (ms[i])[k].to = (t : Int) ∧ t < ms.length := by
  obtain ⟨h1, h2⟩ := (h.2 i hi).2 k hk
  obtain ⟨t, ht⟩ := Int.eq_ofNat_of_zero_le h1
  exact ⟨t, ht, by omega⟩
def ClosedAt (ms : List (List Move)) (out : List Bool) (s n : Nat) : Prop := ∀ (hs : s < ms.length) (k : Nat) (hk : k < (ms[s]).length), k < n → Tr out s → (ms[s])[k].act = 0 → ∀ t : Nat, (ms[s])[k].to = (t : Int) → Tr out t
theorem slip2_ok (L N : Nat) (ms : List (List Move)) (x : List Bool) (hm : Leads ms) (hx : x.length = ms.length) (hL : 1048576 < L) :
    ∃ out, f45 L N ⟨ms⟩ x = some out ∧ out.length = ms.length ∧ ∀ t, Tr out t ↔ Slip ms (Tr x) t := by
  have hlim := lim_eq
  have hn := hm.1
  show ∃ out, f45.b L N some ⟨ms⟩ x = some out ∧ _
  unfold f45.b f45.b'
  have hle : decide (([] : List Bool).length + x.length ≤ lim) = true := dt (by simp only [List.length_nil]; omega)
  simp only [hle, cond_true, List.nil_append]
  have round : ∀ (m : Nat) (out0 : List Bool), out0.length = ms.length → (∀ t, Tr out0 t → Slip ms (Tr x) t) →
      ∃ st : Bool × List Bool, f45.l1 L N (fun z8 z9 z10 => f45.p1_e2 L N (fun z3 => f45.p0_e0 L N some z3) (f45.l0 L N (fun z3 => f45.p0_e0 L N some z3) m) z8 z9 z10) L false (0 : Int) ms out0 = f45.l0 L N (fun z3 => f45.p0_e0 L N some z3) m st.1 ms st.2 ∧
        st.2.length = ms.length ∧ (∀ t, Tr st.2 t → Slip ms (Tr x) t) ∧ (∀ t, Tr out0 t → Tr st.2 t) ∧ cnt out0 + (bif st.1 then 1 else 0) ≤ cnt st.2 ∧ (st.1 = false → st.2 = out0 ∧ ∀ s, ClosedAt ms st.2 s 1048577) := by
    intro m out0 h0 hs0
    obtain ⟨st, h1, h2, h3, h4, h5, h6⟩ := inv_loop (l := fun n i st => f45.l1 L N (fun z8 z9 z10 => f45.p1_e2 L N (fun z3 => f45.p0_e0 L N some z3) (f45.l0 L N (fun z3 => f45.p0_e0 L N some z3) m) z8 z9 z10) n st.1 i ms st.2) (len := ms.length)
      (K := fun st : Bool × List Bool => f45.l0 L N (fun z3 => f45.p0_e0 L N some z3) m st.1 ms st.2)
      (fun i st => st.2.length = ms.length ∧ (∀ t, Tr st.2 t → Slip ms (Tr x) t) ∧ (∀ t, Tr out0 t → Tr st.2 t) ∧ cnt out0 + (bif st.1 then 1 else 0) ≤ cnt st.2 ∧ (st.1 = false → st.2 = out0 ∧ ∀ s, s < i → ClosedAt ms st.2 s 1048577))
      (fun n i st hi ⟨p1, p2, p3, p4, p5⟩ => by
        obtain ⟨st', q1, q2, q3, q4, q5, q6⟩ := inv_loop (l := fun n' k st => f45.l2 L N (fun z16 z17 z18 z19 => f45.p2_e4 L N (fun z8 z9 z10 => f45.p1_e2 L N (fun z3 => f45.p0_e0 L N some z3) (f45.l0 L N (fun z3 => f45.p0_e0 L N some z3) m) z8 z9 z10) (f45.l1 L N (fun z8 z9 z10 => f45.p1_e2 L N (fun z3 => f45.p0_e0 L N some z3) (f45.l0 L N (fun z3 => f45.p0_e0 L N some z3) m) z8 z9 z10) n) z16 z17 z18 z19) n' st.1 (i : Int) k ms st.2) (len := (ms[i]).length)
          (K := fun st : Bool × List Bool => f45.l1 L N (fun z8 z9 z10 => f45.p1_e2 L N (fun z3 => f45.p0_e0 L N some z3) (f45.l0 L N (fun z3 => f45.p0_e0 L N some z3) m) z8 z9 z10) n st.1 ((i + 1 : Nat) : Int) ms st.2)
          (fun k st => st.2.length = ms.length ∧ (∀ t, Tr st.2 t → Slip ms (Tr x) t) ∧ (∀ t, Tr out0 t → Tr st.2 t) ∧ cnt out0 + (bif st.1 then 1 else 0) ≤ cnt st.2 ∧ (st.1 = false → st.2 = out0 ∧ (∀ s, s < i → ClosedAt ms st.2 s 1048577) ∧ ClosedAt ms st.2 i k))
          (fun n' k st hk ⟨r1, r2, r3, r4, r5⟩ => by
            show ∃ s', f45.s2 L N _ (f45.l2 L N _ n') st.1 (i : Int) k ms st.2 = _ ∧ _
            unfold f45.s2 f45.s2'
            obtain ⟨t, ht, htl⟩ := hm.nat hi hk
            have hrow := (hm.2 i hi).1
            simp only [le0, lt_cast hi, lt_cast hk, lt_cast (show i < st.2.length by omega), Bool.and_true, Bool.true_and, cond_true, Int.toNat_natCast, at_lt hi, at_lt hk, ht, lt_cast (show t < st.2.length by omega), atD]
            unfold f45.j0'
            simp only [le0, lt_cast (show t < st.2.length by omega), Bool.and_true, cond_true, Int.toNat_natCast, wi_nat (show k < 9223372036854775807 by omega)]
            have stay : ¬ (Tr st.2 i ∧ (ms[i])[k].act = 0 ∧ ¬ Tr st.2 t) → ∃ s' : Bool × List Bool, f45.l2 L N (fun z16 z17 z18 z19 => f45.p2_e4 L N (fun z8 z9 z10 => f45.p1_e2 L N (fun z3 => f45.p0_e0 L N some z3) (f45.l0 L N (fun z3 => f45.p0_e0 L N some z3) m) z8 z9 z10) (f45.l1 L N (fun z8 z9 z10 => f45.p1_e2 L N (fun z3 => f45.p0_e0 L N some z3) (f45.l0 L N (fun z3 => f45.p0_e0 L N some z3) m) z8 z9 z10) n) z16 z17 z18 z19) n' st.1 (i : Int) ((k + 1 : Nat) : Int) ms st.2 = f45.l2 L N (fun z16 z17 z18 z19 => f45.p2_e4 L N (fun z8 z9 z10 => f45.p1_e2 L N (fun z3 => f45.p0_e0 L N some z3) (f45.l0 L N (fun z3 => f45.p0_e0 L N some z3) m) z8 z9 z10) (f45.l1 L N (fun z8 z9 z10 => f45.p1_e2 L N (fun z3 => f45.p0_e0 L N some z3) (f45.l0 L N (fun z3 => f45.p0_e0 L N some z3) m) z8 z9 z10) n) z16 z17 z18 z19) n' s'.1 (i : Int) ((k + 1 : Nat) : Int) ms s'.2 ∧
                (s'.2.length = ms.length ∧ (∀ t, Tr s'.2 t → Slip ms (Tr x) t) ∧ (∀ t, Tr out0 t → Tr s'.2 t) ∧ cnt out0 + (bif s'.1 then 1 else 0) ≤ cnt s'.2 ∧ (s'.1 = false → s'.2 = out0 ∧ (∀ s, s < i → ClosedAt ms s'.2 s 1048577) ∧ ClosedAt ms s'.2 i (k + 1))) := by
              intro hno
              refine ⟨st, rfl, r1, r2, r3, r4, fun hst => ?_⟩
              obtain ⟨u1, u2, u3⟩ := r5 hst
              refine ⟨u1, u2, fun hs k' hk' hlt htr hact t' ht' => ?_⟩
              by_cases hkk : k' = k
              · subst hkk
                rw [ht] at ht'
                obtain rfl : t = t' := by omega
                by_cases hT : Tr st.2 t
                · exact hT
                · exact absurd ⟨htr, hact, hT⟩ hno
              · exact u3 hs k' hk' (by omega) htr hact t' ht'
            cases hi2 : st.2.getD i false
            · simp only [cond_false]
              exact stay fun h => by have := h.1; unfold Tr at this; rw [hi2] at this; cases this
            · simp only [cond_true]
              by_cases ha : (ms[i])[k].act = 0
              · have hb : ((ms[i])[k].act == 0) = true := by simpa using ha
                rw [hb]
                simp only [cond_true]
                cases ht2 : st.2.getD t false
                · simp only [Bool.not_false, cond_true]
                  have hTi : Tr st.2 i := hi2
                  refine ⟨(true, st.2.set t true), rfl, by simp [r1], fun t' ht' => ?_, fun t' ht' => ?_, ?_, fun h => by cases h⟩
                  · rcases (Tr_set (by omega)).1 ht' with rfl | h
                    · exact .step i t' (r2 i hTi) hi k hk ha ht
                    · exact r2 t' h
                  · exact (Tr_set (by omega)).2 (.inr (r3 t' ht'))
                  · show cnt out0 + 1 ≤ cnt (st.2.set t true)
                    rw [cnt_set _ _ (by omega) ht2]
                    cases h9 : st.1 <;> rw [h9] at r4 <;> simp at r4 <;> omega
                · simp only [Bool.not_true, cond_false]
                  exact stay fun h => h.2.2 ht2
              · have hb : ((ms[i])[k].act == 0) = false := by simpa using ha
                rw [hb]
                simp only [cond_false]
                exact stay fun h => ha h.2.1)
          (fun n' st _ => by
            show f45.s2 L N _ (f45.l2 L N _ n') st.1 (i : Int) (ms[i]).length ms st.2 = _
            unfold f45.s2 f45.s2'
            simp only [le0, lt_cast hi, Bool.and_true, cond_true, Int.toNat_natCast, at_lt hi, ge_cast (Nat.lt_irrefl _), cond_false]
            show f45.l1 L N _ n st.1 (wi ((i : Int) + 1)) ms st.2 = _
            rw [wi_nat (by omega)])
          L 0 st (by have := (hm.2 i hi).1; omega) (by omega) ⟨p1, p2, p3, p4, fun h => ⟨(p5 h).1, (p5 h).2, fun _ _ _ h' => by omega⟩⟩
        refine ⟨st', ?_, q2, q3, q4, q5, fun h => ⟨(q6 h).1, fun s hs => ?_⟩⟩
        · show f45.s1 L N _ (f45.l1 L N _ n) st.1 i ms st.2 = _
          unfold f45.s1 f45.s1'
          simp only [lt_cast (show i < st.2.length by omega), cond_true]
          exact q1
        · by_cases hsi : s = i
          · subst hsi
            intro hs' k hk hlt
            exact (q6 h).2.2 hs' k hk hk
          · exact (q6 h).2.1 s (by omega))
      (fun n st hP => by
        show f45.s1 L N _ (f45.l1 L N _ n) st.1 ms.length ms st.2 = _
        unfold f45.s1 f45.s1'
        rw [hP.1]
        simp only [ge_cast (Nat.lt_irrefl _), cond_false]
        rfl)
      L 0 (false, out0) (by omega) (by omega) ⟨h0, hs0, fun t h => h, by simp, fun _ => ⟨rfl, fun s h => by omega⟩⟩
    exact ⟨st, h1, h2, h3, h4, h5, fun h => ⟨(h6 h).1, fun s hs k hk hlt => (h6 h).2 s hs hs k hk hlt⟩⟩
  have all : ∀ (m : Nat) (out0 : List Bool), out0.length = ms.length → ms.length + 1 - cnt out0 < m → (∀ t, Tr out0 t → Slip ms (Tr x) t) → (∀ t, Tr x t → Tr out0 t) →
      ∃ out, f45.l0 L N (fun z3 => f45.p0_e0 L N some z3) m true ms out0 = some out ∧ out.length = ms.length ∧ ∀ t, Tr out t ↔ Slip ms (Tr x) t := by
    intro m
    induction m with
    | zero => intro out0 _ h; omega
    | succ m ih =>
      intro out0 h0 hc hs0 hb0
      have hcl := cnt_le out0
      obtain ⟨st, h1, h2, h3, h4, h5, h6⟩ := round m out0 h0 hs0
      have hcl2 := cnt_le st.2
      show ∃ out, f45.s0 L N _ (f45.l0 L N _ m) true ms out0 = some out ∧ _
      unfold f45.s0 f45.s0'
      simp only [cond_true]
      rw [h1]
      cases hst : st.1
      · obtain ⟨e1, e2⟩ := h6 hst
        obtain ⟨m', rfl⟩ : ∃ m', m = m' + 1 := ⟨m - 1, by omega⟩
        refine ⟨st.2, rfl, h2, fun t => ⟨h3 t, fun r => ?_⟩⟩
        induction r with
        | base t hx => exact h4 t (hb0 t hx)
        | step s t _ hl k hk ha ht ihr => exact e2 s hl k hk (by have := (hm.2 s hl).1; omega) ihr ha t ht
      · rw [hst] at h5
        simp only [cond_true] at h5
        exact ih st.2 h2 (by omega) h3 fun t hx => h4 t (hb0 t hx)
  exact all L x hx (by omega) (fun t h => .base t h) fun t h => h
end Go.Proofs.YtffkhhblppfbfaaDoor.Ev
namespace Go.Proofs.YtffkhhblppfbfaaDoor.Ev
open Go
set_option linter.unusedVariables false
set_option linter.unusedSimpArgs false
def QOk (ms : List (List Move)) (seen : List Bool) (q : List Int) : Prop := seen.length = ms.length ∧ (∀ v ∈ q, ∃ t : Nat, v = (t : Int) ∧ Tr seen t) ∧ (∀ t : Nat, Tr seen t → (t : Int) ∈ q) ∧ q.length = cnt seen ∧ q.Nodup
theorem QOk.add {ms : List (List Move)} {seen : List Bool} {q : List Int} (h : QOk ms seen q) {t : Nat} (ht : t < ms.length) (hf : seen.getD t false = false) : QOk ms (seen.set t true) (q ++ [(t : Int)]) := by
  obtain ⟨h1, h2, h3, h4, h5⟩ := h
  refine ⟨by simp [h1], fun v hv => ?_, fun t' ht' => ?_, ?_, ?_⟩
  · rcases List.mem_append.1 hv with hv | hv
    · obtain ⟨s, rfl, hs⟩ := h2 v hv
      exact ⟨s, rfl, (Tr_set (by omega)).2 (.inr hs)⟩
    · obtain rfl := List.mem_singleton.1 hv
      exact ⟨t, rfl, (Tr_set (by omega)).2 (.inl rfl)⟩
  · rcases (Tr_set (by omega)).1 ht' with rfl | h
    · exact List.mem_append_right _ (List.mem_singleton.2 rfl)
    · exact List.mem_append_left _ (h3 t' h)
  · rw [List.length_append, cnt_set _ _ (by omega) hf, h4]; rfl
  · refine List.nodup_append.2 ⟨h5, by simp, fun a ha b hb e => ?_⟩
    obtain rfl := List.mem_singleton.1 hb
    obtain ⟨s, hs, hT⟩ := h2 a ha
    obtain rfl : s = t := by omega
    unfold Tr at hT
    rw [hf] at hT; cases hT
theorem QOk.len {ms : List (List Move)} {seen : List Bool} {q : List Int} (h : QOk ms seen q) : q.length ≤ ms.length := by
  have := cnt_le seen
  obtain ⟨h1, -, -, h4, -⟩ := h
  omega
theorem sortI_rises {q : List Int} (h : q.Nodup) : Rises (sortI q) := by
  have h1 : (sortI q).Pairwise fun a b => decide (a ≤ b) = true := List.pairwise_mergeSort (fun a b c hab hbc => by simp only [decide_eq_true_eq] at *; omega) (fun a b => by simp only [Bool.or_eq_true, decide_eq_true_eq]; omega) q
  have h2 : (sortI q).Nodup := (List.mergeSort_perm q _).nodup_iff.2 h
  exact (h1.and h2).imp fun {a b} hab => by have := of_decide_eq_true hab.1; have := hab.2; omega
theorem slip1_ok (L N : Nat) (ms : List (List Move)) (list : List Int) (hm : Leads ms) (hl : ∀ v ∈ list, 0 ≤ v ∧ v < (ms.length : Int)) (hLl : list.length < L) (hll : list.length ≤ lim) (hL : 1048576 < L) :
    ∃ q, f64 L N ⟨ms⟩ list = some q ∧ q.length ≤ ms.length ∧ (∀ v ∈ q, 0 ≤ v ∧ v < (ms.length : Int)) ∧ (∀ t : Nat, (t : Int) ∈ q ↔ Slip ms (fun s => (s : Int) ∈ list) t) ∧ Rises q := by
  have hlim := lim_eq
  have hn := hm.1
  show ∃ q, f64.b L N some ⟨ms⟩ list = some q ∧ _
  unfold f64.b f64.b'
  have h0 : (decide ((0 : Int) ≤ (ms.length : Int)) && decide ((ms.length : Int) ≤ (lim : Int))) = true := by rw [le0, dt (by omega)]; rfl
  simp only [h0, cond_true]
  have work : ∀ (m k : Nat) (seen : List Bool) (q : List Int), k ≤ q.length → ms.length + 1 - k < m → QOk ms seen q → (∀ v ∈ q, ∃ t : Nat, v = (t : Int) ∧ Slip ms (fun s => (s : Int) ∈ list) t) → (∀ v ∈ list, v ∈ q) →
      (∀ (j : Nat) (hj : j < q.length), j < k → ∀ s : Nat, q[j] = (s : Int) → ∀ (hs : s < ms.length) (i : Nat) (hi : i < (ms[s]).length), (ms[s])[i].act = 0 → ∀ t : Nat, (ms[s])[i].to = (t : Int) → Tr seen t) →
      ∃ r, f64.l1 L N (fun z19 => f64.p1_e2 L N some z19) m (k : Int) ms seen q = some r ∧ r.length ≤ ms.length ∧ (∀ v ∈ r, 0 ≤ v ∧ v < (ms.length : Int)) ∧ (∀ t : Nat, (t : Int) ∈ r ↔ Slip ms (fun s => (s : Int) ∈ list) t) ∧ Rises r := by
    intro m
    induction m with
    | zero => intro k seen q _ h; omega
    | succ m ih =>
      intro k seen q hk hmk hq hsl hba hpr
      have hql := hq.len
      show ∃ r, f64.s1 L N _ (f64.l1 L N _ m) (k : Int) ms seen q = some r ∧ _
      unfold f64.s1 f64.s1'
      by_cases hlt : k < q.length
      · obtain ⟨s, hs, hTs⟩ := hq.2.1 _ (List.getElem_mem hlt)
        have hsn : s < ms.length := by have := Tr_lt hTs; rw [hq.1] at this; exact this
        have hrow := (hm.2 s hsn).1
        simp only [lt_cast hlt, le0, Bool.and_true, cond_true, Int.toNat_natCast, at_lt hlt, hs, lt_cast hsn, at_lt hsn]
        obtain ⟨t0, hst0, hslip0⟩ := hsl _ (List.getElem_mem hlt)
        obtain rfl : s = t0 := by rw [hs] at hst0; omega
        obtain ⟨st, g1, g2, g3, g4, g5, g6⟩ := inv_loop (l := fun n' i st => f64.l2 L N (fun z27 z28 z29 z30 => f64.p2_e4 L N (fun z19 => f64.p1_e2 L N some z19) (f64.l1 L N (fun z19 => f64.p1_e2 L N some z19) m) z27 z28 z29 z30) n' (k : Int) ms[s] ((ms[s]).length : Int) i ms st.1 st.2) (len := (ms[s]).length)
          (K := fun st : List Bool × List Int => f64.l1 L N (fun z19 => f64.p1_e2 L N some z19) m ((k + 1 : Nat) : Int) ms st.1 st.2)
          (fun i st => QOk ms st.1 st.2 ∧ (∀ v ∈ st.2, ∃ t : Nat, v = (t : Int) ∧ Slip ms (fun s => (s : Int) ∈ list) t) ∧ (∀ j : Nat, j < q.length → st.2[j]? = q[j]?) ∧ (∀ t, Tr seen t → Tr st.1 t) ∧ ∀ (i' : Nat) (hi' : i' < (ms[s]).length), i' < i → (ms[s])[i'].act = 0 → ∀ t : Nat, (ms[s])[i'].to = (t : Int) → Tr st.1 t)
          (fun n' i st hi ⟨r1, r2, r3, r4, r5⟩ => by
            show ∃ s', f64.s2 L N _ (f64.l2 L N _ n') (k : Int) ms[s] ((ms[s]).length : Int) i ms st.1 st.2 = _ ∧ _
            unfold f64.s2 f64.s2'
            obtain ⟨t, ht, htl⟩ := hm.nat hsn hi
            have hsl1 := r1.1
            simp only [le0, lt_cast hi, Bool.and_true, Bool.true_and, cond_true, Int.toNat_natCast, at_lt hi, ht, lt_cast (show t < st.1.length by omega), atD]
            unfold f64.j0'
            simp only [le0, lt_cast (show t < st.1.length by omega), Bool.and_true, cond_true, Int.toNat_natCast, wi_nat (show i < 9223372036854775807 by omega)]
            have stay : ¬ ((ms[s])[i].act = 0 ∧ ¬ Tr st.1 t) → (QOk ms st.1 st.2 ∧ (∀ v ∈ st.2, ∃ t : Nat, v = (t : Int) ∧ Slip ms (fun s => (s : Int) ∈ list) t) ∧ (∀ j : Nat, j < q.length → st.2[j]? = q[j]?) ∧ (∀ t, Tr seen t → Tr st.1 t) ∧ ∀ (i' : Nat) (hi' : i' < (ms[s]).length), i' < i + 1 → (ms[s])[i'].act = 0 → ∀ t : Nat, (ms[s])[i'].to = (t : Int) → Tr st.1 t) := by
              intro hno
              refine ⟨r1, r2, r3, r4, fun i' hi' hlt' ha' t' ht' => ?_⟩
              by_cases he : i' = i
              · subst he
                rw [ht] at ht'
                obtain rfl : t = t' := by omega
                by_cases hT : Tr st.1 t
                · exact hT
                · exact absurd ⟨ha', hT⟩ hno
              · exact r5 i' hi' (by omega) ha' t' ht'
            by_cases ha : (ms[s])[i].act = 0
            · have hb : ((ms[s])[i].act == 0) = true := by simpa using ha
              rw [hb]
              simp only [cond_true]
              cases ht2 : st.1.getD t false
              · have hqq := r1.len
                have hle : decide (st.2.length + ([(t : Int)] : List Int).length ≤ lim) = true := dt (by simp only [List.length_cons, List.length_nil]; omega)
                simp only [Bool.not_false, cond_true, hle]
                refine ⟨(st.1.set t true, st.2 ++ [(t : Int)]), rfl, r1.add htl ht2, fun v hv => ?_, fun j hj => ?_, fun t' ht' => (Tr_set (by omega)).2 (.inr (r4 t' ht')), fun i' hi' hlt' ha' t' ht' => ?_⟩
                · rcases List.mem_append.1 hv with hv | hv
                  · exact r2 v hv
                  · obtain rfl := List.mem_singleton.1 hv
                    exact ⟨t, rfl, .step s t hslip0 hsn i hi ha ht⟩
                · have hjl : j < st.2.length := by
                    have := r3 j hj
                    rw [List.getElem?_eq_getElem hj] at this
                    exact (List.getElem?_eq_some_iff.1 this).1
                  show (st.2 ++ [(t : Int)])[j]? = q[j]?
                  rw [List.getElem?_append_left hjl]; exact r3 j hj
                · by_cases he : i' = i
                  · subst he
                    rw [ht] at ht'
                    obtain rfl : t = t' := by omega
                    exact (Tr_set (by omega)).2 (.inl rfl)
                  · exact (Tr_set (by omega)).2 (.inr (r5 i' hi' (by omega) ha' t' ht'))
              · simp only [Bool.not_true, cond_false]
                exact ⟨st, rfl, stay fun h => h.2 ht2⟩
            · have hb : ((ms[s])[i].act == 0) = false := by simpa using ha
              rw [hb]
              simp only [cond_false]
              exact ⟨st, rfl, stay fun h => ha h.1⟩)
          (fun n' st _ => by
            show f64.s2 L N _ (f64.l2 L N _ n') (k : Int) ms[s] ((ms[s]).length : Int) (ms[s]).length ms st.1 st.2 = _
            unfold f64.s2 f64.s2'
            simp only [ge_cast (Nat.lt_irrefl _), cond_false]
            show f64.l1 L N _ m (wi ((k : Int) + 1)) ms st.1 st.2 = _
            rw [wi_nat (by omega)])
          L 0 (seen, q) (by omega) (by omega) ⟨hq, hsl, fun _ _ => rfl, fun _ h => h, fun _ _ h => by omega⟩
        have hlen : q.length ≤ st.2.length := by
          by_cases h0 : q.length = 0
          · omega
          · have := g4 (q.length - 1) (by omega)
            rw [List.getElem?_eq_getElem (show q.length - 1 < q.length by omega)] at this
            have := (List.getElem?_eq_some_iff.1 this).1
            omega
        refine (fun ⟨r, h1, h2⟩ => ⟨r, g1.trans h1, h2⟩ : (∃ r, _ = some r ∧ _) → ∃ r, _ = some r ∧ _) (ih (k + 1) st.1 st.2 (by omega) (by omega) g2 g3 (fun v hv => ?_) (fun j hj hjk s' hs' hsl' i hi ha t ht => ?_))
        · obtain ⟨j, hj, rfl⟩ := List.mem_iff_getElem.1 (hba v hv)
          have := g4 j hj
          rw [List.getElem?_eq_getElem hj] at this
          exact List.mem_of_getElem? this
        · by_cases hjk' : j = k
          · subst hjk'
            have := g4 j hlt
            rw [List.getElem?_eq_getElem hlt, List.getElem?_eq_getElem hj] at this
            have h9 : st.2[j] = q[j] := Option.some.inj this
            rw [hs', hs] at h9
            obtain rfl : s' = s := by omega
            exact g6 i hi hi ha t ht
          · have hjq : j < q.length := by omega
            have := g4 j hjq
            rw [List.getElem?_eq_getElem hjq, List.getElem?_eq_getElem hj] at this
            have h9 : st.2[j] = q[j] := Option.some.inj this
            exact g5 t (hpr j hjq (by omega) s' (by rw [← h9]; exact hs') hsl' i hi ha t ht)
      · have hkl : k = q.length := by omega
        subst hkl
        simp only [ge_cast (Nat.lt_irrefl _), cond_false]
        have hfs : fsort q = some () := by unfold fsort; rw [dt (by omega)]; rfl
        refine ⟨sortI q, ?_, by rw [sortI_length]; exact hql, fun v hv => ?_, fun t => ?_, sortI_rises hq.2.2.2.2⟩
        · show ((fsort q).bind fun _ => some (sortI q)) = _
          rw [hfs]; rfl
        · obtain ⟨t, rfl, hT⟩ := hq.2.1 v ((sortI_mem q v).1 hv)
          have := Tr_lt hT
          rw [hq.1] at this
          omega
        · rw [sortI_mem]
          constructor
          · intro h
            obtain ⟨t', h1, h2⟩ := hsl _ h
            obtain rfl : t = t' := by omega
            exact h2
          · intro r
            refine hq.2.2.1 t ?_
            induction r with
            | base t hx =>
              obtain ⟨t', h1, h2⟩ := hq.2.1 _ (hba _ hx)
              obtain rfl : t = t' := by omega
              exact h2
            | step s t _ hs i hi ha ht ihr =>
              obtain ⟨j, hj, hjs⟩ := List.mem_iff_getElem.1 (hq.2.2.1 s ihr)
              exact hpr j hj hj s hjs hs i hi ha t ht
  obtain ⟨st, g1, g2, g3, g4⟩ := inv_loop (l := fun n i st => f64.l0 L N (fun z6 z7 z8 => f64.p0_e0 L N some z6 z7 z8) n list (list.length : Int) i ms st.1 st.2) (len := list.length)
    (K := fun st : List Bool × List Int => f64.l1 L N (fun z19 => f64.p1_e2 L N some z19) L (0 : Int) ms st.1 st.2)
    (fun i st => QOk ms st.1 st.2 ∧ (∀ v ∈ st.2, v ∈ list) ∧ ∀ (j : Nat) (hj : j < list.length), j < i → list[j] ∈ st.2)
    (fun n i st hi ⟨r1, r2, r3⟩ => by
      show ∃ s', f64.s0 L N _ (f64.l0 L N _ n) list (list.length : Int) i ms st.1 st.2 = _ ∧ _
      unfold f64.s0 f64.s0'
      obtain ⟨h1, h2⟩ := hl _ (List.getElem_mem hi)
      obtain ⟨t, ht⟩ := Int.eq_ofNat_of_zero_le h1
      have htl : t < ms.length := by omega
      have hsl1 := r1.1
      have hqq := r1.len
      have hle : decide (st.2.length + ([(t : Int)] : List Int).length ≤ lim) = true := dt (by simp only [List.length_cons, List.length_nil]; omega)
      simp only [le0, lt_cast hi, Bool.and_true, Bool.true_and, cond_true, Int.toNat_natCast, at_lt hi, ht, lt_cast (show t < st.1.length by omega), atD, hle, wi_nat (show i < 9223372036854775807 by omega)]
      cases ht2 : st.1.getD t false
      · simp only [Bool.not_false, cond_true]
        refine ⟨(st.1.set t true, st.2 ++ [(t : Int)]), rfl, r1.add htl ht2, fun v hv => ?_, fun j hj hji => ?_⟩
        · rcases List.mem_append.1 hv with hv | hv
          · exact r2 v hv
          · obtain rfl := List.mem_singleton.1 hv
            rw [← ht]; exact List.getElem_mem hi
        · by_cases he : j = i
          · subst he
            rw [ht]; exact List.mem_append_right _ (List.mem_singleton.2 rfl)
          · exact List.mem_append_left _ (r3 j hj (by omega))
      · simp only [Bool.not_true, cond_false]
        refine ⟨st, rfl, r1, r2, fun j hj hji => ?_⟩
        by_cases he : j = i
        · subst he
          rw [ht]; exact r1.2.2.1 t ht2
        · exact r3 j hj (by omega))
    (fun n st _ => by
      show f64.s0 L N _ (f64.l0 L N _ n) list (list.length : Int) list.length ms st.1 st.2 = _
      unfold f64.s0 f64.s0'
      simp only [ge_cast (Nat.lt_irrefl _), cond_false]
      rfl)
    L 0 (List.replicate ms.length false, []) (by omega) (by omega)
    ⟨⟨by simp, fun v hv => by simp at hv, fun t h => absurd h (Tr_replicate _ t), by rw [cnt_replicate]; rfl, List.nodup_nil⟩, fun v hv => by simp at hv, fun _ _ h => by omega⟩
  have e0 : ((ms.length : Int)).toNat = ms.length := rfl
  rw [e0]
  refine (show ∃ q, _ = some q ∧ _ from ?_)
  have h1 := work L 0 st.1 st.2 (by omega) (by omega) g2 (fun v hv => by
    obtain ⟨t, rfl, -⟩ := g2.2.1 v hv
    exact ⟨t, rfl, .base t (g3 _ hv)⟩) (fun v hv => by
    obtain ⟨j, hj, rfl⟩ := List.mem_iff_getElem.1 hv
    exact g4 j hj hj) (fun _ _ h => by omega)
  obtain ⟨r, h2, h3⟩ := h1
  exact ⟨r, g1.trans h2, h3⟩
end Go.Proofs.YtffkhhblppfbfaaDoor.Ev
namespace Go.Proofs.YtffkhhblppfbfaaDoor.Ev
open Go
set_option linter.unusedVariables false
set_option linter.unusedSimpArgs false
end Go.Proofs.YtffkhhblppfbfaaDoor.Ev
namespace Go.Proofs.YtffkhhblppfbfaaDoor.Ev
open Go
set_option linter.unusedVariables false
set_option linter.unusedSimpArgs false
def StepX (ms : List (List Move)) (X : Nat → Prop) (a : Int) (t : Nat) : Prop := ∃ s, X s ∧ ∃ (hs : s < ms.length) (k : Nat) (hk : k < (ms[s]).length), (ms[s])[k].act = a ∧ (ms[s])[k].to = (t : Int)
theorem StepX.iff {ms : List (List Move)} {X Y : Nat → Prop} (h : ∀ t, X t ↔ Y t) (a : Int) (t : Nat) : StepX ms X a t ↔ StepX ms Y a t :=
  ⟨fun ⟨s, hx, r⟩ => ⟨s, (h s).1 hx, r⟩, fun ⟨s, hx, r⟩ => ⟨s, (h s).2 hx, r⟩⟩
theorem after_ok (L N : Nat) (ms : List (List Move)) (set : List Int) (a : Int) (hm : Leads ms) (hs : set.length ≤ ms.length) (hr : ∀ v ∈ set, 0 ≤ v ∧ v < (ms.length : Int)) (hL : 268435456 ≤ L) :
    ∃ q, f36 L N ⟨ms⟩ set a = some q ∧ q.length ≤ ms.length ∧ (∀ v ∈ q, 0 ≤ v ∧ v < (ms.length : Int)) ∧ (∀ t : Nat, (t : Int) ∈ q ↔ Slip ms (StepX ms (fun s => (s : Int) ∈ set) a) t) ∧ Rises q := by
  have hlim := lim_eq
  have hn := hm.1
  show ∃ q, f36.b L N some ⟨ms⟩ set a = some q ∧ _
  unfold f36.b f36.b'
  obtain ⟨to, g1, g2, g3⟩ := inv_loop (l := fun n i to => f36.l0 L N (fun z6 z7 => f36.p0_e0 L N some z6 z7) n a set (set.length : Int) i ms to) (len := set.length)
    (K := fun to : List Int => f36.p0_e0 L N some ms to)
    (fun i to => to.length ≤ i * 1048576 ∧ ∀ v : Int, v ∈ to ↔ ∃ (j : Nat) (hj : j < set.length), j < i ∧ ∃ s : Nat, set[j] = (s : Int) ∧ ∃ (hs : s < ms.length) (k : Nat) (hk : k < (ms[s]).length), (ms[s])[k].act = a ∧ (ms[s])[k].to = v)
    (fun n i to hi ⟨p1, p2⟩ => by
      show ∃ s', f36.s0 L N _ (f36.l0 L N _ n) a set (set.length : Int) i ms to = _ ∧ _
      unfold f36.s0 f36.s0'
      obtain ⟨h1, h2⟩ := hr _ (List.getElem_mem hi)
      obtain ⟨s, hse⟩ := Int.eq_ofNat_of_zero_le h1
      have hsn : s < ms.length := by omega
      have hrow := (hm.2 s hsn).1
      simp only [le0, lt_cast hi, Bool.and_true, cond_true, Int.toNat_natCast, at_lt hi, hse, lt_cast hsn, at_lt hsn]
      obtain ⟨to', q1, q2, q3⟩ := inv_loop (l := fun n' k to => f36.l1 L N (fun z17 z18 z19 z20 z21 z22 => f36.p1_e2 L N (fun z6 z7 => f36.p0_e0 L N some z6 z7) (f36.l0 L N (fun z6 z7 => f36.p0_e0 L N some z6 z7) n) z17 z18 z19 z20 z21 z22) n' a set (set.length : Int) (i : Int) ms[s] ((ms[s]).length : Int) k ms to) (len := (ms[s]).length)
        (K := fun to : List Int => f36.l0 L N (fun z6 z7 => f36.p0_e0 L N some z6 z7) n a set (set.length : Int) ((i + 1 : Nat) : Int) ms to)
        (fun k to' => to'.length ≤ i * 1048576 + k ∧ ∀ v : Int, v ∈ to' ↔ (v ∈ to ∨ ∃ (k' : Nat) (hk' : k' < (ms[s]).length), k' < k ∧ (ms[s])[k'].act = a ∧ (ms[s])[k'].to = v))
        (fun n' k to' hk ⟨r1, r2⟩ => by
          show ∃ s', f36.s1 L N _ (f36.l1 L N _ n') a set (set.length : Int) (i : Int) ms[s] ((ms[s]).length : Int) k ms to' = _ ∧ _
          unfold f36.s1 f36.s1'
          have hle : decide (to'.length + ([(ms[s])[k].to] : List Int).length ≤ lim) = true := dt (by simp only [List.length_cons, List.length_nil]; omega)
          simp only [le0, lt_cast hk, Bool.and_true, cond_true, Int.toNat_natCast, at_lt hk, hle, wi_nat (show k < 9223372036854775807 by omega)]
          by_cases ha : (ms[s])[k].act = a
          · have hb : ((ms[s])[k].act == a) = true := by simpa using ha
            rw [hb]
            simp only [cond_true]
            refine ⟨to' ++ [(ms[s])[k].to], rfl, by simp only [List.length_append, List.length_cons, List.length_nil]; omega, fun v => ?_⟩
            rw [List.mem_append, r2 v, List.mem_singleton]
            constructor
            · rintro ((h | ⟨k', hk', hlt, h⟩) | h)
              · exact .inl h
              · exact .inr ⟨k', hk', by omega, h⟩
              · exact .inr ⟨k, hk, by omega, ha, h.symm⟩
            · rintro (h | ⟨k', hk', hlt, h1, h2⟩)
              · exact .inl (.inl h)
              · by_cases he : k' = k
                · subst he; exact .inr h2.symm
                · exact .inl (.inr ⟨k', hk', by omega, h1, h2⟩)
          · have hb : ((ms[s])[k].act == a) = false := by simpa using ha
            rw [hb]
            simp only [cond_false]
            refine ⟨to', rfl, by omega, fun v => ?_⟩
            rw [r2 v]
            constructor
            · rintro (h | ⟨k', hk', hlt, h⟩)
              · exact .inl h
              · exact .inr ⟨k', hk', by omega, h⟩
            · rintro (h | ⟨k', hk', hlt, h1, h2⟩)
              · exact .inl h
              · by_cases he : k' = k
                · subst he; exact absurd h1 ha
                · exact .inr ⟨k', hk', by omega, h1, h2⟩)
        (fun n' to' _ => by
          show f36.s1 L N _ (f36.l1 L N _ n') a set (set.length : Int) (i : Int) ms[s] ((ms[s]).length : Int) (ms[s]).length ms to' = _
          unfold f36.s1 f36.s1'
          simp only [ge_cast (Nat.lt_irrefl _), cond_false]
          show f36.l0 L N _ n a set (set.length : Int) (wi ((i : Int) + 1)) ms to' = _
          rw [wi_nat (by omega)])
        L 0 to (by omega) (by omega) ⟨by rw [Nat.add_zero]; exact p1, fun v => ⟨fun h => .inl h, fun h => by
          rcases h with h | ⟨k', _, hlt, -⟩
          · exact h
          · omega⟩⟩
      refine ⟨to', q1, by omega, fun v => ?_⟩
      rw [q3 v, p2 v]
      constructor
      · rintro (⟨j, hj, hlt, h⟩ | ⟨k', hk', -, h1, h2⟩)
        · exact ⟨j, hj, by omega, h⟩
        · exact ⟨i, hi, by omega, s, hse, hsn, k', hk', h1, h2⟩
      · rintro ⟨j, hj, hlt, s', hs', hsl', k', hk', h1, h2⟩
        by_cases he : j = i
        · subst he
          rw [hse] at hs'
          obtain rfl : s = s' := by omega
          exact .inr ⟨k', hk', hk', h1, h2⟩
        · exact .inl ⟨j, hj, by omega, s', hs', hsl', k', hk', h1, h2⟩)
    (fun n to _ => by
      show f36.s0 L N _ (f36.l0 L N _ n) a set (set.length : Int) set.length ms to = _
      unfold f36.s0 f36.s0'
      simp only [ge_cast (Nat.lt_irrefl _), cond_false])
    L 0 [] (by omega) (by omega) ⟨by simp, fun v => ⟨fun h => by simp at h, fun ⟨_, _, h, _⟩ => by omega⟩⟩
  have hto : ∀ v ∈ to, 0 ≤ v ∧ v < (ms.length : Int) := fun v hv => by
    obtain ⟨j, hj, -, s, -, hsn, k, hk, -, rfl⟩ := (g3 v).1 hv
    exact (hm.2 s hsn).2 k hk
  obtain ⟨q, e1, e2, e3, e4, e5⟩ := slip1_ok L N ms to hm hto (by omega) (by omega) (by omega)
  refine ⟨q, g1.trans ?_, e2, e3, fun t => ?_, e5⟩
  · show ((f64 L N ⟨ms⟩ to).bind fun y => some y) = _
    rw [e1]; rfl
  · rw [e4 t]
    refine Slip.iff (fun t => ?_) t
    rw [g3]
    constructor
    · rintro ⟨j, hj, -, s, hs, hsl, k, hk, h1, h2⟩
      exact ⟨s, by show (s : Int) ∈ set; rw [← hs]; exact List.getElem_mem hj, hsl, k, hk, h1, h2⟩
    · rintro ⟨s, hx, hsl, k, hk, h1, h2⟩
      obtain ⟨j, hj, hjs⟩ := List.mem_iff_getElem.1 hx
      exact ⟨j, hj, hj, s, hjs, hsl, k, hk, h1, h2⟩
theorem do8_ok (L N : Nat) (ms : List (List Move)) (x : List Bool) (a : Int) (hm : Leads ms) (hx : x.length = ms.length) (hL : 268435456 ≤ L) :
    ∃ out, f19 L N ⟨ms⟩ x a = some out ∧ out.length = ms.length ∧ ∀ t, Tr out t ↔ Slip ms (StepX ms (Tr x) a) t := by
  have hlim := lim_eq
  have hn := hm.1
  show ∃ out, f19.b L N some ⟨ms⟩ x a = some out ∧ _
  unfold f19.b f19.b'
  have h0 : (decide ((0 : Int) ≤ (x.length : Int)) && decide ((x.length : Int) ≤ (lim : Int))) = true := by rw [le0, dt (by omega)]; rfl
  simp only [h0, cond_true]
  obtain ⟨out, g1, g2, g3⟩ := inv_loop (l := fun n i out => f19.l0 L N (fun z5 z6 => f19.p0_e0 L N some z5 z6) n x a i ms out) (len := x.length)
    (K := fun out : List Bool => f19.p0_e0 L N some ms out)
    (fun i out => out.length = ms.length ∧ ∀ t : Nat, Tr out t ↔ ∃ s, s < i ∧ Tr x s ∧ ∃ (hs : s < ms.length) (k : Nat) (hk : k < (ms[s]).length), (ms[s])[k].act = a ∧ (ms[s])[k].to = (t : Int))
    (fun n s out hs ⟨p1, p2⟩ => by
      show ∃ s', f19.s0 L N _ (f19.l0 L N _ n) x a s ms out = _ ∧ _
      unfold f19.s0 f19.s0'
      have hsn : s < ms.length := by omega
      have hrow := (hm.2 s hsn).1
      simp only [lt_cast hs, cond_true]
      obtain ⟨out', q1, q2, q3⟩ := inv_loop (l := fun n' k out => f19.l1 L N (fun z13 z14 z15 z16 z17 => f19.p1_e2 L N (fun z5 z6 => f19.p0_e0 L N some z5 z6) (f19.l0 L N (fun z5 z6 => f19.p0_e0 L N some z5 z6) n) z13 z14 z15 z16 z17) n' x a (s : Int) k ms out) (len := (ms[s]).length)
        (K := fun out : List Bool => f19.l0 L N (fun z5 z6 => f19.p0_e0 L N some z5 z6) n x a ((s + 1 : Nat) : Int) ms out)
        (fun k out' => out'.length = ms.length ∧ ∀ t : Nat, Tr out' t ↔ (Tr out t ∨ (Tr x s ∧ ∃ (k' : Nat) (hk' : k' < (ms[s]).length), k' < k ∧ (ms[s])[k'].act = a ∧ (ms[s])[k'].to = (t : Int))))
        (fun n' k out' hk ⟨r1, r2⟩ => by
          show ∃ s', f19.s1 L N _ (f19.l1 L N _ n') x a (s : Int) k ms out' = _ ∧ _
          unfold f19.s1 f19.s1'
          obtain ⟨t0, ht0, htl⟩ := hm.nat hsn hk
          simp only [le0, lt_cast hsn, lt_cast hs, lt_cast hk, Bool.and_true, Bool.true_and, cond_true, Int.toNat_natCast, at_lt hsn, at_lt hk, atD]
          unfold f19.j0'
          simp only [le0, lt_cast hsn, lt_cast hk, Bool.and_true, Bool.true_and, cond_true, Int.toNat_natCast, at_lt hsn, at_lt hk, ht0, lt_cast (show t0 < out'.length by omega), wi_nat (show k < 9223372036854775807 by omega)]
          have stay : ¬ (Tr x s ∧ (ms[s])[k].act = a) → (out'.length = ms.length ∧ ∀ t : Nat, Tr out' t ↔ (Tr out t ∨ (Tr x s ∧ ∃ (k' : Nat) (hk' : k' < (ms[s]).length), k' < k + 1 ∧ (ms[s])[k'].act = a ∧ (ms[s])[k'].to = (t : Int)))) := by
            intro hno
            refine ⟨r1, fun t => ?_⟩
            rw [r2 t]
            constructor
            · rintro (h | ⟨hx, k', hk', hlt, h⟩)
              · exact .inl h
              · exact .inr ⟨hx, k', hk', by omega, h⟩
            · rintro (h | ⟨hx, k', hk', hlt, h1, h2⟩)
              · exact .inl h
              · by_cases he : k' = k
                · subst he; exact absurd ⟨hx, h1⟩ hno
                · exact .inr ⟨hx, k', hk', by omega, h1, h2⟩
          cases hxs : x.getD s false
          · simp only [cond_false]
            exact ⟨out', rfl, stay fun h => by have := h.1; unfold Tr at this; rw [hxs] at this; cases this⟩
          · simp only [cond_true]
            by_cases ha : (ms[s])[k].act = a
            · have hb : ((ms[s])[k].act == a) = true := by simpa using ha
              rw [hb]
              simp only [cond_true]
              refine ⟨out'.set t0 true, rfl, by simp [r1], fun t => ?_⟩
              rw [Tr_set (by omega), r2 t]
              constructor
              · rintro (rfl | h | ⟨hx, k', hk', hlt, h⟩)
                · exact .inr ⟨hxs, k, hk, by omega, ha, ht0⟩
                · exact .inl h
                · exact .inr ⟨hx, k', hk', by omega, h⟩
              · rintro (h | ⟨hx, k', hk', hlt, h1, h2⟩)
                · exact .inr (.inl h)
                · by_cases he : k' = k
                  · subst he
                    rw [ht0] at h2
                    exact .inl (by omega)
                  · exact .inr (.inr ⟨hx, k', hk', by omega, h1, h2⟩)
            · have hb : ((ms[s])[k].act == a) = false := by simpa using ha
              rw [hb]
              simp only [cond_false]
              exact ⟨out', rfl, stay fun h => ha h.2⟩)
        (fun n' out' _ => by
          show f19.s1 L N _ (f19.l1 L N _ n') x a (s : Int) (ms[s]).length ms out' = _
          unfold f19.s1 f19.s1'
          simp only [le0, lt_cast hsn, Bool.and_true, cond_true, Int.toNat_natCast, at_lt hsn, ge_cast (Nat.lt_irrefl _), cond_false]
          show f19.l0 L N _ n x a (wi ((s : Int) + 1)) ms out' = _
          rw [wi_nat (by omega)])
        L 0 out (by omega) (by omega) ⟨p1, fun t => ⟨fun h => .inl h, fun h => by
          rcases h with h | ⟨-, k', _, hlt, -⟩
          · exact h
          · omega⟩⟩
      refine ⟨out', q1, q2, fun t => ?_⟩
      rw [q3 t, p2 t]
      constructor
      · rintro (⟨s', hlt, h⟩ | ⟨hx, k', hk', -, h1, h2⟩)
        · exact ⟨s', by omega, h⟩
        · exact ⟨s, by omega, hx, hsn, k', hk', h1, h2⟩
      · rintro ⟨s', hlt, hx, hsl', k', hk', h1, h2⟩
        by_cases he : s' = s
        · subst he; exact .inr ⟨hx, k', hk', hk', h1, h2⟩
        · exact .inl ⟨s', by omega, hx, hsl', k', hk', h1, h2⟩)
    (fun n out _ => by
      show f19.s0 L N _ (f19.l0 L N _ n) x a x.length ms out = _
      unfold f19.s0 f19.s0'
      simp only [ge_cast (Nat.lt_irrefl _), cond_false])
    L 0 (List.replicate x.length false) (by omega) (by omega) ⟨by simp [hx], fun t => ⟨fun h => absurd h (Tr_replicate _ t), fun ⟨_, h, _⟩ => by omega⟩⟩
  obtain ⟨r, e1, e2, e3⟩ := slip2_ok L N ms out hm g2 (by omega)
  have e0 : ((x.length : Int)).toNat = x.length := rfl
  rw [e0]
  refine ⟨r, g1.trans ?_, e2, fun t => ?_⟩
  · show ((f45 L N ⟨ms⟩ out).bind fun y => some y) = _
    rw [e1]; rfl
  · rw [e3 t]
    refine Slip.iff (fun t => ?_) t
    rw [g3]
    constructor
    · rintro ⟨s, -, hx, h⟩; exact ⟨s, hx, h⟩
    · rintro ⟨s, hx, hs, h⟩; exact ⟨s, by have := Tr_lt hx; omega, hx, hs, h⟩
end Go.Proofs.YtffkhhblppfbfaaDoor.Ev
namespace Go.Proofs.YtffkhhblppfbfaaDoor.Ev
open Go
set_option linter.unusedVariables false
set_option linter.unusedSimpArgs false
theorem list8_ok (L N : Nat) (b : List Bool) (hb : b.length ≤ 1048576) (hL : 1048576 < L) : ∃ q, f49 L N b = some q ∧ (∀ x : Int, x ∈ q ↔ ∃ t : Nat, x = (t : Int) ∧ Tr b t) ∧ Rises q ∧ q.length ≤ b.length := by
  have hlim := lim_eq
  show ∃ q, f49.b L N some b = some q ∧ _
  unfold f49.b f49.b'
  have key : ∀ (n i : Nat) (q : List Int), i ≤ b.length → b.length - i < n → (∀ x : Int, x ∈ q ↔ ∃ t : Nat, t < i ∧ x = (t : Int) ∧ Tr b t) → Rises q → q.length ≤ i →
      ∃ r, f49.l0 L N (fun z3 => f49.p0_e0 L N some z3) n b (i : Int) q = some r ∧ (∀ x : Int, x ∈ r ↔ ∃ t : Nat, x = (t : Int) ∧ Tr b t) ∧ Rises r ∧ r.length ≤ b.length := by
    intro n
    induction n with
    | zero => intro i q _ h; omega
    | succ n ih =>
      intro i q hi hn hq hr hl
      show ∃ r, f49.s0 L N _ (f49.l0 L N _ n) b i q = some r ∧ _
      unfold f49.s0 f49.s0'
      by_cases hlt : i < b.length
      · have hle : decide (q.length + ([(i : Int)] : List Int).length ≤ lim) = true := dt (by simp only [List.length_cons, List.length_nil]; omega)
        simp only [lt_cast hlt, le0, cond_true, Bool.and_true, Int.toNat_natCast, atD, hle, wi_nat (show i < 9223372036854775807 by omega)]
        cases hb2 : b.getD i false
        · simp only [cond_false]
          refine ih (i + 1) q (by omega) (by omega) (fun x => ?_) hr (by omega)
          rw [hq x]
          constructor
          · rintro ⟨t, h1, h2, h3⟩; exact ⟨t, by omega, h2, h3⟩
          · rintro ⟨t, h1, h2, h3⟩
            by_cases e : t = i
            · subst e; unfold Tr at h3; rw [hb2] at h3; cases h3
            · exact ⟨t, by omega, h2, h3⟩
        · simp only [cond_true]
          refine ih (i + 1) (q ++ [(i : Int)]) (by omega) (by omega) (fun x => ?_) ?_ (by simp only [List.length_append, List.length_cons, List.length_nil]; omega)
          · rw [List.mem_append, hq x, List.mem_singleton]
            constructor
            · rintro (⟨t, h1, h2, h3⟩ | h)
              · exact ⟨t, by omega, h2, h3⟩
              · exact ⟨i, by omega, h, hb2⟩
            · rintro ⟨t, h1, h2, h3⟩
              by_cases e : t = i
              · subst e; exact .inr h2
              · exact .inl ⟨t, by omega, h2, h3⟩
          · refine List.pairwise_append.2 ⟨hr, by simp, fun x hx y hy => ?_⟩
            obtain ⟨t, h1, rfl, -⟩ := (hq x).1 hx
            obtain rfl := List.mem_singleton.1 hy
            omega
      · simp only [ge_cast hlt, cond_false]
        have hi' : i = b.length := by omega
        subst hi'
        refine ⟨q, rfl, fun x => ?_, hr, hl⟩
        rw [hq x]
        constructor
        · rintro ⟨t, -, h2, h3⟩; exact ⟨t, h2, h3⟩
        · rintro ⟨t, h2, h3⟩; exact ⟨t, Tr_lt h3, h2, h3⟩
  exact key L 0 [] (by omega) (by omega) (fun x => ⟨fun h => by simp at h, fun ⟨_, h, _⟩ => by omega⟩) List.Pairwise.nil (by simp)
end Go.Proofs.YtffkhhblppfbfaaDoor.Ev
namespace Go.Proofs.YtffkhhblppfbfaaDoor.Ev
open Go
set_option linter.unusedVariables false
set_option linter.unusedSimpArgs false
theorem less_irrefl (a : Move) : lessM a a = false := by unfold lessM; exact decide_eq_false (by omega)
theorem less_trans {a b c : Move} (h1 : lessM a b = true) (h2 : lessM b c = true) : lessM a c = true := by
  unfold lessM at *; have h1 := of_decide_eq_true h1; have h2 := of_decide_eq_true h2; exact decide_eq_true (by omega)
theorem less_ne {a b : Move} (h : lessM a b = true) : a ≠ b := fun e => by rw [e, less_irrefl] at h; cases h
def RisesM (l : List Move) : Prop := l.Pairwise fun a b => lessM a b = true
theorem risesM_ext : ∀ {a b : List Move}, RisesM a → RisesM b → (∀ x, x ∈ a ↔ x ∈ b) → a = b
  | [], [], _, _, _ => rfl
  | [], y :: b, _, _, h => absurd ((h y).2 (.head _)) (by simp)
  | x :: a, [], _, _, h => absurd ((h x).1 (.head _)) (by simp)
  | x :: a, y :: b, ha, hb, h => by
    have ha' := List.pairwise_cons.1 ha
    have hb' := List.pairwise_cons.1 hb
    have hxy : x = y := by
      rcases List.mem_cons.1 ((h x).1 (.head _)) with e | e
      · exact e
      · rcases List.mem_cons.1 ((h y).2 (.head _)) with e' | e'
        · exact e'.symm
        · have q := less_trans (hb'.1 x e) (ha'.1 y e')
          rw [less_irrefl] at q; cases q
    subst hxy
    refine congrArg (x :: ·) (risesM_ext ha'.2 hb'.2 fun z => ?_)
    have := h z
    simp only [List.mem_cons] at this
    constructor
    · intro hz
      rcases this.1 (.inr hz) with e | e
      · exact absurd e.symm (less_ne (ha'.1 z hz))
      · exact e
    · intro hz
      rcases this.2 (.inr hz) with e | e
      · exact absurd e.symm (less_ne (hb'.1 z hz))
      · exact e
theorem len_asc {f : Move → Int} {B : Int} : ∀ {l : List Move} {b : Int}, (l.Pairwise fun x y => f x < f y) → (∀ x ∈ l, b ≤ f x ∧ f x < B) → b ≤ B → (l.length : Int) ≤ B - b
  | [], b, _, _, hb => by simp; omega
  | x :: l, b, hp, hb, hB => by
    obtain ⟨h1, h2⟩ := List.pairwise_cons.1 hp
    obtain ⟨h3, h4⟩ := hb x (.head _)
    have := len_asc (b := f x + 1) h2 (fun y hy => ⟨by have := h1 y hy; omega, (hb y (.tail _ hy)).2⟩) (by omega)
    rw [List.length_cons]
    omega
theorem risesM_len {l : List Move} (hr : RisesM l) (h : ∀ m ∈ l, -4 ≤ m.act ∧ m.act ≤ 4 ∧ 0 ≤ m.to ∧ m.to < 60) : l.length ≤ 540 := by
  have h1 : l.Pairwise fun x y => (x.act + 4) * 60 + x.to < (y.act + 4) * 60 + y.to := by
    refine List.Pairwise.imp_of_mem ?_ hr
    intro x y hx hy hxy
    unfold lessM at hxy
    have hxy := of_decide_eq_true hxy
    have := h x hx
    have := h y hy
    omega
  have := len_asc (B := 540) (b := 0) h1 (fun x hx => by have := h x hx; omega) (by omega)
  omega
theorem gsize_le {B : Nat} : ∀ {ms : List (List Move)}, (∀ r ∈ ms, r.length ≤ B) → gsize ms ≤ ms.length * B
  | [], _ => by simp [gsize]
  | r :: ms, h => by
    have h1 := h r (.head _)
    have h2 := gsize_le (B := B) (ms := ms) fun x hx => h x (.tail _ hx)
    unfold gsize at h2 ⊢
    rw [List.map_cons, List.sum_cons, List.length_cons, Nat.add_mul, Nat.one_mul]
    omega
end Go.Proofs.YtffkhhblppfbfaaDoor.Ev
namespace Go.Proofs.YtffkhhblppfbfaaDoor.Ev
open Go
set_option linter.unusedVariables false
set_option linter.unusedSimpArgs false
theorem leM_iff (x y : Move) : leM x y = true ↔ lessM x y = true ∨ x = y := by
  unfold leM lessM
  obtain ⟨a, b⟩ := x
  obtain ⟨c, d⟩ := y
  simp only [decide_eq_true_eq, Move.mk.injEq]
  omega
theorem sortM_le (xs : List Move) : (sortM xs).Pairwise fun a b => leM a b = true := by
  refine List.pairwise_mergeSort (fun a b c h1 h2 => ?_) (fun a b => ?_) xs
  · rw [leM_iff] at *
    rcases h1 with h1 | rfl
    · rcases h2 with h2 | rfl
      · exact .inl (less_trans h1 h2)
      · exact .inl h1
    · exact h2
  · unfold leM
    simp only [Bool.or_eq_true, decide_eq_true_eq]
    omega
theorem getM {zs : List Move} {i : Nat} (h : i < zs.length) : (zs.toArray)[i]! = zs[i] := by simp [getElem!_pos, h]
theorem compact_rises {zs : List Move} (hs : zs.Pairwise fun a b => leM a b = true) : RisesM (Go.Lib.compact zs) := by
  unfold RisesM Go.Lib.compact Go.Lib.compactUpTo
  rw [List.pairwise_map]
  refine List.Pairwise.imp_of_mem ?_ (List.Pairwise.filter _ List.pairwise_lt_range)
  intro i j hi hj hij
  rw [List.mem_filter, List.mem_range] at hi hj
  have hjl := hj.1
  rw [getM hi.1, getM hj.1]
  have hk := hj.2
  unfold Go.Lib.keeps at hk
  have hk := of_decide_eq_true hk
  have hne : zs[j] ≠ zs[j - 1] := by
    rcases hk with h | h
    · omega
    · rwa [getM hj.1, getM (show j - 1 < zs.length by omega)] at h
  have hlast : lessM zs[j - 1] zs[j] = true := by
    rcases (leM_iff _ _).1 (List.pairwise_iff_getElem.1 hs (j - 1) j (by omega) (by omega) (by omega)) with h | h
    · exact h
    · exact absurd h.symm hne
  by_cases e : i = j - 1
  · subst e; exact hlast
  · rcases (leM_iff _ _).1 (List.pairwise_iff_getElem.1 hs i (j - 1) (by omega) (by omega) (by omega)) with h | h
    · exact less_trans h hlast
    · rw [h]; exact hlast
theorem compact_mem (zs : List Move) (v : Move) : v ∈ Go.Lib.compact zs ↔ v ∈ zs := by
  unfold Go.Lib.compact Go.Lib.compactUpTo
  rw [List.mem_map]
  constructor
  · rintro ⟨i, hi, rfl⟩
    rw [List.mem_filter, List.mem_range] at hi
    rw [getM hi.1]; exact List.getElem_mem hi.1
  · intro hv
    obtain ⟨i, hi, rfl⟩ := List.mem_iff_getElem.1 hv
    clear hv
    induction i with
    | zero => exact ⟨0, by rw [List.mem_filter, List.mem_range]; exact ⟨hi, by simp [Go.Lib.keeps]⟩, getM hi⟩
    | succ i ih =>
      by_cases hk : Go.Lib.keeps zs.toArray (i + 1) = true
      · exact ⟨i + 1, by rw [List.mem_filter, List.mem_range]; exact ⟨hi, hk⟩, getM hi⟩
      · have : zs[i + 1] = zs[i] := by
          unfold Go.Lib.keeps at hk
          have hk : ¬ (i + 1 = 0 ∨ zs.toArray[i + 1]! ≠ zs.toArray[i + 1 - 1]!) := fun h => hk (decide_eq_true h)
          have h2 := Classical.not_not.1 (fun h => hk (.inr h))
          rw [getM hi, Nat.add_sub_cancel, getM (show i < zs.length by omega)] at h2
          exact h2
        rw [this]
        exact ih (by omega)
theorem tidyM_rises (xs : List Move) : RisesM (tidyM xs) := compact_rises (sortM_le xs)
theorem tidyM_mem (xs : List Move) (v : Move) : v ∈ tidyM xs ↔ v ∈ xs := (compact_mem _ v).trans (sortM_mem xs v)
end Go.Proofs.YtffkhhblppfbfaaDoor.Ev
namespace Go.Proofs.YtffkhhblppfbfaaDoor.Ev
open Go
set_option linter.unusedVariables false
set_option linter.unusedSimpArgs false
def NextE (E : Nat → Nat → Prop) (n : Nat) (q : List Int) : Prop := q.length = n ∧ ∀ (i : Nat) (hi : i < q.length), ∃ j : Nat, q[i] = (j : Int) ∧ j ≤ i ∧ E j i ∧ ∀ j', j' < j → ¬ E j' i
theorem NextE.uniq {E : Nat → Nat → Prop} {n : Nat} {q q' : List Int} (h : NextE E n q) (h' : NextE E n q') : q = q' := by
  apply List.ext_getElem
  · rw [h.1, h'.1]
  · intro i h1 h2
    obtain ⟨j, a1, a2, a3, a4⟩ := h.2 i h1
    obtain ⟨k, b1, b2, b3, b4⟩ := h'.2 i h2
    have : j = k := by
      rcases Nat.lt_trichotomy j k with h | h | h
      · exact absurd a3 (b4 j h)
      · exact h
      · exact absurd b3 (a4 k h)
    rw [a1, b1, this]
theorem NextE.congr {E F : Nat → Nat → Prop} {n : Nat} {q : List Int} (h : NextE E n q) (he : ∀ i j, j ≤ i → i < n → (E j i ↔ F j i)) : NextE F n q :=
  ⟨h.1, fun i hi => by
    obtain ⟨j, a1, a2, a3, a4⟩ := h.2 i hi
    have hn : i < n := by rw [← h.1]; exact hi
    exact ⟨j, a1, a2, (he i j a2 hn).1 a3, fun j' hj' hf => a4 j' hj' ((he i j' (by omega) hn).2 hf)⟩⟩
def Sig (ms : List (List Move)) (p : List Int) (i : Nat) (m : Move) : Prop := ∃ (h : i < ms.length) (k : Nat) (hk : k < (ms[i]).length), m.act = (ms[i])[k].act ∧ m.to = p.getD (ms[i])[k].to.toNat 0
def Akin (ms : List (List Move)) (p : List Int) (j i : Nat) : Prop := p.getD j 0 = p.getD i 0 ∧ ∀ m, Sig ms p i m ↔ Sig ms p j m
theorem Akin.refl (ms : List (List Move)) (p : List Int) (i : Nat) : Akin ms p i i := ⟨rfl, fun _ => Iff.rfl⟩
theorem l4Same_ok (L N : Nat) (a b : List Int) (hL : a.length < L) (hl : a.length ≤ 1048576) : ∃ r, f48 L N a b = some r ∧ (r = true ↔ a = b) := by
  show ∃ r, f48.b L N some a b = some r ∧ _
  unfold f48.b f48.b'
  by_cases he : a.length = b.length
  · have : ((a.length : Int) != (b.length : Int)) = false := by simp [he]
    rw [this, cond_false]
    have key : ∀ (n i : Nat), i ≤ a.length → a.length - i < n → (∀ j (h1 : j < a.length) (h2 : j < b.length), j < i → a[j] = b[j]) →
        ∃ r, f48.l0 L N (f48.p0_e0 L N some) (fun z3 => f48.p0_r L N some z3) n a b (i : Int) = some r ∧ (r = true ↔ a = b) := by
      intro n
      induction n with
      | zero => intro i _ h; omega
      | succ n ih =>
        intro i hi hn hs
        show ∃ r, f48.s0 L N _ _ (f48.l0 L N _ _ n) a b (i : Int) = some r ∧ _
        unfold f48.s0 f48.s0'
        by_cases hlt : i < a.length
        · have hlt' : i < b.length := by omega
          simp only [le0, lt_cast hlt, lt_cast hlt', Bool.and_true, cond_true, Int.toNat_natCast, at_lt hlt, at_lt hlt']
          by_cases h1 : a[i] = b[i]
          · rw [show (a[i] != b[i]) = false by simpa using h1, cond_false, wi_nat (by omega)]
            refine ih (i + 1) (by omega) (by omega) fun j h2 h3 h4 => ?_
            by_cases e : j = i
            · subst e; exact h1
            · exact hs j h2 h3 (by omega)
          · rw [show (a[i] != b[i]) = true by simpa using h1, cond_true]
            refine ⟨false, rfl, ?_⟩
            simp only [Bool.false_eq_true, false_iff]
            intro e
            subst e
            exact h1 rfl
        · simp only [ge_cast hlt, cond_false]
          refine ⟨true, rfl, ?_⟩
          simp only [true_iff]
          exact List.ext_getElem he fun j h1 h2 => hs j h1 h2 (by omega)
    exact key L 0 (by omega) (by omega) (fun _ _ _ h => by omega)
  · have : ((a.length : Int) != (b.length : Int)) = true := by simp; omega
    rw [this, cond_true]
    refine ⟨false, rfl, ?_⟩
    simp only [Bool.false_eq_true, false_iff]
    intro e
    exact he (by rw [e])
end Go.Proofs.YtffkhhblppfbfaaDoor.Ev
namespace Go.Proofs.YtffkhhblppfbfaaDoor.Ev
open Go
set_option linter.unusedVariables false
set_option linter.unusedSimpArgs false
end Go.Proofs.YtffkhhblppfbfaaDoor.Ev
namespace Go.Proofs.YtffkhhblppfbfaaDoor.Ev
open Go
set_option linter.unusedVariables false
set_option linter.unusedSimpArgs false
end Go.Proofs.YtffkhhblppfbfaaDoor.Ev
namespace Go.Proofs.YtffkhhblppfbfaaDoor.Ev
open Go
set_option linter.unusedVariables false
set_option linter.unusedSimpArgs false
inductive Chain (E : List Int → Nat → Nat → Prop) (n : Nat) : List (List Int) → List Int → Prop
  | zero : Chain E n [] (List.replicate n 0)
  | snoc (pre : List (List Int)) (p q : List Int) (h : Chain E n pre p) (hq : NextE (E p) n q) : Chain E n (pre ++ [p]) q
structure EqE (E : List Int → Nat → Nat → Prop) : Prop where
  refl : ∀ p i, E p i i
  symm : ∀ p i j, E p i j → E p j i
  trans : ∀ p i j k, E p i j → E p j k → E p i k
  fine : ∀ p i j, E p i j → p.getD i 0 = p.getD j 0
theorem NextE.same {E : Nat → Nat → Prop} {n : Nat} {q : List Int} (h : NextE E n q) (sy : ∀ i j, E i j → E j i) (tr : ∀ i j k, E i j → E j k → E i k) {i i' : Nat} (hi : i < n) (hi' : i' < n) : q.getD i 0 = q.getD i' 0 ↔ E i i' := by
  have hl := h.1
  rw [getD_lt (show i < q.length by omega), getD_lt (show i' < q.length by omega)]
  obtain ⟨j, a1, a2, a3, a4⟩ := h.2 i (by omega)
  obtain ⟨j', b1, b2, b3, b4⟩ := h.2 i' (by omega)
  rw [a1, b1]
  constructor
  · intro e
    obtain rfl : j = j' := by omega
    exact tr _ _ _ (sy _ _ a3) b3
  · intro e
    have h1 : ¬ j < j' := fun hlt => b4 j hlt (tr _ _ _ a3 e)
    have h2 : ¬ j' < j := fun hlt => a4 j' hlt (tr _ _ _ b3 (sy _ _ e))
    have : j = j' := by omega
    rw [this]
theorem Chain.len {E : List Int → Nat → Nat → Prop} {n : Nat} {pre : List (List Int)} {p : List Int} (h : Chain E n pre p) : p.length = n := by
  cases h with
  | zero => simp
  | snoc pre p q h hq => exact hq.1
theorem Chain.keeps {E : List Int → Nat → Nat → Prop} (hE : EqE E) {n : Nat} {pre : List (List Int)} {p : List Int} (h : Chain E n pre p) (R : Nat → Nat → Prop)
    (hR : ∀ p, p.length = n → (∀ i j, i < n → j < n → R i j → p.getD i 0 = p.getD j 0) → ∀ i j, i < n → j < n → R i j → E p i j) :
    ∀ i j, i < n → j < n → R i j → p.getD i 0 = p.getD j 0 := by
  induction h with
  | zero =>
    intro i j hi hj _
    rw [getD_lt (by simpa using hi), getD_lt (by simpa using hj), List.getElem_replicate, List.getElem_replicate]
  | snoc pre p q h hq ih =>
    intro i j hi hj hr
    exact (hq.same (hE.symm p) (hE.trans p) hi hj).2 (hR p h.len ih i j hi hj hr)
def Fix (E : List Int → Nat → Nat → Prop) (n : Nat) (q : List Int) : Prop := q.length = n ∧ NextE (E q) n q
theorem Fix.same {E : List Int → Nat → Nat → Prop} (hE : EqE E) {n : Nat} {q : List Int} (h : Fix E n q) {i j : Nat} (hi : i < n) (hj : j < n) : q.getD i 0 = q.getD j 0 ↔ E q i j := h.2.same (hE.symm q) (hE.trans q) hi hj
end Go.Proofs.YtffkhhblppfbfaaDoor.Ev
namespace Go.Proofs.YtffkhhblppfbfaaDoor.Ev
open Go
set_option linter.unusedVariables false
set_option linter.unusedSimpArgs false
def Beh (ms : List (List Move)) : (Nat → Prop) → List Int → Nat → Prop
  | X, [] => X
  | X, a :: w => Beh ms (Slip ms (StepX ms X a)) w
theorem Beh.congr {ms : List (List Move)} : ∀ {w : List Int} {X Y : Nat → Prop}, (∀ t, X t ↔ Y t) → ∀ t, Beh ms X w t ↔ Beh ms Y w t
  | [], _, _, h, t => h t
  | a :: w, X, Y, h, t => Beh.congr (w := w) (fun t => Slip.iff (fun t => StepX.iff h a t) t) t
theorem Beh.snoc {ms : List (List Move)} {a : Int} : ∀ {w : List Int} {X : Nat → Prop} {t : Nat}, Beh ms X (w ++ [a]) t ↔ Slip ms (StepX ms (Beh ms X w) a) t
  | [], X, t => Iff.rfl
  | b :: w, X, t => Beh.snoc (w := w)
theorem slip_some {ms : List (List Move)} {X : Nat → Prop} {t : Nat} (h : Slip ms X t) : ∃ s, X s := by
  induction h with
  | base t hx => exact ⟨t, hx⟩
  | step s t _ _ _ _ _ _ ih => exact ih
end Go.Proofs.YtffkhhblppfbfaaDoor.Ev
namespace Go.Proofs.YtffkhhblppfbfaaDoor.Ev
open Go
set_option linter.unusedVariables false
set_option linter.unusedSimpArgs false
def Row (ms : List (List Move)) (q : List Int) (X : Nat → Prop) : Prop := q.length ≤ ms.length ∧ (∀ v ∈ q, 0 ≤ v ∧ v < (ms.length : Int)) ∧ (∀ t : Nat, (t : Int) ∈ q ↔ X t) ∧ Rises q
theorem Row.some {ms : List (List Move)} {q : List Int} {X : Nat → Prop} (h : Row ms q X) : 0 < q.length ↔ ∃ t, X t := by
  constructor
  · intro hp
    have hm := List.getElem_mem hp
    obtain ⟨t, ht⟩ := Int.eq_ofNat_of_zero_le (h.2.1 _ hm).1
    exact ⟨t, (h.2.2.1 t).1 (by rw [← ht]; exact hm)⟩
  · rintro ⟨t, ht⟩
    exact List.length_pos_of_mem ((h.2.2.1 t).2 ht)
theorem Row.uniq {ms : List (List Move)} {q q' : List Int} {X : Nat → Prop} (h : Row ms q X) (h' : Row ms q' X) : q = q' := by
  refine rises_ext h.2.2.2 h'.2.2.2 fun x => ⟨fun hx => ?_, fun hx => ?_⟩
  · obtain ⟨t, rfl⟩ := Int.eq_ofNat_of_zero_le (h.2.1 _ hx).1
    exact (h'.2.2.1 t).2 ((h.2.2.1 t).1 hx)
  · obtain ⟨t, rfl⟩ := Int.eq_ofNat_of_zero_le (h'.2.1 _ hx).1
    exact (h.2.2.1 t).2 ((h'.2.2.1 t).1 hx)
abbrev BehW (ms : List (List Move)) (w : List Int) : Nat → Prop := Beh ms (Slip ms fun x => x = 0) w
theorem first_row (L N : Nat) (ms : List (List Move)) (hm : Leads ms) (h1 : 1 ≤ ms.length) (hL : 268435456 ≤ L) : ∃ q, f64 L N ⟨ms⟩ [0] = some q ∧ Row ms q (Slip ms fun x => x = 0) := by
  have hlim := lim_eq
  obtain ⟨q0, a1, a2, a3, a4, a5⟩ := slip1_ok L N ms [0] hm (fun v hv => by obtain rfl := List.mem_singleton.1 hv; omega) (by simp only [List.length_cons, List.length_nil]; omega) (by simp only [List.length_cons, List.length_nil]; omega) (by omega)
  refine ⟨q0, a1, a2, a3, fun t => ?_, a5⟩
  rw [a4 t]
  exact Slip.iff (fun t => by rw [List.mem_singleton]; omega) t
theorem after_row (L N : Nat) (ms : List (List Move)) (q : List Int) (X : Nat → Prop) (a : Int) (hm : Leads ms) (h : Row ms q X) (hL : 268435456 ≤ L) : ∃ q', f36 L N ⟨ms⟩ q a = some q' ∧ Row ms q' (Slip ms (StepX ms X a)) := by
  obtain ⟨q', b1, b2, b3, b4, b5⟩ := after_ok L N ms q a hm h.1 h.2.1 hL
  exact ⟨q', b1, b2, b3, fun t => (b4 t).trans (Slip.iff (fun t => StepX.iff (fun t => h.2.2.1 t) a t) t), b5⟩
theorem behI (L N : Nat) (ms : List (List Move)) (w : List Int) (hm : Leads ms) (h1 : 1 ≤ ms.length) (hw : w.length ≤ 1048576) (hL : 268435456 ≤ L) : ∃ q, f33 L N ⟨ms⟩ w = some q ∧ Row ms q (BehW ms w) := by
  have hlim := lim_eq
  have hn := hm.1
  show ∃ q, f33.b L N some ⟨ms⟩ w = some q ∧ _
  unfold f33.b f33.b'
  obtain ⟨q0, a1, a2⟩ := first_row L N ms hm h1 hL
  have a1' : f64 L N (Graph.mk (Graph.mk ms).moves) [0] = some q0 := a1
  rw [a1', Option.bind_some]
  have key : ∀ (n i : Nat) (q : List Int) (X : Nat → Prop), i ≤ w.length → w.length - i < n → Row ms q X → ∃ q', f33.l0 L N (fun z6 => f33.p0_e0 L N some z6) n w (w.length : Int) (i : Int) ms q = some q' ∧ Row ms q' (Beh ms X (w.drop i)) := by
    intro n
    induction n with
    | zero => intro i q X _ h; omega
    | succ n ih =>
      intro i q X hi hn' hq
      show ∃ q', f33.s0 L N _ (f33.l0 L N _ n) w (w.length : Int) (i : Int) ms q = some q' ∧ _
      unfold f33.s0 f33.s0'
      by_cases hlt : i < w.length
      · obtain ⟨q2, b1, b2⟩ := after_row L N ms q X w[i] hm hq hL
        simp only [lt_cast hlt, le0, Bool.and_true, cond_true, Int.toNat_natCast, at_lt hlt, b1, Option.bind_some]
        rw [wi_nat (by omega), List.drop_eq_getElem_cons hlt]
        exact ih (i + 1) q2 _ (by omega) (by omega) b2
      · rw [ge_cast hlt, cond_false, List.drop_eq_nil_of_le (by omega)]
        exact ⟨q, rfl, hq⟩
  exact key L 0 q0 _ (by omega) (by omega) a2
end Go.Proofs.YtffkhhblppfbfaaDoor.Ev
namespace Go.Proofs.YtffkhhblppfbfaaDoor.Ev
open Go
set_option linter.unusedVariables false
set_option linter.unusedSimpArgs false
def digL (n : Nat) : List UInt8 := if n < 10 then [UInt8.ofNat (48 + n)] else [UInt8.ofNat (48 + n / 10), UInt8.ofNat (48 + n % 10)]
theorem dig_eq {n : Nat} (h : n < 100) : Lib.decDigits n = digL n := by
  unfold digL
  by_cases h1 : n < 10
  · rw [Lib.decDigits, dif_pos h1, if_pos h1]
  · rw [Lib.decDigits, dif_neg h1, if_neg h1, Lib.decDigits, dif_pos (show n / 10 < 10 by omega)]; rfl
theorem u8_inj {a b : Nat} (ha : a < 256) (hb : b < 256) (h : UInt8.ofNat a = UInt8.ofNat b) : a = b := by
  have := congrArg UInt8.toNat h
  simpa [UInt8.toNat_ofNat', Nat.mod_eq_of_lt ha, Nat.mod_eq_of_lt hb] using this
theorem dig_inj {n m : Nat} (hn : n < 100) (hm : m < 100) {r r' : List UInt8} (h : digL n ++ (32 :: r) = digL m ++ (32 :: r')) : n = m ∧ r = r' := by
  have ne : ∀ {k : Nat}, k < 10 → UInt8.ofNat (48 + k) ≠ 32 := fun {k} hk e => by
    have := u8_inj (a := 48 + k) (b := 32) (by omega) (by omega) e; omega
  unfold digL at h
  by_cases h1 : n < 10 <;> by_cases h2 : m < 10
  · rw [if_pos h1, if_pos h2] at h
    simp only [List.cons_append, List.nil_append, List.cons.injEq, true_and] at h
    have := u8_inj (by omega) (by omega) h.1
    exact ⟨by omega, h.2⟩
  · rw [if_pos h1, if_neg h2] at h
    simp only [List.cons_append, List.nil_append, List.cons.injEq] at h
    exact absurd h.2.1.symm (ne (by omega))
  · rw [if_neg h1, if_pos h2] at h
    simp only [List.cons_append, List.nil_append, List.cons.injEq] at h
    exact absurd h.2.1 (ne (by omega))
  · rw [if_neg h1, if_neg h2] at h
    simp only [List.cons_append, List.nil_append, List.cons.injEq, true_and] at h
    have e1 := u8_inj (by omega) (by omega) h.1
    have e2 := u8_inj (by omega) (by omega) h.2.1
    exact ⟨by omega, h.2.2⟩
def numsL (l : List Int) : List UInt8 := l.flatMap fun n => digL n.toNat ++ [32]
def keyL (l : List Int) : List UInt8 := 91 :: (numsL l ++ [93])
theorem numsL_inj : ∀ {a b : List Int}, (∀ v ∈ a, 0 ≤ v ∧ v < 100) → (∀ v ∈ b, 0 ≤ v ∧ v < 100) → ∀ r r', numsL a ++ (93 :: r) = numsL b ++ (93 :: r') → a = b ∧ r = r'
  | [], [], _, _, r, r', h => ⟨rfl, (List.cons.inj h).2⟩
  | [], y :: b, _, hb, r, r', h => by
    exfalso
    have hy := hb y (.head _)
    have h0 : ∀ {n : Nat}, n < 100 → ∃ d s, digL n = UInt8.ofNat (48 + d) :: s ∧ d < 10 := fun {n} hn => by
      unfold digL; split
      · exact ⟨n, [], rfl, by omega⟩
      · exact ⟨n / 10, _, rfl, by omega⟩
    obtain ⟨d, s, e, hd⟩ := h0 (n := y.toNat) (by omega)
    unfold numsL at h
    rw [List.flatMap_cons, e] at h
    simp only [List.flatMap_nil, List.nil_append, List.cons_append, List.cons.injEq] at h
    have := u8_inj (a := 93) (by omega) (by omega) h.1
    omega
  | x :: a, [], ha, _, r, r', h => by
    exfalso
    have hy := ha x (.head _)
    have h0 : ∀ {n : Nat}, n < 100 → ∃ d s, digL n = UInt8.ofNat (48 + d) :: s ∧ d < 10 := fun {n} hn => by
      unfold digL; split
      · exact ⟨n, [], rfl, by omega⟩
      · exact ⟨n / 10, _, rfl, by omega⟩
    obtain ⟨d, s, e, hd⟩ := h0 (n := x.toNat) (by omega)
    unfold numsL at h
    rw [List.flatMap_cons, e] at h
    simp only [List.flatMap_nil, List.nil_append, List.cons_append, List.cons.injEq] at h
    have := u8_inj (b := 93) (by omega) (by omega) h.1
    omega
  | x :: a, y :: b, ha, hb, r, r', h => by
    have hx := ha x (.head _); have hy := hb y (.head _)
    have h' : digL x.toNat ++ (32 :: (numsL a ++ (93 :: r))) = digL y.toNat ++ (32 :: (numsL b ++ (93 :: r'))) := by
      unfold numsL at h ⊢
      rw [List.flatMap_cons, List.flatMap_cons] at h
      simpa using h
    obtain ⟨e1, e2⟩ := dig_inj (by omega) (by omega) h'
    obtain ⟨e3, e4⟩ := numsL_inj (fun v hv => ha v (.tail _ hv)) (fun v hv => hb v (.tail _ hv)) r r' e2
    exact ⟨by rw [e3, show x = y by omega], e4⟩
theorem keyL_inj {a b : List Int} (ha : ∀ v ∈ a, 0 ≤ v ∧ v < 100) (hb : ∀ v ∈ b, 0 ≤ v ∧ v < 100) {r r' : List UInt8} (h : keyL a ++ r = keyL b ++ r') : a = b ∧ r = r' := by
  unfold keyL at h
  refine numsL_inj ha hb r r' ?_
  have := (List.cons.inj h).2
  simpa using this
end Go.Proofs.YtffkhhblppfbfaaDoor.Ev
namespace Go.Proofs.YtffkhhblppfbfaaDoor.Ev
open Go
set_option linter.unusedVariables false
set_option linter.unusedSimpArgs false
theorem getI {zs : List Int} {i : Nat} (h : i < zs.length) : (zs.toArray)[i]! = zs[i] := by simp [getElem!_pos, h]
theorem sortI_le (xs : List Int) : (sortI xs).Pairwise fun a b => a ≤ b := by
  have h := List.pairwise_mergeSort (le := fun x y : Int => decide (x ≤ y)) (fun a b c h1 h2 => by
    simp only [decide_eq_true_eq] at *; omega) (fun a b => by simp only [Bool.or_eq_true, decide_eq_true_eq]; omega) xs
  exact h.imp fun h => of_decide_eq_true h
theorem compactI_rises {zs : List Int} (hs : zs.Pairwise fun a b => a ≤ b) : Rises (Go.Lib.compact zs) := by
  unfold Rises Go.Lib.compact Go.Lib.compactUpTo
  rw [List.pairwise_map]
  refine List.Pairwise.imp_of_mem ?_ (List.Pairwise.filter _ List.pairwise_lt_range)
  intro i j hi hj hij
  rw [List.mem_filter, List.mem_range] at hi hj
  have hjl := hj.1
  rw [getI hi.1, getI hj.1]
  have hk := hj.2
  unfold Go.Lib.keeps at hk
  have hk := of_decide_eq_true hk
  have hne : zs[j] ≠ zs[j - 1] := by
    rcases hk with h | h
    · omega
    · rwa [getI hj.1, getI (show j - 1 < zs.length by omega)] at h
  have h1 := List.pairwise_iff_getElem.1 hs (j - 1) j (by omega) (by omega) (by omega)
  by_cases e : i = j - 1
  · subst e; omega
  · have h2 := List.pairwise_iff_getElem.1 hs i (j - 1) (by omega) (by omega) (by omega)
    omega
theorem compactI_mem (zs : List Int) (v : Int) : v ∈ Go.Lib.compact zs ↔ v ∈ zs := by
  unfold Go.Lib.compact Go.Lib.compactUpTo
  rw [List.mem_map]
  constructor
  · rintro ⟨i, hi, rfl⟩
    rw [List.mem_filter, List.mem_range] at hi
    rw [getI hi.1]; exact List.getElem_mem hi.1
  · intro hv
    obtain ⟨i, hi, rfl⟩ := List.mem_iff_getElem.1 hv
    clear hv
    induction i with
    | zero => exact ⟨0, by rw [List.mem_filter, List.mem_range]; exact ⟨hi, by simp [Go.Lib.keeps]⟩, getI hi⟩
    | succ i ih =>
      by_cases hk : Go.Lib.keeps zs.toArray (i + 1) = true
      · exact ⟨i + 1, by rw [List.mem_filter, List.mem_range]; exact ⟨hi, hk⟩, getI hi⟩
      · have : zs[i + 1] = zs[i] := by
          unfold Go.Lib.keeps at hk
          have hk : ¬ (i + 1 = 0 ∨ zs.toArray[i + 1]! ≠ zs.toArray[i + 1 - 1]!) := fun h => hk (decide_eq_true h)
          have h2 := Classical.not_not.1 (fun h => hk (.inr h))
          rw [getI hi, Nat.add_sub_cancel, getI (show i < zs.length by omega)] at h2
          exact h2
        rw [this]
        exact ih (by omega)
def seenActs (r : List Move) : List Int := (r.filter fun m => m.act != 0).map Move.act
theorem actsOf_ok (L N : Nat) (ms : List (List Move)) (hm : Leads ms) (q : List Int) (X : Nat → Prop) (hq : Row ms q X) (hL : 268435456 ≤ L) :
    ∃ ac, f27 L N ⟨ms⟩ q = some ac ∧ Rises ac ∧ ac.length ≤ 100000000 ∧ ∀ a, a ∈ ac ↔ a ≠ 0 ∧ ∃ t, StepX ms X a t := by
  have hlim := lim_eq
  have hn := hm.1
  have hql := hq.1
  have hrow : ∀ v ∈ q, ∃ s : Nat, v = (s : Int) ∧ s < ms.length := fun v hv => by
    have := hq.2.1 v hv
    exact ⟨v.toNat, by omega, by omega⟩
  show ∃ ac, f27.b L N some ⟨ms⟩ q = some ac ∧ _
  unfold f27.b f27.b'
  have key : ∀ (n i : Nat) (out : List Int), i ≤ q.length → q.length - i < n → out.length ≤ i * 1048576 →
      ∃ out', f27.l0 L N (fun z5 => f27.p0_e0 L N some z5) n q (q.length : Int) (i : Int) ms out = f27.p0_e0 L N some out' ∧ out'.length ≤ q.length * 1048576 ∧ ∀ a, a ∈ out' ↔ a ∈ out ∨ ∃ v ∈ q.drop i, a ∈ seenActs (ms.getD v.toNat []) := by
    intro n
    induction n with
    | zero => intro i out _ h; omega
    | succ n ih =>
      intro i out hi hn' ho
      show ∃ out', f27.s0 L N _ (f27.l0 L N _ n) q (q.length : Int) (i : Int) ms out = _ ∧ _
      unfold f27.s0 f27.s0'
      by_cases hlt : i < q.length
      · obtain ⟨s, hs, hsl⟩ := hrow _ (List.getElem_mem hlt)
        have hrl := (hm.2 s hsl).1
        have inner : ∀ (n' j : Nat) (o : List Int), j ≤ (ms[s]).length → (ms[s]).length - j < n' → o.length ≤ i * 1048576 + j →
            f27.l1 L N (fun z14 z15 z16 z17 z18 => f27.p1_e2 L N (fun z5 => f27.p0_e0 L N some z5) (f27.l0 L N (fun z5 => f27.p0_e0 L N some z5) n) z14 z15 z16 z17 z18) n' q (q.length : Int) (i : Int) ms[s] ((ms[s]).length : Int) (j : Int) ms o
              = f27.l0 L N (fun z5 => f27.p0_e0 L N some z5) n q (q.length : Int) ((i + 1 : Nat) : Int) ms (o ++ seenActs ((ms[s]).drop j)) := by
          intro n'
          induction n' with
          | zero => intro j o _ h; omega
          | succ n' ih' =>
            intro j o hj hn2 ho'
            show f27.s1 L N _ (f27.l1 L N _ n') q (q.length : Int) (i : Int) ms[s] ((ms[s]).length : Int) (j : Int) ms o = _
            unfold f27.s1 f27.s1'
            by_cases hjl : j < (ms[s]).length
            · have hle : decide (o.length + ([(ms[s])[j].act] : List Int).length ≤ lim) = true := dt (by simp only [List.length_cons, List.length_nil]; omega)
              simp only [lt_cast hjl, le0, Bool.and_true, cond_true, Int.toNat_natCast, at_lt hjl, hle]
              rw [wi_nat (by omega), List.drop_eq_getElem_cons hjl]
              cases hb : ((ms[s])[j].act != 0) with
              | true =>
                rw [cond_true, ih' (j + 1) _ (by omega) (by omega) (by simp; omega)]
                unfold seenActs
                rw [List.filter_cons, if_pos hb, List.map_cons, List.append_assoc]; rfl
              | false =>
                rw [cond_false, ih' (j + 1) _ (by omega) (by omega) (by omega)]
                unfold seenActs
                rw [List.filter_cons, if_neg (by rw [hb]; simp)]
            · rw [ge_cast hjl, cond_false, List.drop_eq_nil_of_le (by omega)]
              show f27.p1_e2 L N _ _ q (q.length : Int) (i : Int) ms o = _
              unfold f27.p1_e2 f27.p1_e2'
              rw [wi_nat (by omega)]
              simp [seenActs]
        have h1 := inner L 0 out (by omega) (by omega) (Nat.le_trans ho (Nat.le_add_right _ _))
        rw [List.drop_zero] at h1
        have hsl' : (seenActs ms[s]).length ≤ 1048576 := by
          unfold seenActs; rw [List.length_map]; exact Nat.le_trans (List.length_filter_le _ _) hrl
        obtain ⟨out', e1, e2, e3⟩ := ih (i + 1) (out ++ seenActs ms[s]) (by omega) (by omega) (by simp; omega)
        refine ⟨out', ?_, e2, fun a => ?_⟩
        · simp only [lt_cast hlt, le0, Bool.and_true, cond_true, Int.toNat_natCast, at_lt hlt, hs, lt_cast hsl, at_lt hsl]
          exact h1.trans e1
        · rw [e3 a, List.mem_append, List.drop_eq_getElem_cons hlt]
          have hgs : ms.getD (q[i]).toNat [] = ms[s] := by rw [hs, Int.toNat_natCast, getD_lt hsl]
          constructor
          · rintro ((h | h) | ⟨v, hv, h⟩)
            · exact .inl h
            · exact .inr ⟨_, .head _, by rw [hgs]; exact h⟩
            · exact .inr ⟨v, .tail _ hv, h⟩
          · rintro (h | ⟨v, hv, h⟩)
            · exact .inl (.inl h)
            · rcases List.mem_cons.1 hv with rfl | hv
              · exact .inl (.inr (by rw [← hgs]; exact h))
              · exact .inr ⟨v, hv, h⟩
      · rw [ge_cast hlt, cond_false]
        refine ⟨out, rfl, by have : i = q.length := by omega
                             subst this; exact ho, fun a => ?_⟩
        rw [List.drop_eq_nil_of_le (by omega)]
        simp
  obtain ⟨out', e1, e2, e3⟩ := key L 0 [] (by omega) (by omega) (Nat.zero_le _)
  rw [List.drop_zero] at e3
  have hol : out'.length ≤ 62914560 := by
    have : q.length * 1048576 ≤ 60 * 1048576 := Nat.mul_le_mul_right _ (by omega)
    omega
  have e1' : f27.l0 L N (fun z5 => f27.p0_e0 L N some z5) L q (q.length : Int) 0 ms [] = f27.p0_e0 L N some out' := e1
  refine ⟨Go.Lib.compact (sortI out'), ?_, compactI_rises (sortI_le _), ?_, fun a => ?_⟩
  · refine e1'.trans ?_
    unfold f27.p0_e0 f27.p0_e0' fsort
    rw [dt (by omega), cond_true, Option.bind_some, sortI_length, dt (by omega), cond_true, Option.bind_some]
  · have := compactI_le (sortI out')
    rw [sortI_length] at this; omega
  · rw [compactI_mem, sortI_mem, e3 a]
    constructor
    · rintro (h | ⟨v, hv, h⟩)
      · cases h
      · obtain ⟨s, rfl, hsl⟩ := hrow v hv
        rw [Int.toNat_natCast, getD_lt hsl] at h
        obtain ⟨m, hmm, rfl⟩ := List.mem_map.1 h
        obtain ⟨h1, h2⟩ := List.mem_filter.1 hmm
        obtain ⟨k, hk, rfl⟩ := List.mem_iff_getElem.1 h1
        obtain ⟨t, ht, _⟩ := hm.nat hsl hk
        exact ⟨by rwa [bne_iff_ne] at h2, t, s, (hq.2.2.1 s).1 hv, hsl, k, hk, rfl, ht⟩
    · rintro ⟨h0, t, s, hs, hsl, k, hk, ha, ht⟩
      refine .inr ⟨(s : Int), (hq.2.2.1 s).2 hs, ?_⟩
      rw [Int.toNat_natCast, getD_lt hsl]
      exact List.mem_map.2 ⟨_, List.mem_filter.2 ⟨List.getElem_mem hk, by rw [bne_iff_ne, ha]; exact h0⟩, ha⟩
def keyB (q : List Int) : ByteArray := ⟨(keyL q).toArray⟩
theorem ba_app (a b : List UInt8) : (⟨a.toArray⟩ : ByteArray) ++ ⟨b.toArray⟩ = ⟨(a ++ b).toArray⟩ := by
  apply ByteArray.ext
  rw [ByteArray.data_append]
  simp
theorem ba_size (a : List UInt8) : (⟨a.toArray⟩ : ByteArray).size = a.length := by
  show a.toArray.size = _
  simp
theorem digL_len (n : Nat) : (digL n).length ≤ 2 := by unfold digL; split <;> simp
theorem setKey_ok (L N : Nat) (q : List Int) (hq : q.length ≤ 60) (hr : ∀ v ∈ q, 0 ≤ v ∧ v < 60) (hL : 100 < L) : f34 L N q = some (keyB q) := by
  show f34.b L N some q = _
  unfold f34.b f34.b'
  have key : ∀ (n i : Nat) (s : List UInt8), i ≤ q.length → q.length - i < n → s.length ≤ 10 + 4 * i →
      f34.l0 L N (fun z4 => f34.p0_e0 L N some z4) n ⟨s.toArray⟩ q (q.length : Int) (i : Int) = some ⟨(s ++ (numsL (q.drop i) ++ [93])).toArray⟩ := by
    intro n
    induction n with
    | zero => intro i s _ h; omega
    | succ n ih =>
      intro i s hi hn hs
      show f34.s0 L N _ (f34.l0 L N _ n) ⟨s.toArray⟩ q (q.length : Int) (i : Int) = _
      unfold f34.s0 f34.s0'
      by_cases hlt : i < q.length
      · have hv := hr _ (List.getElem_mem hlt)
        have hf : fitoa q[i] = some ⟨(digL (q[i]).toNat).toArray⟩ := by
          unfold fitoa itoaB
          rw [dt (show (0 : Int) ≤ q[i] by omega), dt (show q[i] < 100 by omega), dig_eq (by omega)]; rfl
        have h32 : (ByteArray.mk #[32]) = ⟨([32] : List UInt8).toArray⟩ := rfl
        have hd := digL_len (q[i]).toNat
        simp only [lt_cast hlt, le0, Bool.and_true, cond_true, Int.toNat_natCast, at_lt hlt, hf, Option.bind_some, h32, ba_app, ba_size]
        rw [dt (by simp; omega), dt (by simp; omega), cond_true, cond_true, wi_nat (by omega), ih (i + 1) _ (by omega) (by omega) (by simp; omega), List.drop_eq_getElem_cons hlt]
        congr 3
        unfold numsL
        rw [List.flatMap_cons]
        simp
      · rw [ge_cast hlt, cond_false, List.drop_eq_nil_of_le (by omega)]
        show f34.p0_e0 L N some ⟨s.toArray⟩ = _
        unfold f34.p0_e0 f34.p0_e0'
        have h93 : (ByteArray.mk #[93]) = ⟨([93] : List UInt8).toArray⟩ := rfl
        rw [h93, ba_app, ba_size, ba_size, dt (by simp; omega), cond_true]
        rfl
  have := key L 0 [91] (by omega) (by omega) (by simp)
  rw [List.drop_zero] at this
  exact this
theorem keyB_inj {a b : List Int} (ha : ∀ v ∈ a, 0 ≤ v ∧ v < 60) (hb : ∀ v ∈ b, 0 ≤ v ∧ v < 60) (h : keyB a = keyB b) : a = b := by
  have h1 : (keyL a).toArray = (keyL b).toArray := congrArg ByteArray.data h
  have h2 : keyL a = keyL b := by simpa using h1
  exact (keyL_inj (r := []) (r' := []) (fun v hv => by have := ha v hv; omega) (fun v hv => by have := hb v hv; omega) (by rw [h2])).1
theorem keyEq_str (x y : ByteArray) : keyEq .str x y = decide (x = y) := by
  show (x == y) = _
  rw [Bool.eq_iff_iff, decide_eq_true_eq]
  obtain ⟨a⟩ := x
  obtain ⟨b⟩ := y
  show (a == b) = true ↔ _
  rw [beq_iff_eq]
  exact ⟨fun h => by rw [h], fun h => congrArg ByteArray.data h⟩
theorem mapFind_put (x y : ByteArray) (v : Int) : ∀ es : List (ByteArray × Int), mapFind .str i64 x (mapPut .str i64 y v es) = if y = x then some v else mapFind .str i64 x es
  | [] => by
    show (bif keyEq .str x y then some v else none) = _
    by_cases e : y = x
    · subst e
      rw [show keyEq .str y y = true from by rw [keyEq_str]; exact dt rfl, cond_true, if_pos rfl]
    · rw [show keyEq .str x y = false from by rw [keyEq_str]; exact df fun h => e h.symm, cond_false, if_neg e]; rfl
  | (k, u) :: r => by
    have ih := mapFind_put x y v r
    by_cases e : y = k
    · subst e
      have h1 : mapPut .str i64 y v ((y, u) :: r) = (y, v) :: r := by
        show (bif keyEq .str y y then (y, v) :: r else _) = _
        rw [show keyEq .str y y = true from by rw [keyEq_str]; exact dt rfl, cond_true]
      rw [h1]
      show (bif keyEq .str x y then some v else mapFind .str i64 x r) = if y = x then some v else (bif keyEq .str x y then some u else mapFind .str i64 x r)
      by_cases e2 : y = x
      · subst e2
        rw [show keyEq .str y y = true from by rw [keyEq_str]; exact dt rfl, cond_true, if_pos rfl]
      · rw [show keyEq .str x y = false from by rw [keyEq_str]; exact df fun h => e2 h.symm, cond_false, cond_false, if_neg e2]
    · have h1 : mapPut .str i64 y v ((k, u) :: r) = (k, u) :: mapPut .str i64 y v r := by
        show (bif keyEq .str y k then _ else (k, u) :: mapPut .str i64 y v r) = _
        rw [show keyEq .str y k = false from by rw [keyEq_str]; exact df e, cond_false]
      rw [h1]
      show (bif keyEq .str x k then some u else mapFind .str i64 x (mapPut .str i64 y v r)) = if y = x then some v else (bif keyEq .str x k then some u else mapFind .str i64 x r)
      by_cases e2 : x = k
      · subst e2
        rw [show keyEq .str x x = true from by rw [keyEq_str]; exact dt rfl, cond_true, cond_true, if_neg e]
      · rw [show keyEq .str x k = false from by rw [keyEq_str]; exact df e2, cond_false, cond_false, ih]
def Places (S : List (List Int)) (es : List (ByteArray × Int)) : Prop := ∀ x : List Int, (∀ v ∈ x, 0 ≤ v ∧ v < 60) → mapFind .str i64 (keyB x) es = if x ∈ S then some ((S.idxOf x : Nat) : Int) else none
theorem Places.add {S : List (List Int)} {es : List (ByteArray × Int)} (h : Places S es) {y : List Int} (hy : ∀ v ∈ y, 0 ≤ v ∧ v < 60) (hn : y ∉ S) : Places (S ++ [y]) (mapPut .str i64 (keyB y) ((S.length : Nat) : Int) es) := by
  intro x hx
  rw [mapFind_put]
  by_cases e : y = x
  · subst e
    rw [if_pos rfl, if_pos (by simp), List.idxOf_append, if_neg hn]
    simp
  · rw [if_neg (fun h => e (keyB_inj hy hx h)), h x hx]
    by_cases hm : x ∈ S
    · rw [if_pos hm, if_pos (List.mem_append_left _ hm), List.idxOf_append, if_pos hm]
    · rw [if_neg hm, if_neg (by simp [hm]; exact fun h => e h.symm)]
theorem Places.nil : Places [] [] := fun x _ => by rw [if_neg (by simp)]; rfl
end Go.Proofs.YtffkhhblppfbfaaDoor.Ev
namespace Go.Proofs.YtffkhhblppfbfaaDoor.Ev
open Go
set_option linter.unusedVariables false
set_option linter.unusedSimpArgs false
def stepA (A : Int → List Int) : List Int → List (List Int) → List Move → Option (List (List Int) × List Move)
  | [], S, M => some (S, M)
  | a :: ac, S, M => if A a ∉ S ∧ S.length = 60 then none else stepA A ac (if A a ∈ S then S else S ++ [A a]) (M ++ [⟨a, ((S.idxOf (A a) : Nat) : Int)⟩])
theorem stepA_grow (A : Int → List Int) : ∀ (ac : List Int) (S : List (List Int)) (M : List Move) (S' : List (List Int)) (M' : List Move), stepA A ac S M = some (S', M') →
    (∃ T, S' = S ++ T) ∧ M'.map Move.act = M.map Move.act ++ ac ∧ (S.length ≤ 60 → S'.length ≤ 60) ∧ (S.length ≤ 60 → (∀ m ∈ M, 0 ≤ m.to ∧ m.to < 60) → ∀ m ∈ M', 0 ≤ m.to ∧ m.to < 60) ∧ (∀ x ∈ S', x ∈ S ∨ ∃ a ∈ ac, x = A a)
  | [], S, M, S', M', h => by
    obtain ⟨rfl, rfl⟩ := Prod.mk.inj (Option.some.inj h)
    exact ⟨⟨[], by simp⟩, by simp, fun h => h, fun _ h => h, fun x hx => .inl hx⟩
  | a :: ac, S, M, S', M', h => by
    unfold stepA at h
    split at h
    · cases h
    · rename_i hc
      obtain ⟨⟨T, e1⟩, e2, e3, e4, e5⟩ := stepA_grow A ac _ _ S' M' h
      have hidx : S.length ≤ 60 → S.idxOf (A a) < 60 := fun h60 => by
        by_cases hm : A a ∈ S
        · have := List.idxOf_lt_length_of_mem hm; omega
        · have h1 : S.length ≠ 60 := fun e => hc ⟨hm, e⟩
          have := List.idxOf_le_length (a := A a) (l := S)
          omega
      by_cases hm : A a ∈ S
      · rw [if_pos hm] at e1 e3 e4 e5
        refine ⟨⟨T, e1⟩, by rw [e2]; simp, e3, fun h60 hM => e4 h60 fun m hmm => ?_, fun x hx => ?_⟩
        · rcases List.mem_append.1 hmm with q | q
          · exact hM m q
          · obtain rfl := List.mem_singleton.1 q
            have := hidx h60
            exact ⟨by show (0 : Int) ≤ ((S.idxOf (A a) : Nat) : Int); omega, by show ((S.idxOf (A a) : Nat) : Int) < 60; omega⟩
        · rcases e5 x hx with q | ⟨b, hb, q⟩
          · exact .inl q
          · exact .inr ⟨b, .tail _ hb, q⟩
      · rw [if_neg hm] at e1 e3 e4 e5
        have hl : (S ++ [A a]).length = S.length + 1 := by simp
        have hne : S.length ≠ 60 := fun e => hc ⟨hm, e⟩
        refine ⟨⟨[A a] ++ T, by rw [e1, List.append_assoc]⟩, by rw [e2]; simp, fun h60 => e3 (by omega), fun h60 hM => e4 (by omega) fun m hmm => ?_, fun x hx => ?_⟩
        · rcases List.mem_append.1 hmm with q | q
          · exact hM m q
          · obtain rfl := List.mem_singleton.1 q
            have := hidx h60
            exact ⟨by show (0 : Int) ≤ ((S.idxOf (A a) : Nat) : Int); omega, by show ((S.idxOf (A a) : Nat) : Int) < 60; omega⟩
        · rcases e5 x hx with q | ⟨b, hb, q⟩
          · rcases List.mem_append.1 q with q | q
            · exact .inl q
            · exact .inr ⟨a, .head _, List.mem_singleton.1 q⟩
          · exact .inr ⟨b, .tail _ hb, q⟩
theorem rises_risesM {M : List Move} (h : Rises (M.map Move.act)) : RisesM M := by
  unfold Rises at h
  rw [List.pairwise_map] at h
  exact h.imp fun {a b} hab => by unfold lessM; simp only [decide_eq_true_eq]; omega
theorem tidyM_self {M : List Move} (h : RisesM M) : tidyM M = M := risesM_ext (tidyM_rises M) h fun x => tidyM_mem M x
theorem from_step {ac : List Int} (hr : Rises ac) (a : Int) : ac.filter (fun b => decide (a ≤ b)) = (if a ∈ ac then [a] else []) ++ ac.filter (fun b => decide (a + 1 ≤ b)) := by
  have h1 : ∀ q : Int → Bool, Rises (ac.filter q) := fun q => List.Pairwise.filter _ hr
  refine rises_ext (h1 _) ?_ fun x => ?_
  · by_cases hm : a ∈ ac
    · rw [if_pos hm]
      refine List.pairwise_cons.2 ⟨fun b hb => ?_, h1 _⟩
      have := (List.mem_filter.1 hb).2
      simp only [decide_eq_true_eq] at this; omega
    · rw [if_neg hm]; exact h1 _
  · rw [List.mem_append, List.mem_filter, List.mem_filter, decide_eq_true_eq, decide_eq_true_eq]
    by_cases hm : a ∈ ac
    · rw [if_pos hm, List.mem_singleton]
      constructor
      · rintro ⟨h2, h3⟩
        by_cases e : x = a
        · exact .inl e
        · exact .inr ⟨h2, by omega⟩
      · rintro (rfl | ⟨h2, h3⟩)
        · exact ⟨hm, Int.le_refl _⟩
        · exact ⟨h2, by omega⟩
    · rw [if_neg hm]
      constructor
      · rintro ⟨h2, h3⟩
        have e : x ≠ a := fun e => hm (by rw [← e]; exact h2)
        exact .inr ⟨h2, by omega⟩
      · rintro (h | ⟨h2, h3⟩)
        · cases h
        · exact ⟨h2, by omega⟩
def listB (b : List Bool) : List Int := ((List.range b.length).filter fun t => b.getD t false).map Int.ofNat
theorem listB_mem (b : List Bool) (x : Int) : x ∈ listB b ↔ ∃ t : Nat, x = (t : Int) ∧ Tr b t := by
  unfold listB
  rw [List.mem_map]
  constructor
  · rintro ⟨t, ht, rfl⟩
    exact ⟨t, rfl, (List.mem_filter.1 ht).2⟩
  · rintro ⟨t, rfl, ht⟩
    exact ⟨t, List.mem_filter.2 ⟨List.mem_range.2 (Tr_lt ht), ht⟩, rfl⟩
theorem listB_rises (b : List Bool) : Rises (listB b) := by
  unfold listB Rises
  rw [List.pairwise_map]
  exact (List.Pairwise.filter _ List.pairwise_lt_range).imp fun h => by simp; omega
theorem listB_row {ms : List (List Move)} {b : List Bool} {X : Nat → Prop} (hb : b.length = ms.length) (h : ∀ t, Tr b t ↔ X t) : Row ms (listB b) X := by
  refine ⟨?_, fun v hv => ?_, fun t => ?_, listB_rises b⟩
  · unfold listB
    rw [List.length_map, ← hb]
    exact Nat.le_trans (List.length_filter_le _ _) (by simp)
  · obtain ⟨t, rfl, ht⟩ := (listB_mem b v).1 hv
    have := Tr_lt ht; omega
  · rw [listB_mem]
    constructor
    · rintro ⟨u, e, hu⟩
      obtain rfl : t = u := by omega
      exact (h t).1 hu
    · intro hx; exact ⟨t, rfl, (h t).2 hx⟩
theorem list8_is (L N : Nat) (b : List Bool) (hb : b.length ≤ 1048576) (hL : 1048576 < L) : f49 L N b = some (listB b) := by
  obtain ⟨q, e1, e2, e3, -⟩ := list8_ok L N b hb hL
  rw [e1, rises_ext e3 (listB_rises b) fun x => (e2 x).trans (listB_mem b x).symm]
theorem any8_ok (L N : Nat) (b : List Bool) (hb : b.length ≤ 1048576) (hL : 1048576 < L) : ∃ r, f20 L N b = some r ∧ (r = true ↔ ∃ t, Tr b t) := by
  show ∃ r, f20.b L N some b = some r ∧ _
  unfold f20.b f20.b'
  have key : ∀ (n i : Nat), i ≤ b.length → b.length - i < n → (∀ t, t < i → ¬ Tr b t) → ∃ r, f20.l0 L N (f20.p0_e0 L N some) (fun z2 => f20.p0_r L N some z2) n b (i : Int) = some r ∧ (r = true ↔ ∃ t, Tr b t) := by
    intro n
    induction n with
    | zero => intro i _ h; omega
    | succ n ih =>
      intro i hi hn hno
      show ∃ r, f20.s0 L N _ _ (f20.l0 L N _ _ n) b (i : Int) = some r ∧ _
      unfold f20.s0 f20.s0'
      by_cases hlt : i < b.length
      · simp only [lt_cast hlt, le0, cond_true, Bool.and_true, Int.toNat_natCast, atD]
        cases hc : b.getD i false with
        | true => rw [cond_true]; exact ⟨true, rfl, fun _ => ⟨i, hc⟩, fun _ => rfl⟩
        | false =>
          rw [cond_false, wi_nat (by omega)]
          refine ih (i + 1) (by omega) (by omega) fun t ht h => ?_
          by_cases e : t = i
          · subst e; unfold Tr at h; rw [hc] at h; cases h
          · exact hno t (by omega) h
      · rw [ge_cast hlt, cond_false]
        exact ⟨false, rfl, fun h => (by cases h), fun ⟨t, ht⟩ => absurd ht (hno t (by have := Tr_lt ht; omega))⟩
  exact key L 0 (by omega) (by omega) fun t h => by omega
theorem find8_ok (L N : Nat) (sets : List (List Bool)) (b : List Bool) (hs : ∀ s ∈ sets, s.length ≤ 1048576) (hb : b.length ≤ 1048576) (hl : sets.length ≤ 1048576) (hL : 1048576 < L) : f21 L N sets b = some (((sets.map listB).idxOf (listB b) : Nat) : Int) := by
  show f21.b L N some sets b = _
  unfold f21.b f21.b'
  have key : ∀ (n i : Nat), i ≤ sets.length → sets.length - i < n → f21.l0 L N (fun z3 => f21.p0_e0 L N some z3) (fun z7 z8 => f21.p0_r L N some z7 z8) n sets b (i : Int) = some (((i + ((sets.drop i).map listB).idxOf (listB b)) : Nat) : Int) := by
    intro n
    induction n with
    | zero => intro i _ h; omega
    | succ n ih =>
      intro i hi hn
      show f21.s0 L N _ _ (f21.l0 L N _ _ n) sets b (i : Int) = _
      unfold f21.s0 f21.s0'
      by_cases hlt : i < sets.length
      · have h1 := list8_is L N sets[i] (hs _ (List.getElem_mem hlt)) hL
        have h2 := list8_is L N b hb hL
        have hlen : (listB sets[i]).length ≤ 1048576 := by
          unfold listB
          rw [List.length_map]
          exact Nat.le_trans (List.length_filter_le _ _) (by simpa using hs _ (List.getElem_mem hlt))
        obtain ⟨r, e1, e2⟩ := l4Same_ok L N (listB sets[i]) (listB b) (by omega) hlen
        simp only [lt_cast hlt, le0, cond_true, Bool.and_true, Int.toNat_natCast, at_lt hlt, h1, h2, Option.bind_some, e1]
        rw [List.drop_eq_getElem_cons hlt, List.map_cons, List.idxOf_cons]
        cases hr : r with
        | true =>
          have he := e2.1 hr
          rw [cond_true, he, beq_self_eq_true, cond_true]
          rfl
        | false =>
          have he : ¬ listB sets[i] = listB b := fun h => by rw [e2.2 h] at hr; cases hr
          rw [cond_false, wi_nat (by omega), ih (i + 1) (by omega) (by omega), beq_eq_false_iff_ne.2 he, cond_false]
          congr 2
          omega
      · rw [ge_cast hlt, cond_false, List.drop_eq_nil_of_le (by omega)]
        show some ((sets.length : Nat) : Int) = _
        simp; omega
  have := key L 0 (by omega) (by omega)
  rw [List.drop_zero, Nat.zero_add] at this
  exact this
end Go.Proofs.YtffkhhblppfbfaaDoor.Ev
namespace Go.Proofs.YtffkhhblppfbfaaDoor.Ev
open Go
set_option linter.unusedVariables false
set_option linter.unusedSimpArgs false
theorem idx_not {α : Type} [BEq α] [LawfulBEq α] {a : α} : ∀ {l : List α}, a ∉ l → l.idxOf a = l.length
  | [], _ => rfl
  | b :: l, h => by
    have hne : (b == a) = false := beq_eq_false_iff_ne.2 fun e => h (by rw [e]; exact .head _)
    rw [List.idxOf_cons, hne, cond_false, idx_not fun hm => h (.tail _ hm)]; rfl
def Fits (ms : List (List Move)) (q : List Int) : Prop := Row ms q fun t => (t : Int) ∈ q
theorem Row.fits {ms : List (List Move)} {q : List Int} {X : Nat → Prop} (h : Row ms q X) : Fits ms q := ⟨h.1, h.2.1, fun _ => Iff.rfl, h.2.2.2⟩
theorem Fits.key {ms : List (List Move)} (hm : Leads ms) {q : List Int} (h : Fits ms q) : q.length ≤ 60 ∧ ∀ v ∈ q, 0 ≤ v ∧ v < 60 := by
  have hn := hm.1
  have h1 := h.1
  exact ⟨by omega, fun v hv => by have := h.2.1 v hv; omega⟩
section
variable (L N : Nat) (ms : List (List Move))
def aftA (q : List Int) (a : Int) : List Int := (f36 L N ⟨ms⟩ q a).getD []
theorem aftA_ok (hm : Leads ms) (hL : 8589934592 ≤ L) (q : List Int) (hq : Fits ms q) (a : Int) : f36 L N ⟨ms⟩ q a = some (aftA L N ms q a) ∧ Row ms (aftA L N ms q a) (Slip ms (StepX ms (fun t => (t : Int) ∈ q) a)) := by
  obtain ⟨q', e, h⟩ := after_row L N ms q _ a hm hq (by omega)
  unfold aftA
  rw [e]
  exact ⟨rfl, h⟩
theorem aftA_some (hm : Leads ms) (hL : 8589934592 ≤ L) (q : List Int) (hq : Fits ms q) (a : Int) : aftA L N ms q a ≠ [] ↔ ∃ t, StepX ms (fun t => (t : Int) ∈ q) a t := by
  obtain ⟨-, h⟩ := aftA_ok L N ms hm hL q hq a
  rw [← List.length_pos_iff, h.some]
  exact ⟨fun ⟨t, ht⟩ => slip_some ht, fun ⟨t, ht⟩ => ⟨t, .base t ht⟩⟩
theorem moves1_ok (hm : Leads ms) (hact : ∀ (i : Nat) (hi : i < ms.length), ∀ m ∈ ms[i], -4 ≤ m.act ∧ m.act ≤ 4) (hL : 8589934592 ≤ L) (q : List Int) (hq : Fits ms q) :
    ∃ ac, f35_1 L N q ms = some (ac, ac.map (aftA L N ms q), true) ∧ Rises ac ∧ ac.length ≤ 100000000 ∧ (∀ a, a ∈ ac ↔ a ≠ 0 ∧ aftA L N ms q a ≠ []) ∧ ∀ a ∈ ac, -4 ≤ a ∧ a ≤ 4 := by
  have hlim := lim_eq
  obtain ⟨ac, e1, e2, e3, e4⟩ := actsOf_ok L N ms hm q _ hq (by omega)
  refine ⟨ac, ?_, e2, e3, fun a => (e4 a).trans (and_congr Iff.rfl (aftA_some L N ms hm hL q hq a).symm), fun a ha => ?_⟩
  · show f35_1.b L N (fun a0 a1 a2 => some (a0, a1, a2)) q ms = _
    unfold f35_1.b f35_1.b'
    rw [e1, Option.bind_some]
    have key : ∀ (n j : Nat) (out : List (List Int)), j ≤ ac.length → ac.length - j < n → out.length ≤ j →
        f35_1.l0 L N (fun z8 z9 => f35_1.p0_e0 L N (fun a0 a1 a2 => some (a0, a1, a2)) z8 z9) n q ms ac ac (ac.length : Int) (j : Int) out = some (ac, out ++ (ac.drop j).map (aftA L N ms q), true) := by
      intro n
      induction n with
      | zero => intro j out _ h; omega
      | succ n ih =>
        intro j out hj hn ho
        show f35_1.s0 L N _ (f35_1.l0 L N _ n) q ms ac ac (ac.length : Int) (j : Int) out = _
        unfold f35_1.s0 f35_1.s0'
        by_cases hlt : j < ac.length
        · have ha := (aftA_ok L N ms hm hL q hq ac[j]).1
          have hle : decide (out.length + ([aftA L N ms q ac[j]] : List (List Int)).length ≤ lim) = true := dt (by simp only [List.length_cons, List.length_nil]; omega)
          simp only [lt_cast hlt, le0, Bool.and_true, cond_true, Int.toNat_natCast, at_lt hlt, ha, Option.bind_some, hle]
          rw [wi_nat (by omega), ih (j + 1) _ (by omega) (by omega) (by simp; omega), List.drop_eq_getElem_cons hlt, List.map_cons, List.append_assoc]; rfl
        · rw [ge_cast hlt, cond_false, List.drop_eq_nil_of_le (by omega)]
          show some (ac, out, true) = _
          rw [List.map_nil, List.append_nil]
    have := key L 0 [] (by omega) (by omega) (by simp)
    rw [List.drop_zero, List.nil_append] at this
    exact this
  · obtain ⟨h0, t, s, hs, hsl, k, hk, rfl, ht⟩ := (e4 a).1 ha
    exact hact s hsl _ (List.getElem_mem hk)
theorem inI {R : Type} (hm : Leads ms) (hL : 8589934592 ≤ L) (K2 : List (List Move) → Int → List (List Int) → List (ByteArray × Int) → List Move → List (List Move) → List (List Move) → Option R) (Kr : List (List Move) → Bool → Int → List (List Int) → List (ByteArray × Int) → List Move → List (List Move) → List (List Move) → Option R)
    (k : Int) (ac : List Int) (hac : ac.length ≤ 100000000) (A : Int → List Int) (hv : ∀ a, (A a).length ≤ 60 ∧ ∀ v ∈ A a, 0 ≤ v ∧ v < 60) (r1 r2 : List (List Move)) :
    ∀ (n j : Nat) (S : List (List Int)) (es : List (ByteArray × Int)) (M : List Move), j ≤ ac.length → ac.length - j < n → Places S es → S.length ≤ 60 → M.length ≤ j →
      match stepA A (ac.drop j) S M with
      | some (S', M') => ∃ es', Places S' es' ∧ f32_1.l1 L N K2 Kr n ms k ac (ac.map A) ((ac.map A).length : Int) (j : Int) S es M r1 r2 = K2 ms k S' es' M' r1 r2
      | none => ∃ S' es' M', f32_1.l1 L N K2 Kr n ms k ac (ac.map A) ((ac.map A).length : Int) (j : Int) S es M r1 r2 = Kr ms false k S' es' M' r1 r2 := by
  have hlim := lim_eq
  intro n
  induction n with
  | zero => intro j S es M _ h; omega
  | succ n ih =>
    intro j S es M hj hn hp hS hM
    have hu : f32_1.l1 L N K2 Kr (n + 1) ms k ac (ac.map A) ((ac.map A).length : Int) (j : Int) S es M r1 r2 = f32_1.s1 L N K2 Kr (f32_1.l1 L N K2 Kr n) ms k ac (ac.map A) ((ac.map A).length : Int) (j : Int) S es M r1 r2 := rfl
    rw [hu]
    unfold f32_1.s1 f32_1.s1'
    by_cases hlt : j < ac.length
    · have hlm : j < (ac.map A).length := by rw [List.length_map]; exact hlt
      have hat : (ac.map A)[j] = A ac[j] := by rw [List.getElem_map]
      have hkey := setKey_ok L N (A ac[j]) (hv _).1 (hv _).2 (by omega)
      have hf := hp (A ac[j]) (hv _).2
      have hle : decide (M.length + ([(⟨ac[j], ((S.idxOf (A ac[j]) : Nat) : Int)⟩ : Move)] : List Move).length ≤ lim) = true := dt (by simp only [List.length_cons, List.length_nil]; omega)
      rw [List.drop_eq_getElem_cons hlt]
      unfold stepA
      by_cases hmem : A ac[j] ∈ S
      · rw [if_pos hmem] at hf
        simp only [lt_cast hlm, le0, Bool.and_true, cond_true, Int.toNat_natCast, at_lt hlm, hat, hkey, Option.bind_some, hf]
        rw [if_neg (fun h => h.1 hmem), if_pos hmem, Option.isSome_some, Bool.not_true, cond_false]
        unfold f32_1.j0'
        simp only [lt_cast hlt, le0, Bool.and_true, cond_true, Int.toNat_natCast, at_lt hlt, Option.getD_some, hle]
        rw [wi_nat (by omega)]
        exact ih (j + 1) S es _ (by omega) (by omega) hp hS (by simp; omega)
      · have hidx := idx_not hmem
        rw [if_neg hmem] at hf
        simp only [lt_cast hlm, le0, Bool.and_true, cond_true, Int.toNat_natCast, at_lt hlm, hat, hkey, Option.bind_some, hf]
        rw [Option.isSome_none, Bool.not_false, cond_true]
        by_cases h60 : S.length = 60
        · have hb : ((S.length : Int) == 60) = true := beq_iff_eq.2 (by omega)
          rw [if_pos ⟨hmem, h60⟩, hb, cond_true]
          exact ⟨_, _, _, rfl⟩
        · have hb : ((S.length : Int) == 60) = false := beq_eq_false_iff_ne.2 (by omega)
          have hl2 : decide (S.length + ([A ac[j]] : List (List Int)).length ≤ lim) = true := dt (by simp only [List.length_cons, List.length_nil]; omega)
          rw [if_neg (fun h => h60 h.2), if_neg hmem, hb, cond_false, hl2, cond_true]
          unfold f32_1.j0'
          rw [hidx] at hle ⊢
          simp only [lt_cast hlt, le0, Bool.and_true, cond_true, Int.toNat_natCast, at_lt hlt, hle]
          rw [wi_nat (by omega)]
          exact ih (j + 1) _ _ _ (by omega) (by omega) (hp.add (hv _).2 hmem) (by simp; omega) (by simp; omega)
    · have hlm : ¬ j < (ac.map A).length := by rw [List.length_map]; exact hlt
      rw [ge_cast hlm, cond_false, List.drop_eq_nil_of_le (by omega)]
      exact ⟨es, hp, rfl⟩
theorem inS {R : Type} (hm : Leads ms) (hL : 8589934592 ≤ L) (K2 : Int → List (List Move) → List (List Bool) → List Move → List (List Move) → Option R) (Kr : Bool → Int → List (List Move) → List (List Bool) → List Move → List (List Move) → Option R)
    (k : Nat) (q : List Int) (hq : Fits ms q) (ac : List Int) (hr : Rises ac) (hac : ∀ a, a ∈ ac ↔ a ≠ 0 ∧ aftA L N ms q a ≠ []) (h4 : ∀ a ∈ ac, -4 ≤ a ∧ a ≤ 4) (rows : List (List Move)) :
    ∀ (d n : Nat) (sets : List (List Bool)) (M : List Move), d ≤ 9 → d < n → (sets.map listB)[k]? = some q → (∀ s ∈ sets, s.length = ms.length) → sets.length ≤ 60 → M.length + d ≤ 9 →
      match stepA (aftA L N ms q) (ac.filter fun b => decide ((5 : Int) - (d : Int) ≤ b)) (sets.map listB) M with
      | some (S', M') => ∃ sets', sets'.map listB = S' ∧ (∀ s ∈ sets', s.length = ms.length) ∧ f10.l1 L N K2 Kr n (k : Int) ((5 : Int) - (d : Int)) ms sets M rows = K2 (k : Int) ms sets' M' rows
      | none => ∃ sets' M', f10.l1 L N K2 Kr n (k : Int) ((5 : Int) - (d : Int)) ms sets M rows = Kr false (k : Int) ms sets' M' rows := by
  have hlim := lim_eq
  have hn := hm.1
  intro d
  induction d with
  | zero =>
    intro n sets M _ hn0 hk hs hl _
    obtain ⟨n, rfl⟩ : ∃ n', n = n' + 1 := ⟨n - 1, by omega⟩
    have hnil : (ac.filter fun b => decide ((5 : Int) - ((0 : Nat) : Int) ≤ b)) = [] := by
      rw [List.filter_eq_nil_iff]
      intro b hb
      have := h4 b hb
      simp only [decide_eq_true_eq]; omega
    rw [hnil]
    refine ⟨sets, rfl, hs, ?_⟩
    show f10.s1 L N K2 Kr (f10.l1 L N K2 Kr n) (k : Int) ((5 : Int) - ((0 : Nat) : Int)) ms sets M rows = _
    unfold f10.s1 f10.s1'
    rw [df (by omega), cond_false]
  | succ d ih =>
    intro n sets M hd9 hnd hk hs hl hM
    obtain ⟨n, rfl⟩ : ∃ n', n = n' + 1 := ⟨n - 1, by omega⟩
    have hu : f10.l1 L N K2 Kr (n + 1) (k : Int) ((5 : Int) - ((d + 1 : Nat) : Int)) ms sets M rows = f10.s1 L N K2 Kr (f10.l1 L N K2 Kr n) (k : Int) ((5 : Int) - ((d + 1 : Nat) : Int)) ms sets M rows := rfl
    rw [hu]
    generalize ha : (5 : Int) - ((d + 1 : Nat) : Int) = a
    have ha1 : a + 1 = (5 : Int) - (d : Int) := by omega
    have hwi : wi (a + 1) = (5 : Int) - (d : Int) := by rw [wi_id (by omega) (by omega)]; exact ha1
    have hkl : k < sets.length := by
      rcases Nat.lt_or_ge k sets.length with h | h
      · exact h
      · rw [List.getElem?_eq_none (by rw [List.length_map]; exact h)] at hk; cases hk
    have hkq : listB sets[k] = q := by
      rw [List.getElem?_map, List.getElem?_eq_getElem hkl] at hk
      exact Option.some.inj hk
    have hskl := hs _ (List.getElem_mem hkl)
    obtain ⟨out, o1, o2, o3⟩ := do8_ok L N ms sets[k] a hm hskl (by omega)
    have hrow := listB_row o2 o3
    have hx : ∀ t, Tr sets[k] t ↔ (t : Int) ∈ q := fun t => by
      rw [← hkq, listB_mem]
      exact ⟨fun h => ⟨t, rfl, h⟩, fun ⟨u, e, h⟩ => (show u = t by omega) ▸ h⟩
    have hA := (aftA_ok L N ms hm hL q hq a).2
    have hout : listB out = aftA L N ms q a := by
      refine Row.uniq (X := Slip ms (StepX ms (fun t => (t : Int) ∈ q) a)) ⟨hrow.1, hrow.2.1, fun t => (hrow.2.2.1 t).trans (Slip.iff (fun t => StepX.iff hx a t) t), hrow.2.2.2⟩ hA
    obtain ⟨r, r1, r2⟩ := any8_ok L N out (by omega) (by omega)
    have hra : r = true ↔ aftA L N ms q a ≠ [] := by
      rw [r2, ← hout]
      constructor
      · rintro ⟨t, ht⟩ e
        have := (listB_mem out (t : Int)).2 ⟨t, rfl, ht⟩
        rw [e] at this; cases this
      · intro h
        obtain ⟨v, hv⟩ := List.exists_mem_of_ne_nil _ h
        obtain ⟨t, -, ht⟩ := (listB_mem out v).1 hv
        exact ⟨t, ht⟩
    rw [from_step hr a]
    unfold f10.s1 f10.s1'
    simp only [dt (show a ≤ 4 by omega), lt_cast hkl, le0, Bool.and_true, cond_true, Int.toNat_natCast, at_lt hkl, o1, Option.bind_some]
    rw [hwi]
    have skip : a ∉ ac → match stepA (aftA L N ms q) ((if a ∈ ac then [a] else []) ++ ac.filter fun b => decide (a + 1 ≤ b)) (sets.map listB) M with
      | some (S', M') => ∃ sets', sets'.map listB = S' ∧ (∀ s ∈ sets', s.length = ms.length) ∧ f10.l1 L N K2 Kr n (k : Int) ((5 : Int) - (d : Int)) ms sets M rows = K2 (k : Int) ms sets' M' rows
      | none => ∃ sets' M', f10.l1 L N K2 Kr n (k : Int) ((5 : Int) - (d : Int)) ms sets M rows = Kr false (k : Int) ms sets' M' rows := fun hno => by
      rw [if_neg hno, List.nil_append, ha1]
      exact ih n sets M (by omega) (by omega) hk hs hl (by omega)
    by_cases ha0 : a = 0
    · have hb : (a == 0) = true := beq_iff_eq.2 ha0
      rw [hb, cond_true]
      exact skip fun h => ((hac a).1 h).1 ha0
    · have hb : (a == 0) = false := beq_eq_false_iff_ne.2 ha0
      rw [hb, cond_false, r1, Option.bind_some]
      cases hrr : r with
      | false =>
        rw [Bool.not_false, cond_true]
        exact skip fun h => by rw [hra.2 ((hac a).1 h).2] at hrr; cases hrr
      | true =>
        have hin : a ∈ ac := (hac a).2 ⟨ha0, hra.1 hrr⟩
        rw [Bool.not_true, cond_false, if_pos hin]
        show match stepA (aftA L N ms q) (a :: ac.filter fun b => decide (a + 1 ≤ b)) (sets.map listB) M with
          | some (S', M') => ∃ sets', sets'.map listB = S' ∧ (∀ s ∈ sets', s.length = ms.length) ∧ _ = K2 (k : Int) ms sets' M' rows
          | none => ∃ sets' M', _ = Kr false (k : Int) ms sets' M' rows
        unfold stepA f10.j0'
        have hfind := find8_ok L N sets out (fun s hs' => by rw [hs s hs']; omega) (by omega) (by omega) (by omega)
        rw [hout] at hfind
        have hle : decide (M.length + ([(⟨a, (((sets.map listB).idxOf (aftA L N ms q a) : Nat) : Int)⟩ : Move)] : List Move).length ≤ lim) = true := dt (by simp only [List.length_cons, List.length_nil]; omega)
        have hmapl : (sets.map listB).length = sets.length := List.length_map _
        simp only [hfind, Option.bind_some]
        rw [hwi]
        by_cases hmem : aftA L N ms q a ∈ sets.map listB
        · have hlt := List.idxOf_lt_length_of_mem hmem
          have b1 : ((((sets.map listB).idxOf (aftA L N ms q a) : Nat) : Int) == 60) = false := beq_eq_false_iff_ne.2 (by omega)
          have b2 : ((((sets.map listB).idxOf (aftA L N ms q a) : Nat) : Int) == (sets.length : Int)) = false := beq_eq_false_iff_ne.2 (by omega)
          rw [if_neg (fun h => h.1 hmem), if_pos hmem, b1, cond_false, b2, cond_false, hle, cond_true, ha1]
          exact ih n sets _ (by omega) (by omega) hk hs hl (by simp; omega)
        · have hidx := idx_not hmem
          rw [hidx, hmapl] at hle ⊢
          by_cases h60 : sets.length = 60
          · have b1 : ((sets.length : Int) == 60) = true := beq_iff_eq.2 (by omega)
            rw [if_pos ⟨hmem, h60⟩, b1, cond_true]
            exact ⟨_, _, rfl⟩
          · have b1 : ((sets.length : Int) == 60) = false := beq_eq_false_iff_ne.2 (by omega)
            have b2 : ((sets.length : Int) == (sets.length : Int)) = true := beq_self_eq_true _
            have hl2 : decide (sets.length + ([out] : List (List Bool)).length ≤ lim) = true := dt (by simp only [List.length_cons, List.length_nil]; omega)
            rw [if_neg (fun h => h60 h.2), if_neg hmem, b1, cond_false, b2, cond_true, hl2, cond_true, hle, cond_true, ha1]
            have hmp : sets.map listB ++ [aftA L N ms q a] = (sets ++ [out]).map listB := by rw [List.map_append, ← hout]; rfl
            rw [hmp]
            refine ih n (sets ++ [out]) _ (by omega) (by omega) ?_ (fun s hs' => ?_) (by simp; omega) (by simp; omega)
            · rw [← hmp, List.getElem?_append_left (by rw [List.length_map]; exact hkl)]; exact hk
            · rcases List.mem_append.1 hs' with h | h
              · exact hs s h
              · obtain rfl := List.mem_singleton.1 h; exact o2
end
end Go.Proofs.YtffkhhblppfbfaaDoor.Ev
namespace Go.Proofs.YtffkhhblppfbfaaDoor.Ev
open Go
set_option linter.unusedVariables false
set_option linter.unusedSimpArgs false
theorem first8_ok (L N : Nat) (ms : List (List Move)) (hm : Leads ms) (h1 : 1 ≤ ms.length) (hL : 1048576 < L) : ∃ b, f17 L N ⟨ms⟩ = some b ∧ b.length = ms.length ∧ ∀ t, Tr b t ↔ Slip ms (fun x => x = 0) t := by
  have hlim := lim_eq
  have hn := hm.1
  obtain ⟨b0, c1, c2, c3⟩ := slip2_ok L N ms ((List.replicate ms.length false).set 0 true) hm (by simp) (by omega)
  refine ⟨b0, ?_, c2, fun t => (c3 t).trans (Slip.iff (fun t => ?_) t)⟩
  · show f17.b L N some ⟨ms⟩ = _
    unfold f17.b f17.b'
    refine (bif_t2 (by omega) (by show (ms.length : Int) ≤ _; omega)).trans ?_
    refine (bif_t2 (by omega) (by simp only [List.length_replicate]; show (0 : Int) < ((ms.length : Int).toNat : Int); omega)).trans ?_
    show ((f45 L N ⟨ms⟩ ((List.replicate ms.length false).set 0 true)).bind fun y => some y) = _
    rw [c1]; rfl
  · rw [Tr_set (by simp; omega)]
    exact ⟨fun h => h.resolve_right (Tr_replicate _ _), .inl⟩
theorem sure_loop (L N : Nat) (ms : List (List Move)) (hm : Leads ms) (hact : ∀ (i : Nat) (hi : i < ms.length), ∀ m ∈ ms[i], -4 ≤ m.act ∧ m.act ≤ 4) (hL : 8589934592 ≤ L) :
    ∀ (d k : Nat) (S : List (List Int)) (es : List (ByteArray × Int)) (sets : List (List Bool)) (rows : List (List Move)), S.length ≤ 60 → 61 ≤ k + d → k ≤ S.length → Places S es → (∀ x ∈ S, Fits ms x) → sets.map listB = S → (∀ s ∈ sets, s.length = ms.length) → rows.length = k → (∀ r ∈ rows, r.length ≤ 540) →
      ∀ n1 n2, d ≤ n1 → d ≤ n2 → ∃ (res : List (List Move)) (ok : Bool),
        f32_1.l0 L N (fun z7 z8 => f32_1.p0_e0 L N (fun a0 a1 => some (a0, a1)) z7 z8) (fun z10 z11 z12 => f32_1.p0_r L N (fun a0 a1 => some (a0, a1)) z10 z11 z12) n1 ms (k : Int) S es [] rows = some (res, ok) ∧
        f10.l0 L N (fun z6 => f10.p0_e0 L N (fun a0 a1 => some (a0, a1)) z6) (fun z55 z56 => f10.p0_r L N (fun a0 a1 => some (a0, a1)) z55 z56) n2 (k : Int) ms sets rows = some (⟨res⟩, ok) ∧
        res.length ≤ 60 ∧ ∀ r ∈ res, r.length ≤ 540 := by
  have hlim := lim_eq
  intro d
  induction d with
  | zero => intro k S es sets rows hS hd hk; omega
  | succ d ih =>
    intro k S es sets rows hS hd hk hp hfit hsets hsl hrl hr540 n1 n2 hn1 hn2
    obtain ⟨n1, rfl⟩ : ∃ n', n1 = n' + 1 := ⟨n1 - 1, by omega⟩
    obtain ⟨n2, rfl⟩ : ∃ n', n2 = n' + 1 := ⟨n2 - 1, by omega⟩
    have hsl2 : sets.length = S.length := by rw [← hsets, List.length_map]
    show ∃ res ok, f32_1.s0 L N (fun z7 z8 => f32_1.p0_e0 L N (fun a0 a1 => some (a0, a1)) z7 z8) (fun z10 z11 z12 => f32_1.p0_r L N (fun a0 a1 => some (a0, a1)) z10 z11 z12) (f32_1.l0 L N (fun z7 z8 => f32_1.p0_e0 L N (fun a0 a1 => some (a0, a1)) z7 z8) (fun z10 z11 z12 => f32_1.p0_r L N (fun a0 a1 => some (a0, a1)) z10 z11 z12) n1) ms (k : Int) S es [] rows = some (res, ok) ∧
        f10.s0 L N (fun z6 => f10.p0_e0 L N (fun a0 a1 => some (a0, a1)) z6) (fun z55 z56 => f10.p0_r L N (fun a0 a1 => some (a0, a1)) z55 z56) (f10.l0 L N (fun z6 => f10.p0_e0 L N (fun a0 a1 => some (a0, a1)) z6) (fun z55 z56 => f10.p0_r L N (fun a0 a1 => some (a0, a1)) z55 z56) n2) (k : Int) ms sets rows = some (⟨res⟩, ok) ∧ _
    unfold f32_1.s0 f32_1.s0' f10.s0 f10.s0'
    by_cases hlt : k < S.length
    · have hlt2 : k < sets.length := by omega
      have hq := hfit _ (List.getElem_mem hlt)
      obtain ⟨ac, m1, m2, m3, m4, m5⟩ := moves1_ok L N ms hm hact hL S[k] hq
      have hv : ∀ a, (aftA L N ms S[k] a).length ≤ 60 ∧ ∀ v ∈ aftA L N ms S[k] a, 0 ≤ v ∧ v < 60 := fun a => Fits.key hm (aftA_ok L N ms hm hL S[k] hq a).2.fits
      simp only [lt_cast hlt, lt_cast hlt2, le0, Bool.and_true, cond_true, Int.toNat_natCast, at_lt hlt, m1, Option.bind_some, Bool.not_true, cond_false]
      have hI := inI L N ms hm hL (fun z24 z25 z26 z27 z28 z29 z30 => f32_1.p1_e2 L N (fun z7 z8 => f32_1.p0_e0 L N (fun a0 a1 => some (a0, a1)) z7 z8) (fun z10 z11 z12 => f32_1.p0_r L N (fun a0 a1 => some (a0, a1)) z10 z11 z12) (f32_1.l0 L N (fun z7 z8 => f32_1.p0_e0 L N (fun a0 a1 => some (a0, a1)) z7 z8) (fun z10 z11 z12 => f32_1.p0_r L N (fun a0 a1 => some (a0, a1)) z10 z11 z12) n1) z24 z25 z26 z27 z28 z29 z30) (fun z32 z33 z34 z35 z36 z37 z38 z39 => f32_1.p1_r L N (fun z7 z8 => f32_1.p0_e0 L N (fun a0 a1 => some (a0, a1)) z7 z8) (fun z10 z11 z12 => f32_1.p0_r L N (fun a0 a1 => some (a0, a1)) z10 z11 z12) (f32_1.l0 L N (fun z7 z8 => f32_1.p0_e0 L N (fun a0 a1 => some (a0, a1)) z7 z8) (fun z10 z11 z12 => f32_1.p0_r L N (fun a0 a1 => some (a0, a1)) z10 z11 z12) n1) z32 z33 z34 z35 z36 z37 z38 z39)
        (k : Int) ac m3 (aftA L N ms S[k]) hv [] rows L 0 S es [] (by omega) (by omega) hp hS (by simp)
      have hS2 := inS L N ms hm hL (fun z13 z14 z15 z16 z17 => f10.p1_e2 L N (fun z6 => f10.p0_e0 L N (fun a0 a1 => some (a0, a1)) z6) (fun z55 z56 => f10.p0_r L N (fun a0 a1 => some (a0, a1)) z55 z56) (f10.l0 L N (fun z6 => f10.p0_e0 L N (fun a0 a1 => some (a0, a1)) z6) (fun z55 z56 => f10.p0_r L N (fun a0 a1 => some (a0, a1)) z55 z56) n2) z13 z14 z15 z16 z17) (fun z36 z37 z38 z39 z40 z41 => f10.p1_r L N (fun z6 => f10.p0_e0 L N (fun a0 a1 => some (a0, a1)) z6) (fun z55 z56 => f10.p0_r L N (fun a0 a1 => some (a0, a1)) z55 z56) (f10.l0 L N (fun z6 => f10.p0_e0 L N (fun a0 a1 => some (a0, a1)) z6) (fun z55 z56 => f10.p0_r L N (fun a0 a1 => some (a0, a1)) z55 z56) n2) z36 z37 z38 z39 z40 z41)
        k S[k] hq ac m2 m4 m5 rows 9 L sets [] (by omega) (by omega) (by rw [hsets, List.getElem?_eq_getElem hlt]) hsl (by omega) (by simp)
      have hall : (ac.filter fun b => decide ((5 : Int) - ((9 : Nat) : Int) ≤ b)) = ac := by
        rw [List.filter_eq_self]
        intro b hb
        have := m5 b hb
        simp only [decide_eq_true_eq]; omega
      rw [hall, hsets] at hS2
      rw [List.drop_zero] at hI
      have h94 : (5 : Int) - ((9 : Nat) : Int) = -4 := by omega
      rw [h94] at hS2
      cases hst : stepA (aftA L N ms S[k]) ac S [] with
      | none =>
        rw [hst] at hI hS2
        obtain ⟨S1, es1, M1, i1⟩ := hI
        obtain ⟨sets1, M2, i2⟩ := hS2
        exact ⟨[], false, (show _ = _ from i1).trans rfl, (show _ = _ from i2).trans rfl, by simp, by simp⟩
      | some p =>
        obtain ⟨S', M'⟩ := p
        rw [hst] at hI hS2
        obtain ⟨es', p1, i1⟩ := hI
        obtain ⟨sets', p2, p3, i2⟩ := hS2
        obtain ⟨⟨T, g1⟩, g2, g3, g4, g5⟩ := stepA_grow _ ac S [] S' M' hst
        rw [List.map_nil, List.nil_append] at g2
        have hrm : RisesM M' := rises_risesM (by rw [g2]; exact m2)
        have hml : M'.length ≤ 540 := risesM_len hrm fun m hmm => by
          have h1 := m5 m.act (by rw [← g2]; exact List.mem_map_of_mem hmm)
          have h2 := g4 hS (fun m h => by cases h) m hmm
          omega
        have hS' := g3 hS
        have hle : decide (rows.length + ([M'] : List (List Move)).length ≤ lim) = true := dt (by simp only [List.length_cons, List.length_nil]; omega)
        obtain ⟨res, ok, j1, j2, j3, j4⟩ := ih (k + 1) S' es' sets' (rows ++ [M']) hS' (by omega) (by rw [g1, List.length_append]; omega) p1 (fun x hx => by
          rcases g5 x hx with h | ⟨a, -, rfl⟩
          · exact hfit x h
          · exact (aftA_ok L N ms hm hL S[k] hq a).2.fits) p2 p3 (by simp; omega) (fun r hr => by
          rcases List.mem_append.1 hr with h | h
          · exact hr540 r h
          · obtain rfl := List.mem_singleton.1 h; exact hml) n1 n2 (by omega) (by omega)
        refine ⟨res, ok, (show _ = _ from i1).trans ?_, (show _ = _ from i2).trans ?_, j3, j4⟩
        · show f32_1.p1_e2 L N _ _ _ ms (k : Int) S' es' M' [] rows = _
          unfold f32_1.p1_e2 f32_1.p1_e2' fsortM
          rw [dt (show M'.length ≤ lim by omega), cond_true, Option.bind_some, tidyM_self hrm, hle, cond_true, wi_nat (by omega)]
          exact j1
        · show f10.p1_e2 L N _ _ _ (k : Int) ms sets' M' rows = _
          unfold f10.p1_e2 f10.p1_e2'
          rw [hle, cond_true, wi_nat (by omega)]
          exact j2
    · have hlt2 : ¬ k < sets.length := by omega
      rw [ge_cast hlt, cond_false, ge_cast hlt2, cond_false]
      exact ⟨rows, true, rfl, rfl, by omega, hr540⟩
theorem sureGraph_eq (L N : Nat) (g : Graph) (hg : g.moves.length + gsize g.moves ≤ 1048576) (hL : 8589934592 ≤ L) :
    ∃ (rows : List (List Move)) (ok : Bool), f10 L N g = some (⟨rows⟩, ok) ∧ f11 L N g = some (rows, ok) ∧ rows.length + gsize rows ≤ 1048576 ∧ rows.length ≤ 60 ∧ ∀ r ∈ rows, r.length ≤ 540 := by
  have hlim := lim_eq
  have hge : Graph.mk g.moves = g := by cases g; rfl
  have h1 := gok1_ok L N g (by omega) hg
  have h2 := gok2_ok L N g (by omega) hg
  cases hok : graphOk g with
  | false =>
    refine ⟨[], false, ?_, ?_, by simp [gsize], by simp, by simp⟩
    · show f10.b L N (fun a0 a1 => some (a0, a1)) g = _
      unfold f10.b f10.b'
      rw [hge, h2, Option.bind_some, hok, Bool.not_false, cond_true]
    · show f11.b' L N (fun a0 a1 => some (a0, a1)) g = _
      unfold f11.b'
      rw [hge, h1, Option.bind_some, hok, Bool.not_false, cond_true]
  | true =>
    have hm := leads_of hok hg
    obtain ⟨hn1, hn2, hmv⟩ := graphOk_mv hok
    have hact : ∀ (i : Nat) (hi : i < g.moves.length), ∀ m ∈ g.moves[i], -4 ≤ m.act ∧ m.act ≤ 4 := fun i hi m hm' => by
      obtain ⟨k, hk, rfl⟩ := List.mem_iff_getElem.1 hm'
      have := hmv i hi k hk
      exact ⟨this.1, this.2.1⟩
    obtain ⟨q, b1, b2⟩ := behI L N g.moves [] hm hn1 (by simp) (by omega)
    obtain ⟨b, c1, c2, c3⟩ := first8_ok L N g.moves hm hn1 (by omega)
    rw [hge] at b1 c1
    have hqb : listB b = q := Row.uniq (X := Slip g.moves fun x => x = 0) (listB_row c2 c3) b2
    have hqf := b2.fits
    have hkey := Fits.key hm hqf
    have hk0 := setKey_ok L N q hkey.1 hkey.2 (by omega)
    obtain ⟨res, ok, e1, e2, e3, e4⟩ := sure_loop L N g.moves hm hact hL 61 0 [q] (mapPut .str i64 (keyB q) (0 : Int) []) [b] [] (by simp) (by omega) (by simp)
      (by have := Places.nil.add (y := q) hkey.2 (by simp); exact this) (fun x hx => by obtain rfl := List.mem_singleton.1 hx; exact hqf) (by rw [List.map_cons, hqb]; rfl) (fun s hs => by obtain rfl := List.mem_singleton.1 hs; exact c2) rfl (fun r hr => by cases hr) L L (by omega) (by omega)
    have hgs := gsize_le e4
    refine ⟨res, ok, ?_, ?_, by omega, e3, e4⟩
    · show f10.b L N (fun a0 a1 => some (a0, a1)) g = _
      unfold f10.b f10.b'
      rw [hge, h2, Option.bind_some, hok, Bool.not_true, cond_false, c1, Option.bind_some]
      exact e2
    · show f11.b' L N (fun a0 a1 => some (a0, a1)) g = _
      unfold f11.b'
      have hb : f32_1 L N q g.moves = some (res, ok) := by
        show f32_1.b L N (fun a0 a1 => some (a0, a1)) q g.moves = _
        unfold f32_1.b f32_1.b'
        rw [hk0, Option.bind_some]
        exact e1
      rw [hge, h1, Option.bind_some, hok, Bool.not_true, cond_false, b1, Option.bind_some, hb, Option.bind_some]
theorem exactSureGraph (g : Graph) (hg : DatOk (.st 2) g) : ∃ L N, f4 L N g = some true := by
  have hge : Graph.mk g.moves = g := by cases g; rfl
  generalize hLL : 8589934592 = L
  refine ⟨L, 0, ?_⟩
  have hlim := lim_eq
  show f4.b' L 0 some g = _
  unfold f4.b'
  rw [hge]
  obtain ⟨r, hr, hc⟩ := szGraph_ok L 0 g hg (by omega)
  rw [hr]
  simp only [Option.bind_some]
  by_cases hn : r < 0
  · rw [dt hn, cond_true]
  · rw [df hn, cond_false]
    have hsz : g.moves.length + gsize g.moves ≤ 1048576 := by omega
    obtain ⟨rows, ok, h1, h2, h3, h4, h5⟩ := sureGraph_eq L 0 g hsz (by omega)
    obtain ⟨j, ys, m1, m2, m3, m4, m5, m6⟩ := markMoveSS_eq L 0 g.moves 1 (by omega) (fun r hr => by have := gsize_row r hr; omega) (by omega) (by omega) (by omega)
    obtain ⟨j2, zs, n1, n2, n3, n4, n5, n6⟩ := markMoveSS_eq L 0 rows 1 (by omega) (fun r hr => by have := h5 r hr; omega) (by omega) (by omega) (by omega)
    have hh := heldGraph_ok L 0 zs 1 j2 (by omega) n6 (by omega) (by omega) (by omega) n2
    have hq := eqGraph_ok L 0 ⟨rows⟩ (by omega) h3
    simp only [toGraph_ok L 0 g (by omega) hsz, hge, h1, h2, Option.bind_some, eqGraph_ok L 0 g (by omega) hsz, hq, Bool.not_true, cond_false, beq_self_eq_true]
    unfold f4.j2'
    simp only [toGraph_ok L 0 g (by omega) hsz, hge, h1, h2, Option.bind_some, eqGraph_ok L 0 g (by omega) hsz, hq, Bool.not_true, cond_false, beq_self_eq_true, m1]
    rw [df (show ¬ j < 0 by omega)]
    simp only [cond_false]
    unfold f4.j1'
    simp only [toGraph_ok L 0 g (by omega) hsz, hge, h1, h2, Option.bind_some, eqGraph_ok L 0 g (by omega) hsz, hq, Bool.not_true, cond_false, beq_self_eq_true, n1, hh, bne_self_eq_false]
    rw [df (show ¬ j2 < 0 by omega)]
    simp only [cond_false]
    unfold f4.j0'
    simp only [hh, Option.bind_some, bne_self_eq_false, cond_false]
    rw [df (show ¬ j2 < 0 by omega)]
    simp only [cond_false]
end Go.Proofs.YtffkhhblppfbfaaDoor.Ev
