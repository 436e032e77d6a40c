/- Plain laws, in one text. -/
import Derived.Test.YtffkhhblppfbfaaGE3b
import Derived.Test.YtffkhhblppfbfaaEvZ
import Derived.Test.YtffkhhblppfbfaaEvSort
namespace Go.Proofs.Ytffkhhblppfbfaa.Ev
open Go
set_option linter.unusedVariables false
set_option linter.unusedSimpArgs false
theorem act1_ok (L N : Nat) (n : Int) : f55 L N n = some (decide (-4 ≤ n ∧ n ≤ 4)) := by
  show f55.b L N some n = _
  unfold f55.b f55.b'
  by_cases h : n ≥ -4
  · rw [dt h, cond_true]; congr 1; by_cases h2 : n ≤ 4
    · rw [dt h2, dt (by omega)]
    · rw [df h2, df (by omega)]
  · rw [df h, cond_false, df (by omega)]
theorem in_ok (L N : Nat) (n a b : Int) : f25 L N n a b = some (decide (a ≤ n ∧ n ≤ b)) := by
  show f25.b L N some n a b = _
  unfold f25.b f25.b'
  by_cases h : n ≥ a
  · rw [dt h, cond_true]; congr 1; by_cases h2 : n ≤ b
    · rw [dt h2, dt (by omega)]
    · rw [df h2, df (by omega)]
  · rw [df h, cond_false, df (by omega)]
theorem act2_ok (L N : Nat) (n : Int) : f48 L N n = some (decide (-4 ≤ n ∧ n ≤ 4)) := by
  show f48.b L N some n = _
  unfold f48.b f48.b'
  rw [in_ok]; rfl
def gsize (ms : List (List Move)) : Nat := (ms.map List.length).sum
theorem szMoveS_ok (L N : Nat) (x : List Move) (left : Int) (hx : x.length ≤ maxLen) (h0 : 0 ≤ left) (h1 : left ≤ 1048576) : f47 L N x left = some (if (x.length : Int) ≤ left then left - x.length else -1) := by
  show f47.b L N some x left = _
  unfold f47.b f47.b'
  have hm := maxLen_eq
  rw [wi_id (by omega) (by omega)]
  by_cases h : (x.length : Int) ≤ left
  · rw [df (by omega), cond_false, if_pos h]
  · rw [dt (by omega), cond_true, if_neg h]
theorem szMoveSS_ok (L N : Nat) (x : List (List Move)) (left : Int) (hx : x.length ≤ maxLen) (hr : ∀ r ∈ x, r.length ≤ maxLen) (hL : 1048576 < L) (h0 : 0 ≤ left) (h1 : left ≤ 1048576) :
    f23 L N x left = some (if ((x.length + gsize x : Nat) : Int) ≤ left then left - (x.length + gsize x : Nat) else -1) := by
  have hm := maxLen_eq
  show f23.b L N some x left = _
  unfold f23.b f23.b'
  rw [wi_id (by omega) (by omega)]
  by_cases h : left - (x.length : Int) < 0
  · rw [dt h, cond_true, if_neg (by omega)]
  · rw [df h, cond_false]
    have key : ∀ (n i : Nat) (l : Int), x.length - i < n → i ≤ x.length → 0 ≤ l → l ≤ 1048576 →
        f23.l0 L N (fun z3 => f23.p0_e0 L N some z3) (fun z5 z6 => f23.p0_r L N some z5 z6) n x l (i : Int) = some (if ((gsize (x.drop i) : Nat) : Int) ≤ l then l - (gsize (x.drop i) : Nat) else -1) := by
      intro n
      induction n with
      | zero => intro i l h; omega
      | succ n ih =>
        intro i l h2 hi l0 l1
        show f23.s0 L N _ _ (f23.l0 L N _ _ n) x l i = _
        unfold f23.s0 f23.s0'
        by_cases hlt : i < x.length
        · simp only [lt_cast hlt, le0, cond_true, Bool.and_true, Int.toNat_natCast, at_lt hlt]
          rw [szMoveS_ok L N x[i] l (hr _ (List.getElem_mem hlt)) l0 l1]
          have hd : gsize (x.drop i) = x[i].length + gsize (x.drop (i + 1)) := by
            rw [List.drop_eq_getElem_cons hlt]; simp only [gsize, List.map_cons, List.sum_cons]
          simp only [Option.bind_some]
          by_cases hc : (x[i].length : Int) ≤ l
          · rw [if_pos hc, df (by omega), cond_false, wi_nat (by omega), ih (i + 1) _ (by omega) (by omega) (by omega) (by omega), hd]
            congr 1
            split <;> split <;> omega
          · rw [if_neg hc, dt (by omega), cond_true, if_neg (by omega)]
            rfl
        · simp only [ge_cast hlt, cond_false]
          have hi' : i = x.length := by omega
          subst hi'
          rw [List.drop_length]
          have : ((gsize ([] : List (List Move)) : Nat) : Int) = 0 := rfl
          rw [this, if_pos l0, Int.sub_zero]
          rfl
    refine (key L 0 _ (by omega) (by omega) (by omega) (by omega)).trans ?_
    rw [List.drop_zero]
    congr 1
    split <;> split <;> omega
theorem szGraph_ok (L N : Nat) (g : Graph) (hg : DatOk (.st 2) g) (hL : 1048576 < L) :
    ∃ r : Int, f6 L N g 1048576 = some r ∧ (r < 0 ∨ (g.moves.length + gsize g.moves ≤ 1048576 ∧ 0 ≤ r ∧ r ≤ 1048576)) := by
  obtain ⟨h1, h2⟩ := graph_ok hg
  show ∃ r, f6.b L N some g 1048576 = some r ∧ _
  unfold f6.b f6.b'
  rw [szMoveSS_ok L N g.moves 1048576 h1 (fun r hr => (h2 r hr).1) hL (by omega) (by omega)]
  simp only [Option.bind_some]
  by_cases hc : ((g.moves.length + gsize g.moves : Nat) : Int) ≤ 1048576
  · rw [if_pos hc, df (by omega), cond_false]
    exact ⟨_, rfl, .inr (by omega)⟩
  · rw [if_neg hc, dt (by omega), cond_true]
    exact ⟨_, rfl, .inl (by omega)⟩
theorem gsize_row {ms : List (List Move)} : ∀ r ∈ ms, r.length ≤ gsize ms := by
  intro r hr
  unfold gsize
  induction ms with
  | nil => cases hr
  | cons a ms ih =>
    rw [List.map_cons, List.sum_cons]
    rcases List.mem_cons.1 hr with rfl | hr
    · omega
    · have := ih hr; omega
theorem toMove_ok (L N : Nat) (m : Move) : f68 L N m = some m := rfl
theorem toMoveS_ok (L N : Nat) (x : List Move) (hL : x.length < L) (hl : x.length ≤ lim) : f54 L N x = some x := by
  have hm := lim_eq
  show f54.b L N some x = _
  unfold f54.b f54.b'
  refine (bif_t2 (by omega) (by omega)).trans ?_
  refine copy_loop (l := fun n i ys => f54.l0 L N (fun z3 => f54.p0_e0 L N some z3) n x i ys) (fun n i hi ys hy => ?_) (fun n ys => ?_) L 0 _ (by omega) (by omega) (by simp) (by simp)
  · show f54.s0 L N _ (f54.l0 L N _ n) x i ys = _
    unfold f54.s0 f54.s0'
    simp only [lt_cast hi, le0, cond_true, Bool.and_true, Int.toNat_natCast, at_lt hi, toMove_ok, Option.bind_some, lt_cast (show i < ys.length by omega), wi_nat (show i < 9223372036854775807 by omega)]
  · show f54.s0 L N _ (f54.l0 L N _ n) x x.length ys = _
    unfold f54.s0 f54.s0'
    simp only [ge_cast (Nat.lt_irrefl _), cond_false]
    rfl
theorem toMoveSS_ok (L N : Nat) (x : List (List Move)) (hL : x.length < L) (hl : x.length ≤ lim) (hr : ∀ r ∈ x, r.length < L ∧ r.length ≤ lim) : f30 L N x = some x := by
  have hm := lim_eq
  show f30.b L N some x = _
  unfold f30.b f30.b'
  refine (bif_t2 (by omega) (by omega)).trans ?_
  refine copy_loop (l := fun n i ys => f30.l0 L N (fun z3 => f30.p0_e0 L N some z3) n x i ys) (fun n i hi ys hy => ?_) (fun n ys => ?_) L 0 _ (by omega) (by omega) (by simp) (by simp)
  · show f30.s0 L N _ (f30.l0 L N _ n) x i ys = _
    unfold f30.s0 f30.s0'
    have h1 := hr _ (List.getElem_mem hi)
    simp only [lt_cast hi, le0, cond_true, Bool.and_true, Int.toNat_natCast, at_lt hi, toMoveS_ok L N x[i] h1.1 h1.2, Option.bind_some, lt_cast (show i < ys.length by omega), wi_nat (show i < 9223372036854775807 by omega)]
  · show f30.s0 L N _ (f30.l0 L N _ n) x x.length ys = _
    unfold f30.s0 f30.s0'
    simp only [ge_cast (Nat.lt_irrefl _), cond_false]
    rfl
theorem toGraph_ok (L N : Nat) (g : Graph) (hL : 1048576 < L) (hs : g.moves.length + gsize g.moves ≤ 1048576) : f8 L N g = some g.moves := by
  have hm := lim_eq
  show f8.b L N some g = _
  unfold f8.b f8.b'
  rw [toMoveSS_ok L N g.moves (by omega) (by omega) (fun r hr => by have := gsize_row r hr; omega)]
  rfl
theorem eqMove_ok (L N : Nat) (m : Move) : f75 L N m m = some true := by
  show f75.b L N some m m = _
  unfold f75.b f75.b'
  simp only [bne_self_eq_false, cond_false]
theorem allN_true (k i : Nat) : allN (fun _ => true) k i = true := by
  induction k generalizing i with
  | zero => rfl
  | succ k ih => exact ih (i + 1)
theorem eqMoveS_ok (L N : Nat) (x : List Move) (hL : x.length < L) (hl : x.length ≤ lim) : f60 L N x x = some true := by
  have hm := lim_eq
  show f60.b L N some x x = _
  unfold f60.b f60.b'
  simp only [bne_self_eq_false, cond_false]
  refine (all_loop (l := fun n i => f60.l0 L N (f60.p0_e0 L N some) (fun z4 => f60.p0_r L N some z4) n x x i) (len := x.length) (q := fun _ => true) (rt := some true) (rf := some false) (fun n i hi => ?_) (fun n => ?_) L 0 (by omega) (by omega)).trans (by rw [allN_true]; rfl)
  · show f60.s0 L N _ _ (f60.l0 L N _ _ n) x x i = _
    unfold f60.s0 f60.s0'
    simp only [lt_cast hi, le0, cond_true, Bool.and_true, Int.toNat_natCast, at_lt hi, eqMove_ok, Option.bind_some, Bool.not_true, cond_false, wi_nat (show i < 9223372036854775807 by omega)]
  · show f60.s0 L N _ _ (f60.l0 L N _ _ n) x x x.length = _
    unfold f60.s0 f60.s0'
    simp only [ge_cast (Nat.lt_irrefl _), cond_false]
    rfl
theorem eqGraph_ok (L N : Nat) (g : Graph) (hL : 1048576 < L) (hs : g.moves.length + gsize g.moves ≤ 1048576) : f11 L N g g = some true := by
  have hm := lim_eq
  have key : f35 L N g.moves g.moves = some true := by
    generalize hx : g.moves = x
    rw [hx] at hs
    show f35.b L N some x x = _
    unfold f35.b f35.b'
    simp only [bne_self_eq_false, cond_false]
    refine (all_loop (l := fun n i => f35.l0 L N (f35.p0_e0 L N some) (fun z4 => f35.p0_r L N some z4) n x x i) (len := x.length) (q := fun _ => true) (rt := some true) (rf := some false) (fun n i hi => ?_) (fun n => ?_) L 0 (by omega) (by omega)).trans (by rw [allN_true]; rfl)
    · show f35.s0 L N _ _ (f35.l0 L N _ _ n) x x i = _
      unfold f35.s0 f35.s0'
      have := gsize_row _ (List.getElem_mem hi)
      simp only [lt_cast hi, le0, cond_true, Bool.and_true, Int.toNat_natCast, at_lt hi, eqMoveS_ok L N x[i] (by omega) (by omega), Option.bind_some, Bool.not_true, cond_false, wi_nat (show i < 9223372036854775807 by omega)]
    · show f35.s0 L N _ _ (f35.l0 L N _ _ n) x x x.length = _
      unfold f35.s0 f35.s0'
      simp only [ge_cast (Nat.lt_irrefl _), cond_false]
      rfl
  show f11.b L N some g g = _
  unfold f11.b f11.b'
  rw [key]; rfl
def lessM (a b : Move) : Bool := decide (a.act < b.act ∨ (a.act = b.act ∧ a.to < b.to))
def mvOk (n : Nat) (m : Move) : Bool := decide (-4 ≤ m.act ∧ m.act ≤ 4) && decide (0 ≤ m.to ∧ m.to < (n : Int))
def atOk (n : Nat) (r : List Move) (k : Nat) : Bool := mvOk n (r.getD k ⟨0, 0⟩) && (decide (k = 0) || lessM (r.getD (k - 1) ⟨0, 0⟩) (r.getD k ⟨0, 0⟩))
def rowOk (n : Nat) (r : List Move) : Bool := allN (atOk n r) r.length 0
def graphOk (g : Graph) : Bool := decide (1 ≤ g.moves.length ∧ g.moves.length ≤ 60) && allN (fun i => rowOk g.moves.length (g.moves.getD i [])) g.moves.length 0
theorem atD {α : Type} (x : List α) (d : α) (i : Nat) : listAt x d i = x.getD i d := rfl
theorem less2_ok (L N : Nat) (a b : Move) : f49 L N a b = some (lessM a b) := by
  show f49.b L N some a b = _
  unfold f49.b f49.b' lessM
  by_cases h : a.act < b.act
  · rw [dt h, cond_true, dt (by omega)]
  · rw [df h, cond_false]
    by_cases h2 : a.act = b.act
    · have : (a.act == b.act) = true := by simpa using h2
      rw [this, cond_true]
      by_cases h3 : a.to < b.to
      · rw [dt h3, dt (by omega)]
      · rw [df h3, df (by omega)]
    · have : (a.act == b.act) = false := by simpa using h2
      rw [this, cond_false, df (by omega)]
theorem cmp_ok (L N : Nat) (a b : Int) : f69 L N a b = some (if a < b then -1 else if a > b then 1 else 0) := by
  show f69.b L N some a b = _
  unfold f69.b f69.b'
  have h0 : ∀ a, f82 L N a = some false := fun a => by
    show f82.b L N some a = _
    unfold f82.b f82.b'
    simp
  simp only [h0, Option.bind_some, cond_false]
  by_cases h : a < b
  · rw [dt h, cond_true, if_pos h]
  · rw [df h, cond_false, if_neg h]
    by_cases h2 : a > b
    · rw [dt h2, cond_true, if_pos h2]
    · rw [df h2, cond_false, if_neg h2]
theorem byMove_ok (L N : Nat) (a b : Move) : ∃ r : Int, f56 L N a b = some r ∧ decide (r ≥ 0) = !lessM a b := by
  show ∃ r, f56.b L N some a b = some r ∧ _
  unfold f56.b f56.b' lessM
  simp only [cmp_ok, Option.bind_some]
  by_cases h : a.act < b.act
  · rw [if_pos h]
    exact ⟨-1, rfl, by rw [dt (show a.act < b.act ∨ _ from .inl h)]; rfl⟩
  · rw [if_neg h]
    by_cases h2 : a.act > b.act
    · rw [if_pos h2]
      exact ⟨1, rfl, by rw [df (show ¬ (a.act < b.act ∨ a.act = b.act ∧ a.to < b.to) by omega)]; rfl⟩
    · rw [if_neg h2]
      refine ⟨_, rfl, ?_⟩
      by_cases h3 : a.to < b.to
      · rw [if_pos h3, dt (show a.act < b.act ∨ a.act = b.act ∧ a.to < b.to by omega)]; rfl
      · rw [if_neg h3, df (show ¬ (a.act < b.act ∨ a.act = b.act ∧ a.to < b.to) by omega)]
        by_cases h4 : a.to > b.to
        · rw [if_pos h4]; rfl
        · rw [if_neg h4]; rfl
end Go.Proofs.Ytffkhhblppfbfaa.Ev
namespace Go.Proofs.Ytffkhhblppfbfaa.Ev
open Go
set_option linter.unusedVariables false
set_option linter.unusedSimpArgs false
theorem getD_lt {α : Type} {x : List α} {d : α} {i : Nat} (h : i < x.length) : x.getD i d = x[i] := by
  rw [List.getD_eq_getElem?_getD, List.getElem?_eq_getElem h]; rfl
theorem pred_cast {k : Nat} (h : 0 < k) (h2 : k < 9223372036854775807) : wi ((k : Int) - 1) = ((k - 1 : Nat) : Int) := by
  rw [wi_id (by omega) (by omega)]; omega
theorem mv_eta (m : Move) : Move.mk m.act m.to = m := by cases m; rfl
theorem gok2_ok (L N : Nat) (g : Graph) (hL : 1048576 < L) (hs : g.moves.length + gsize g.moves ≤ 1048576) : f24 L N g = some (graphOk g) := by
  show f24.b L N some g = _
  unfold f24.b f24.b' graphOk
  generalize hms : g.moves = ms
  rw [hms] at hs
  rw [in_ok]
  simp only [Option.bind_some]
  by_cases hr : 1 ≤ (ms.length : Int) ∧ (ms.length : Int) ≤ 60
  · rw [dt hr, dt (show 1 ≤ ms.length ∧ ms.length ≤ 60 by omega)]
    simp only [Bool.not_true, cond_false, Bool.true_and]
    refine (all_loop (l := fun n i => f24.l0 L N (f24.p0_e0 L N some) (fun z => f24.p0_r L N some z) n i ms) (len := ms.length) (q := fun i => rowOk ms.length (ms.getD i [])) (rt := some true) (rf := some false) (fun n i hi => ?_) (fun n => ?_) L 0 (by omega) (by omega)).trans ?_
    · show f24.s0 L N _ _ (f24.l0 L N _ _ n) i ms = _
      unfold f24.s0 f24.s0'
      simp only [lt_cast hi, cond_true, getD_lt hi]
      have hrow := gsize_row _ (List.getElem_mem hi)
      refine (all_loop (l := fun n k => f24.l1 L N (fun z6 z7 => f24.p1_e2 L N (f24.p0_e0 L N some) (fun z => f24.p0_r L N some z) (f24.l0 L N (f24.p0_e0 L N some) (fun z => f24.p0_r L N some z) _) z6 z7) (fun z15 z16 z17 => f24.p1_r L N (f24.p0_e0 L N some) (fun z => f24.p0_r L N some z) (f24.l0 L N (f24.p0_e0 L N some) (fun z => f24.p0_r L N some z) _) z15 z16 z17) n i k ms) (len := (ms[i]).length) (q := atOk ms.length ms[i]) (rt := f24.l0 L N (f24.p0_e0 L N some) (fun z => f24.p0_r L N some z) n ((i + 1 : Nat) : Int) ms) (rf := some false) (fun n' k hk => ?_) (fun n' => ?_) L 0 (by omega) (by omega)).trans (by rw [Nat.sub_zero]; rfl)
      · show f24.s1 L N _ _ (f24.l1 L N _ _ n') i k ms = _
        unfold f24.s1 f24.s1'
        have hw : wi ((ms.length : Int) - 1) = (ms.length : Int) - 1 := wi_id (by omega) (by omega)
        simp only [lt_cast hi, le0, cond_true, Bool.and_true, Bool.true_and, Int.toNat_natCast, at_lt hi, lt_cast hk, at_lt hk, act2_ok, in_ok, Option.bind_some, less2_ok, hw, mv_eta, wi_nat (show k < 9223372036854775807 by omega)]
        unfold atOk mvOk
        rw [getD_lt hk]
        by_cases hA : -4 ≤ (ms[i])[k].act ∧ (ms[i])[k].act ≤ 4
        · by_cases hB : 0 ≤ (ms[i])[k].to ∧ (ms[i])[k].to < (ms.length : Int)
          · rw [dt hA, dt hB, dt (show 0 ≤ (ms[i])[k].to ∧ (ms[i])[k].to ≤ (ms.length : Int) - 1 by omega)]
            simp only [Bool.not_true, cond_false, Bool.true_and]
            by_cases hk0 : k = 0
            · subst hk0
              rfl
            · have hp : k - 1 < (ms[i]).length := by omega
              rw [dt (show (k : Int) > 0 by omega), cond_true, pred_cast (by omega) (by omega)]
              simp only [le0, lt_cast hp, Bool.and_true, cond_true, Int.toNat_natCast, at_lt hp, Option.bind_some, df hk0, Bool.false_or, getD_lt hp]
              cases lessM (ms[i])[k - 1] (ms[i])[k] <;> rfl
          · rw [dt hA, df hB, df (show ¬ (0 ≤ (ms[i])[k].to ∧ (ms[i])[k].to ≤ (ms.length : Int) - 1) by omega)]
            rfl
        · rw [df hA]
          rfl
      · show f24.s1 L N _ _ (f24.l1 L N _ _ n') i (ms[i]).length ms = _
        unfold f24.s1 f24.s1'
        simp only [lt_cast hi, le0, cond_true, Bool.and_true, Bool.true_and, Int.toNat_natCast, at_lt hi, ge_cast (Nat.lt_irrefl _), cond_false]
        show f24.l0 L N _ _ n (wi ((i : Int) + 1)) ms = _
        rw [wi_nat (by omega)]
    · show f24.s0 L N _ _ (f24.l0 L N _ _ n) ms.length ms = _
      unfold f24.s0 f24.s0'
      simp only [ge_cast (Nat.lt_irrefl _), cond_false]
      rfl
    · rw [Nat.sub_zero]
      cases allN (fun i => rowOk ms.length (ms.getD i [])) ms.length 0 <;> rfl
  · rw [df hr, df (show ¬ (1 ≤ ms.length ∧ ms.length ≤ 60) by omega)]
    rfl
theorem gok1_ok (L N : Nat) (g : Graph) (hL : 1048576 < L) (hs : g.moves.length + gsize g.moves ≤ 1048576) : f31 L N g = some (graphOk g) := by
  show f31.b L N some g = _
  unfold f31.b f31.b' graphOk
  generalize hms : g.moves = ms
  rw [hms] at hs
  by_cases h1 : (ms.length : Int) < 1
  · rw [dt h1, cond_true, df (show ¬ (1 ≤ ms.length ∧ ms.length ≤ 60) by omega)]; rfl
  · rw [df h1, cond_false]
    by_cases h2 : (ms.length : Int) > 60
    · rw [dt h2, cond_true, df (show ¬ (1 ≤ ms.length ∧ ms.length ≤ 60) by omega)]; rfl
    · rw [df h2, cond_false, dt (show 1 ≤ ms.length ∧ ms.length ≤ 60 by omega)]
      simp only [Bool.true_and]
      unfold f31.j0'
      refine (all_loop (l := fun n i => f31.l0 L N (f31.p0_e0 L N some) (fun z => f31.p0_r L N some z) n ms (ms.length : Int) i ms) (len := ms.length) (q := fun i => rowOk ms.length (ms.getD i [])) (rt := some true) (rf := some false) (fun n i hi => ?_) (fun n => ?_) L 0 (by omega) (by omega)).trans ?_
      · show f31.s0 L N _ _ (f31.l0 L N _ _ n) ms (ms.length : Int) i ms = _
        unfold f31.s0 f31.s0'
        simp only [lt_cast hi, le0, Bool.and_true, cond_true, Int.toNat_natCast, at_lt hi, getD_lt hi]
        have hrow := gsize_row _ (List.getElem_mem hi)
        refine (all_loop (l := fun n k => f31.l1 L N (fun z15 z16 z17 z18 => f31.p1_e2 L N (f31.p0_e0 L N some) (fun z => f31.p0_r L N some z) (f31.l0 L N (f31.p0_e0 L N some) (fun z => f31.p0_r L N some z) _) z15 z16 z17 z18) (fun z30 z31 z32 z33 z34 => f31.p1_r L N (f31.p0_e0 L N some) (fun z => f31.p0_r L N some z) (f31.l0 L N (f31.p0_e0 L N some) (fun z => f31.p0_r L N some z) _) z30 z31 z32 z33 z34) n ms[i] ms (ms.length : Int) i ms[i] ((ms[i]).length : Int) k ms) (len := (ms[i]).length) (q := atOk ms.length ms[i]) (rt := f31.l0 L N (f31.p0_e0 L N some) (fun z => f31.p0_r L N some z) n ms (ms.length : Int) ((i + 1 : Nat) : Int) ms) (rf := some false) (fun n' k hk => ?_) (fun n' => ?_) L 0 (by omega) (by omega)).trans (by rw [Nat.sub_zero]; rfl)
        · show f31.s1 L N _ _ (f31.l1 L N _ _ n') ms[i] ms (ms.length : Int) i ms[i] ((ms[i]).length : Int) k ms = _
          unfold f31.s1 f31.s1'
          simp only [le0, cond_true, Bool.and_true, Bool.true_and, Int.toNat_natCast, lt_cast hk, at_lt hk, act1_ok, Option.bind_some, mv_eta, wi_nat (show k < 9223372036854775807 by omega)]
          unfold atOk mvOk
          rw [getD_lt hk]
          by_cases hA : -4 ≤ (ms[i])[k].act ∧ (ms[i])[k].act ≤ 4
          · rw [dt hA]
            simp only [Bool.not_true, cond_false, Bool.true_and]
            by_cases hB0 : (ms[i])[k].to < 0
            · rw [dt hB0, df (show ¬ (0 ≤ (ms[i])[k].to ∧ (ms[i])[k].to < (ms.length : Int)) by omega)]; rfl
            · rw [df hB0, cond_false]
              by_cases hB1 : (ms[i])[k].to ≥ (ms.length : Int)
              · rw [dt hB1, df (show ¬ (0 ≤ (ms[i])[k].to ∧ (ms[i])[k].to < (ms.length : Int)) by omega)]; rfl
              · rw [df hB1, cond_false, dt (show 0 ≤ (ms[i])[k].to ∧ (ms[i])[k].to < (ms.length : Int) by omega)]
                by_cases hk0 : k = 0
                · subst hk0
                  rfl
                · have hp : k - 1 < (ms[i]).length := by omega
                  rw [dt (show (k : Int) > 0 by omega), cond_true, pred_cast (by omega) (by omega)]
                  obtain ⟨r, hr, hd⟩ := byMove_ok L N (ms[i])[k - 1] (ms[i])[k]
                  simp only [le0, lt_cast hp, Bool.and_true, cond_true, Int.toNat_natCast, at_lt hp, hr, Option.bind_some, hd, df hk0, Bool.false_or, Bool.true_and, getD_lt hp]
                  cases lessM (ms[i])[k - 1] (ms[i])[k] <;> rfl
          · rw [df hA]
            rfl
        · show f31.s1 L N _ _ (f31.l1 L N _ _ n') ms[i] ms (ms.length : Int) i ms[i] ((ms[i]).length : Int) (ms[i]).length ms = _
          unfold f31.s1 f31.s1'
          simp only [ge_cast (Nat.lt_irrefl _), cond_false]
          show f31.l0 L N _ _ n ms (ms.length : Int) (wi ((i : Int) + 1)) ms = _
          rw [wi_nat (by omega)]
      · show f31.s0 L N _ _ (f31.l0 L N _ _ n) ms (ms.length : Int) ms.length ms = _
        unfold f31.s0 f31.s0'
        simp only [ge_cast (Nat.lt_irrefl _), cond_false]
        rfl
      · rw [Nat.sub_zero]
        cases allN (fun i => rowOk ms.length (ms.getD i [])) ms.length 0 <;> rfl
theorem graphOk_mv {g : Graph} (h : graphOk g = true) : 1 ≤ g.moves.length ∧ g.moves.length ≤ 60 ∧ ∀ (i : Nat) (hi : i < g.moves.length) (k : Nat) (hk : k < (g.moves[i]).length), -4 ≤ (g.moves[i])[k].act ∧ (g.moves[i])[k].act ≤ 4 ∧ 0 ≤ (g.moves[i])[k].to ∧ (g.moves[i])[k].to < (g.moves.length : Int) := by
  unfold graphOk at h
  simp only [Bool.and_eq_true, decide_eq_true_eq] at h
  refine ⟨h.1.1, h.1.2, fun i hi k hk => ?_⟩
  have h1 := allN_get _ 0 h.2 i (by omega) (by omega)
  simp only [getD_lt hi] at h1
  have h2 := allN_get _ 0 h1 k (by omega) (by omega)
  unfold atOk mvOk at h2
  rw [getD_lt hk] at h2
  simp only [Bool.and_eq_true, decide_eq_true_eq] at h2
  exact ⟨h2.1.1.1, h2.1.1.2, h2.1.2.1, h2.1.2.2⟩
end Go.Proofs.Ytffkhhblppfbfaa.Ev
namespace Go.Proofs.Ytffkhhblppfbfaa.Ev
open Go
set_option linter.unusedVariables false
def BOk (c : List Int) : Prop := c.length ≤ 2000 ∧ ∀ b ∈ c, 0 ≤ b ∧ b ≤ 255
theorem BOk.at {c : List Int} (h : BOk c) (i : Nat) : 0 ≤ listAt c (0 : Int) i ∧ listAt c (0 : Int) i ≤ 255 := by
  by_cases hi : i < c.length
  · rw [at_lt hi]; exact h.2 _ (List.getElem_mem hi)
  · have : listAt c (0 : Int) i = 0 := by
      unfold listAt
      rw [List.getD_eq_getElem?_getD, List.getElem?_eq_none (by omega)]; rfl
    omega
end Go.Proofs.Ytffkhhblppfbfaa.Ev
namespace Go.Proofs.Ytffkhhblppfbfaa.Ev
open Go
set_option linter.unusedVariables false
mutual
def nodes : Tree → Nat
  | .mk _ _ ps => 1 + nodess ps
def nodess : List Tree → Nat
  | [] => 0
  | p :: r => nodes p + nodess r
end
mutual
def TOk : Tree → Prop
  | .mk o n ps => (-9223372036854775808 ≤ o ∧ o ≤ 9223372036854775807) ∧ (-9223372036854775808 ≤ n ∧ n ≤ 9223372036854775807) ∧ ps.length ≤ maxLen ∧ TOks ps
def TOks : List Tree → Prop
  | [] => True
  | p :: r => TOk p ∧ TOks r
end
theorem TOks_get : ∀ {ps : List Tree}, TOks ps → ∀ i (h : i < ps.length), TOk ps[i]
  | [], _, i, h => by simp at h
  | p :: r, hp, 0, _ => hp.1
  | p :: r, hp, i + 1, h => by simpa using TOks_get hp.2 i (by simpa using h)
theorem TOks_mk : ∀ {ps : List Tree}, (∀ p ∈ ps, TOk p) → TOks ps
  | [], _ => trivial
  | p :: r, h => ⟨h p (.head _), TOks_mk fun q hq => h q (.tail _ hq)⟩
theorem nodes_pos (t : Tree) : 1 ≤ nodes t := by cases t; simp [nodes]
theorem nodess_len : ∀ ps : List Tree, ps.length ≤ nodess ps
  | [] => by simp
  | p :: r => by have := nodess_len r; have := nodes_pos p; simp [nodess]; omega
theorem nodess_drop {ps : List Tree} {i : Nat} (h : i < ps.length) : nodess (ps.drop i) = nodes ps[i] + nodess (ps.drop (i + 1)) := by
  rw [List.drop_eq_getElem_cons h]; rfl
theorem nodess_drop_le : ∀ (ps : List Tree) (i : Nat), nodess (ps.drop i) ≤ nodess ps
  | [], i => by simp
  | p :: r, 0 => by simp
  | p :: r, i + 1 => by have := nodess_drop_le r i; simp [nodess]; omega
theorem nodes_get {ps : List Tree} {i : Nat} (h : i < ps.length) : nodes ps[i] ≤ nodess ps := by
  have h1 := nodess_drop h
  have h2 := nodess_drop_le ps i
  omega
end Go.Proofs.Ytffkhhblppfbfaa.Ev
namespace Go.Proofs.Ytffkhhblppfbfaa.Ev
open Go
set_option linter.unusedVariables false
theorem eq_ok (L N : Nat) : ∀ m : Nat, (∀ t : Tree, 2 * nodes t ≤ m → nodes t < L → nodes t ≤ lim → f10 L N m t t = some true) ∧
    (∀ ps : List Tree, 2 * nodess ps + 1 ≤ m → nodess ps < L → nodess ps ≤ lim → f34 L N m ps ps = some true) := by
  intro m
  induction m with
  | zero => exact ⟨fun t h => by have := nodes_pos t; omega, fun ps h => by omega⟩
  | succ m ih =>
    refine ⟨fun t h hL hl => ?_, fun ps h hL hl => ?_⟩
    · obtain ⟨o, a, ps⟩ := t
      simp only [nodes] at h hL hl
      show f10.b L N _ _ some (Tree.mk o a ps) (Tree.mk o a ps) = _
      unfold f10.b f10.b'
      simp only [bne_self_eq_false, cond_false]
      show ((f34 L N m ps ps).bind _) = _
      rw [ih.2 ps (by omega) (by omega) (by omega)]
      rfl
    · have hll := nodess_len ps
      have hlim : lim = 1099511627776 := rfl
      show f34.b L N _ _ some ps ps = _
      unfold f34.b f34.b'
      simp only [bne_self_eq_false, cond_false]
      have key : ∀ (n i : Nat), ps.length - i < n → i ≤ ps.length →
          f34.l0 L N (f10 L N m) (f34 L N m) (f34.p0_e0 L N (f10 L N m) (f34 L N m) some) (fun z => f34.p0_r L N (f10 L N m) (f34 L N m) some z) n ps ps (i : Int) = some true := by
        intro n
        induction n with
        | zero => intro i h; omega
        | succ n ihn =>
          intro i h2 hi
          show f34.s0 L N _ _ _ _ (f34.l0 L N _ _ _ _ n) ps ps i = _
          unfold f34.s0 f34.s0'
          by_cases hlt : i < ps.length
          · have hg := nodes_get hlt
            simp only [lt_cast hlt, le0, cond_true, Bool.and_true, wi_nat (show i < 9223372036854775807 by omega), Int.toNat_natCast, at_lt hlt]
            rw [ih.1 ps[i] (by omega) (by omega) (by omega)]
            exact ihn (i + 1) (by omega) (by omega)
          · simp only [ge_cast hlt, cond_false]
            rfl
      exact key L 0 (by omega) (by omega)
theorem fnodes_ok (L N : Nat) : ∀ (m : Nat) (t : Tree) (most : Int), nodes t ≤ m → nodes t < L → nodes t ≤ lim → 0 ≤ most → most ≤ 1000 →
    ∃ r : Int, f44 L N m t most = some r ∧ ((nodes t : Int) ≤ most → r = nodes t) ∧ (most < (nodes t : Int) → most < r ∧ r ≤ nodes t) := by
  intro m
  induction m with
  | zero => intro t most h; have := nodes_pos t; omega
  | succ m ih =>
    intro t most h hL hl h0 h1
    obtain ⟨o, a, ps⟩ := t
    have hlim : lim = 1099511627776 := rfl
    simp only [nodes] at h hL hl ⊢
    have hll := nodess_len ps
    show ∃ r, f44.b L N _ some (Tree.mk o a ps) most = some r ∧ _
    unfold f44.b f44.b'
    have key : ∀ (n i : Nat) (k : Int), ps.length - i < n → i ≤ ps.length → 1 ≤ k → k ≤ 1 + nodess ps - nodess (ps.drop i) → (k ≤ most → k = 1 + nodess ps - nodess (ps.drop i)) →
        ∃ r : Int, f44.l0 L N (f44 L N m) (fun z => f44.p0_e0 L N (f44 L N m) some z) (fun z z' => f44.p0_r L N (f44 L N m) some z z') n most k ps (ps.length : Int) (i : Int) = some r ∧
          (((1 + nodess ps : Nat) : Int) ≤ most → r = (1 + nodess ps : Nat)) ∧ (most < ((1 + nodess ps : Nat) : Int) → most < r ∧ r ≤ (1 + nodess ps : Nat)) := by
      intro n
      induction n with
      | zero => intro i k h; omega
      | succ n ihn =>
        intro i k h2 hi k1 k2 k3
        have hdl := nodess_drop_le ps i
        show ∃ r, f44.s0 L N _ _ _ (f44.l0 L N _ _ _ n) most k ps (ps.length : Int) i = some r ∧ _
        unfold f44.s0 f44.s0'
        by_cases hlt : i < ps.length
        · have hg := nodes_get hlt
          have hd := nodess_drop hlt
          simp only [lt_cast hlt, le0, cond_true, Bool.and_true, wi_nat (show i < 9223372036854775807 by omega), Int.toNat_natCast, at_lt hlt]
          by_cases hk : k > most
          · rw [dt hk, cond_true]
            exact ⟨k, rfl, by omega, by omega⟩
          · rw [df hk, cond_false, wi_id (by omega) (by omega)]
            obtain ⟨r, hr, r1, r2⟩ := ih ps[i] (most - k) (by omega) (by omega) (by omega) (by omega) (by omega)
            have he : Tree.mk (ps[i]).op (ps[i]).n (ps[i]).parts = ps[i] := by cases ps[i]; rfl
            have hp := nodes_pos ps[i]
            rw [he, hr]
            simp only [Option.bind_some]
            have hr0 : 0 ≤ r ∧ r ≤ nodes ps[i] := by
              by_cases hc : (nodes ps[i] : Int) ≤ most - k
              · have := r1 hc; omega
              · have := r2 (by omega); omega
            rw [wi_id (by omega) (by omega)]
            refine ihn (i + 1) (k + r) (by omega) (by omega) (by omega) (by omega) (fun hkr => ?_)
            by_cases hc : (nodes ps[i] : Int) ≤ most - k
            · have := r1 hc; omega
            · have := r2 (by omega); omega
        · simp only [ge_cast hlt, cond_false]
          have hi' : i = ps.length := by omega
          subst hi'
          rw [List.drop_length] at k2 k3 hdl
          simp only [nodess] at k2 k3
          exact ⟨k, rfl, by omega, by omega⟩
    exact key L 0 1 (by omega) (by omega) (by omega) (by simp) (by simp)
def ar (o : Int) : Nat := if o = 1 ∨ o = 3 then 1 else if o = 2 then 2 else 0
def good1 (o n : Int) (k : Nat) : Bool := decide (0 ≤ o ∧ o ≤ 3 ∧ k = ar o ∧ (o = 3 ∨ n = 0) ∧ -4 ≤ n ∧ n ≤ 4)
mutual
def shape : Tree → Bool
  | .mk o n ps => good1 o n ps.length && shapes ps
def shapes : List Tree → Bool
  | [] => true
  | p :: r => shape p && shapes r
end
theorem shapes_drop {ps : List Tree} {i : Nat} (h : i < ps.length) : shapes (ps.drop i) = (shape ps[i] && shapes (ps.drop (i + 1))) := by
  rw [List.drop_eq_getElem_cons h]; rfl
theorem l7_ok (L N : Nat) : ∀ (m : Nat) (t : Tree), nodes t ≤ m → nodes t < L → TOk t → f53 L N m t = some (if shape t = true then ((min 1000 (nodes t) : Nat) : Int) else 0) := by
  intro m
  induction m with
  | zero => intro t h; have := nodes_pos t; omega
  | succ m ih =>
    intro t h hL ht
    obtain ⟨o, a, ps⟩ := t
    have hml : maxLen = 9223372036854775807 := rfl
    have hlen := ht.2.2.1
    simp only [nodes] at h hL
    have hll := nodess_len ps
    have key : ∀ (n i : Nat) (c : Nat), ps.length - i < n → i ≤ ps.length → 1 ≤ c → c ≤ 1000 → ∀ o a : Int,
        f53.l0 L N (f53 L N m) (fun z => f53.p0_e0 L N (f53 L N m) some z) (fun z z' => f53.p0_r L N (f53 L N m) some z z') n (c : Int) (i : Int) o a ps =
          some (if shapes (ps.drop i) = true then ((min 1000 (c + nodess (ps.drop i)) : Nat) : Int) else 0) := by
      intro n
      induction n with
      | zero => intro i c h; omega
      | succ n ihn =>
        intro i c h2 hi c1 c2 o a
        show f53.s0 L N _ _ _ (f53.l0 L N _ _ _ n) (c : Int) i o a ps = _
        unfold f53.s0 f53.s0'
        by_cases hlt : i < ps.length
        · have hg := nodes_get hlt
          have hp := nodes_pos ps[i]
          simp only [lt_cast hlt, le0, cond_true, Bool.and_true, wi_nat (show i < 9223372036854775807 by omega), Int.toNat_natCast, at_lt hlt]
          rw [ih ps[i] (by omega) (by omega) (TOks_get ht.2.2.2 i hlt), shapes_drop hlt, nodess_drop hlt]
          simp only [Option.bind_some]
          cases hs : shape ps[i]
          · simp only [Bool.false_eq_true, if_false, beq_self_eq_true, cond_true, Bool.false_and]
            rfl
          · simp only [if_true, Bool.true_and]
            have hne : (((min 1000 (nodes ps[i]) : Nat) : Int) == 0) = false := by simp; omega
            rw [hne, cond_false, wi_id (by omega) (by omega)]
            have hc : (bif decide ((c : Int) + ((min 1000 (nodes ps[i]) : Nat) : Int) < 1000) then ((c : Int) + ((min 1000 (nodes ps[i]) : Nat) : Int)) else (1000 : Int)) = ((min 1000 (c + nodes ps[i]) : Nat) : Int) := by
              by_cases hlt : (c : Int) + ((min 1000 (nodes ps[i]) : Nat) : Int) < 1000
              · rw [dt hlt, cond_true]; omega
              · rw [df hlt, cond_false]; omega
            have e : min 1000 (min 1000 (c + nodes ps[i]) + nodess (ps.drop (i + 1))) = min 1000 (c + (nodes ps[i] + nodess (ps.drop (i + 1)))) := by omega
            rw [hc, ihn (i + 1) _ (by omega) (by omega) (by omega) (by omega), e]
        · simp only [ge_cast hlt, cond_false]
          have hi' : i = ps.length := by omega
          subst hi'
          rw [List.drop_length]
          simp only [shapes, if_true, nodess]
          have hc : min 1000 (c + 0) = c := by omega
          unfold f53.p0_e0 f53.p0_e0'
          rw [hc]
    have j0 : ∀ v v', f53.j0' L N (f53 L N m) some (fun s9 s10 s11 s12 s13 => f53.l0 L N (f53 L N m) (fun z14 => f53.p0_e0 L N (f53 L N m) some z14) (fun z16 z17 => f53.p0_r L N (f53 L N m) some z16 z17) L s9 s10 s11 s12 s13) v v' ps =
        some (if shapes ps = true then ((min 1000 (1 + nodess ps) : Nat) : Int) else 0) := fun v v' => by
      refine (key L 0 1 (by omega) (by omega) (by omega) (by omega) v v').trans ?_
      rw [List.drop_zero]
    have fin : ∀ t : Tree, t.op = o → t.n = a → t.parts = ps → f53.b L N (f53 L N m) some t = some (if (good1 o a ps.length && shapes ps) = true then ((min 1000 (1 + nodess ps) : Nat) : Int) else 0) := by
     intro t e1 e2 e3
     unfold f53.b f53.b'
     rw [e1, e2, e3]
     simp only [in_ok, act2_ok, Option.bind_some, j0]
     unfold good1
     by_cases h1 : 0 ≤ o ∧ o ≤ 3
     · rw [dt h1]
       simp only [Bool.not_true, cond_false]
       have hat : listAt ([(0 : Int), (1 : Int), (2 : Int), (1 : Int)] : List Int) (0 : Int) o.toNat = (ar o : Int) := by
         rcases (show o = 0 ∨ o = 1 ∨ o = 2 ∨ o = 3 by omega) with rfl | rfl | rfl | rfl <;> rfl
       have hin : (decide (0 ≤ o) && decide (o < (([(0 : Int), (1 : Int), (2 : Int), (1 : Int)] : (List Int)).length : Int))) = true := by simp; omega
       rw [hin, hat]
       simp only [cond_true]
       by_cases h2 : ps.length = ar o
       · have hb : ((ps.length : Int) != (ar o : Int)) = false := by simp; omega
         rw [hb]
         simp only [cond_false]
         by_cases h3 : -4 ≤ a ∧ a ≤ 4
         · rw [dt h3]
           simp only [Bool.not_true, cond_false]
           by_cases h4 : o = 3
           · subst h4
             simp [h2, h3]
           · have e1 : (o != 3) = true := by simpa using h4
             rw [e1]
             simp only [cond_true]
             by_cases h5 : a = 0
             · subst h5; simp [h1, h2, h4]
             · have e2 : (a != 0) = true := by simpa using h5
               rw [e2]; simp [h4, h5]
         · rw [df h3]
           simp only [Bool.not_false, cond_true]
           have : ¬ (0 ≤ o ∧ o ≤ 3 ∧ ps.length = ar o ∧ (o = 3 ∨ a = 0) ∧ -4 ≤ a ∧ a ≤ 4) := fun h => h3 h.2.2.2.2
           rw [df this]; rfl
       · have hb : ((ps.length : Int) != (ar o : Int)) = true := by simp; omega
         rw [hb]
         simp only [cond_true]
         have : ¬ (0 ≤ o ∧ o ≤ 3 ∧ ps.length = ar o ∧ (o = 3 ∨ a = 0) ∧ -4 ≤ a ∧ a ≤ 4) := fun h => h2 h.2.2.1
         rw [df this]; rfl
     · rw [df h1]
       simp only [Bool.not_false, cond_true]
       have : ¬ (0 ≤ o ∧ o ≤ 3 ∧ ps.length = ar o ∧ (o = 3 ∨ a = 0) ∧ -4 ≤ a ∧ a ≤ 4) := fun h => h1 ⟨h.1, h.2.1⟩
       rw [df this]; rfl
    exact fin (Tree.mk o a ps) rfl rfl rfl
theorem formOk2_ok (L N : Nat) (t : Tree) (hN : nodes t ≤ N) (hL : nodes t < L) (ht : TOk t) : f29 L N t = some (decide (nodes t ≤ 60) && shape t) := by
  show f29.b L N some t = _
  unfold f29.b f29.b'
  rw [mk_eta, l7_ok L N N t hN hL ht]
  have hp := nodes_pos t
  simp only [Option.bind_some, in_ok]
  cases shape t
  · simp
  · simp only [if_true, Bool.and_true]
    congr 1
    by_cases h : nodes t ≤ 60
    · rw [dt h, dt (by omega)]
    · rw [df h, df (by omega)]
end Go.Proofs.Ytffkhhblppfbfaa.Ev
namespace Go.Proofs.Ytffkhhblppfbfaa.Ev
open Go
set_option linter.unusedVariables false
mutual
def depth : Tree → Nat
  | .mk o _ ps => depths ps + if o = 3 then 1 else 0
def depths : List Tree → Nat
  | [] => 0
  | p :: r => max (depth p) (depths r)
end
end Go.Proofs.Ytffkhhblppfbfaa.Ev
namespace Go.Proofs.Ytffkhhblppfbfaa.Ev
open Go
set_option linter.unusedVariables false
set_option linter.unusedSimpArgs false
def Tr (l : List Bool) (t : Nat) : Prop := l.getD t false = true
def cnt : List Bool → Nat
  | [] => 0
  | b :: r => (bif b then 1 else 0) + cnt r
theorem cnt_le : ∀ l : List Bool, cnt l ≤ l.length
  | [] => Nat.le_refl _
  | b :: r => by have := cnt_le r; cases b <;> simp [cnt] <;> omega
def Leads (ms : List (List Move)) : Prop := ms.length ≤ 60 ∧ ∀ (i : Nat) (hi : i < ms.length), (ms[i]).length ≤ 1048576 ∧ ∀ (k : Nat) (hk : k < (ms[i]).length), 0 ≤ (ms[i])[k].to ∧ (ms[i])[k].to < (ms.length : Int)
theorem leads_of {g : Graph} (h : graphOk g = true) (hs : g.moves.length + gsize g.moves ≤ 1048576) : Leads g.moves := by
  obtain ⟨h1, h2, h3⟩ := graphOk_mv h
  refine ⟨h2, fun i hi => ⟨?_, fun k hk => ?_⟩⟩
  · have := gsize_row _ (List.getElem_mem hi); omega
  · have := h3 i hi k hk; exact ⟨this.2.2.1, this.2.2.2⟩
theorem Leads.nat {ms : List (List Move)} (h : Leads ms) {i : Nat} (hi : i < ms.length) {k : Nat} (hk : k < (ms[i]).length) : ∃ t : Nat, (ms[i])[k].to = (t : Int) ∧ t < ms.length := by
  obtain ⟨h1, h2⟩ := (h.2 i hi).2 k hk
  obtain ⟨t, ht⟩ := Int.eq_ofNat_of_zero_le h1
  exact ⟨t, ht, by omega⟩
end Go.Proofs.Ytffkhhblppfbfaa.Ev
namespace Go.Proofs.Ytffkhhblppfbfaa.Ev
open Go
set_option linter.unusedVariables false
set_option linter.unusedSimpArgs false
def QOk (ms : List (List Move)) (seen : List Bool) (q : List Int) : Prop := seen.length = ms.length ∧ (∀ v ∈ q, ∃ t : Nat, v = (t : Int) ∧ Tr seen t) ∧ (∀ t : Nat, Tr seen t → (t : Int) ∈ q) ∧ q.length = cnt seen ∧ q.Nodup
theorem QOk.len {ms : List (List Move)} {seen : List Bool} {q : List Int} (h : QOk ms seen q) : q.length ≤ ms.length := by
  have := cnt_le seen
  obtain ⟨h1, -, -, h4, -⟩ := h
  omega
end Go.Proofs.Ytffkhhblppfbfaa.Ev
namespace Go.Proofs.Ytffkhhblppfbfaa.Ev
open Go
set_option linter.unusedVariables false
set_option linter.unusedSimpArgs false
def mayP (a : Int) (q : List Bool) (m : Move) : Bool := m.act == a && q.getD m.to.toNat false
def combAt (ms : List (List Move)) (o a : Int) (qs : List (List Bool)) (s : Nat) : Bool :=
  if o = 0 then true else if o = 1 then !((qs.getD 0 []).getD s false) else if o = 2 then (qs.getD 0 []).getD s false && (qs.getD 1 []).getD s false else (ms.getD s []).any (mayP a (qs.getD 0 []))
def comb (ms : List (List Move)) (o a : Int) (qs : List (List Bool)) : List Bool := (List.range ms.length).map (combAt ms o a qs)
mutual
def fw (ms : List (List Move)) : Tree → List Bool
  | .mk o a ps => comb ms o a (fws ms ps)
def fws (ms : List (List Move)) : List Tree → List (List Bool)
  | [] => []
  | p :: r => fw ms p :: fws ms r
end
theorem getD_set_self {α : Type} {l : List α} {i : Nat} {a d : α} (h : i < l.length) : (l.set i a).getD i d = a := by
  rw [List.getD_eq_getElem?_getD, List.getElem?_set_self h]; rfl
theorem set_set_same {α : Type} {l : List α} {i : Nat} {a b : α} : (l.set i a).set i b = l.set i b := List.set_set ..
end Go.Proofs.Ytffkhhblppfbfaa.Ev
namespace Go.Proofs.Ytffkhhblppfbfaa.Ev
open Go
set_option linter.unusedVariables false
set_option linter.unusedSimpArgs false
end Go.Proofs.Ytffkhhblppfbfaa.Ev
namespace Go.Proofs.Ytffkhhblppfbfaa.Ev
open Go
set_option linter.unusedVariables false
set_option linter.unusedSimpArgs false
def upM (k : Int) (n : Nat) : List Move := (List.range n).map fun (i : Nat) => Move.mk (k + 2 * (i : Int)) (k + 2 * (i : Int) + 1)
theorem upM_len (k : Int) (n : Nat) : (upM k n).length = n := by simp [upM]
theorem upM_at (k : Int) (n : Nat) {i : Nat} (h : i < (upM k n).length) : (upM k n)[i] = Move.mk (k + 2 * (i : Int)) (k + 2 * (i : Int) + 1) := by simp [upM]
theorem markMoveS_eq (L N : Nat) (xs : List Move) (k : Int) (hL : xs.length < L) (h0 : 0 ≤ k) (hk : k + 2 * (xs.length : Int) ≤ 4611686018427387904) (hl : xs.length ≤ 4611686018427387904) :
    f61 L N xs k = some (k + 2 * (xs.length : Int), upM k xs.length) := by
  show f61.b L N xs.length _ xs k = _
  unfold f61.b f61.b'
  have key : ∀ (n i : Nat) (ys : List Move), ys.length = xs.length → i ≤ xs.length → xs.length - i < n → (∀ t, t < i → ys[t]? = some (Move.mk (k + 2 * (t : Int)) (k + 2 * (t : Int) + 1))) →
      f61.l0 L N xs.length (fun z3 z4 => f61.p0_e0 L N xs.length (fun a0 a1 => some (a0, a1)) z3 z4) n (k + 2 * (i : Int)) (i : Int) ys = some (k + 2 * (xs.length : Int), upM k xs.length) := by
    intro n
    induction n with
    | zero => intro i ys _ _ h; omega
    | succ n ih =>
      intro i ys hy hi hn hp
      show f61.s0 L N xs.length _ (f61.l0 L N xs.length _ n) (k + 2 * (i : Int)) (i : Int) ys = _
      unfold f61.s0 f61.s0'
      by_cases hlt : i < ys.length
      · simp only [lt_cast hlt, le0, cond_true, Bool.and_true, Int.toNat_natCast, List.length_set]
        rw [show wi (wi (k + 2 * (i : Int) + 1) + 1) = k + 2 * ((i + 1 : Nat) : Int) by rw [wi_id (n := k + 2 * (i : Int) + 1) (by omega) (by omega), wi_id (by omega) (by omega)]; omega, wi_nat (show i < 9223372036854775807 by omega), wi_id (n := k + 2 * (i : Int) + 1) (by omega) (by omega)]
        refine ih (i + 1) _ (by simp [hy]) (by omega) (by omega) (fun t ht => ?_)
        by_cases e : t = i
        · subst e
          simp [hlt, atD, List.getD, List.getElem?_set, List.getElem?_eq_getElem]
        · rw [List.getElem?_set_ne (by omega)]
          try rw [List.getElem?_set_ne (by omega)]
          exact hp t (by omega)
      · simp only [ge_cast hlt, cond_false]
        have hi' : i = xs.length := by omega
        subst hi'
        have hys : ys = upM k xs.length := by
          apply List.ext_getElem?
          intro t
          by_cases ht : t < xs.length
          · rw [hp t ht, List.getElem?_eq_getElem (by rw [upM_len]; exact ht), upM_at]
          · rw [List.getElem?_eq_none (by omega), List.getElem?_eq_none (by rw [upM_len]; omega)]
        unfold f61.p0_e0 f61.p0_e0'
        rw [hy, Nat.beq_refl, cond_true, hys]
  have := key L 0 xs rfl (by omega) (by omega) (fun t ht => by omega)
  rw [show k + 2 * ((0 : Nat) : Int) = k by omega] at this
  exact this
def Mk : Int → List (List Move) → Int → Prop
  | k, [], j => j = k
  | k, r :: rs, j => r = upM k r.length ∧ Mk (k + 2 * (r.length : Int)) rs j
theorem Mk.le : ∀ {k j : Int} {rs : List (List Move)}, Mk k rs j → k ≤ j
  | k, j, [], h => by have h : j = k := h; omega
  | k, j, r :: rs, h => by have := Mk.le h.2; omega
theorem Mk.snoc : ∀ {k j : Int} {rs : List (List Move)} (n : Nat), Mk k rs j → Mk k (rs ++ [upM j n]) (j + 2 * (n : Int))
  | k, j, [], n, h => by
    have h : j = k := h
    subst h
    exact ⟨by rw [upM_len], by rw [upM_len]; exact rfl⟩
  | k, j, r :: rs, n, h => ⟨h.1, Mk.snoc n h.2⟩
theorem markMoveSS_eq (L N : Nat) (xs : List (List Move)) (k : Int) (hL : xs.length < L) (hr : ∀ r ∈ xs, r.length < L ∧ r.length ≤ 1048576) (hl : xs.length ≤ 1048576) (h0 : 0 ≤ k) (hk : k ≤ 1048576) :
    ∃ (j : Int) (ys : List (List Move)), f36 L N xs k = some (j, ys) ∧ Mk k ys j ∧ 0 ≤ j ∧ j ≤ k + 2097152 * (xs.length : Int) ∧ ys.length = xs.length ∧ ∀ r ∈ ys, r.length < L ∧ r.length ≤ 1048576 := by
  show ∃ j ys, f36.b L N xs.length _ xs k = _ ∧ _
  unfold f36.b f36.b'
  have key : ∀ (n i : Nat) (s : Int) (ys : List (List Move)), ys.length = xs.length → i ≤ xs.length → xs.length - i < n → (∀ r ∈ ys, r.length < L ∧ r.length ≤ 1048576) → 0 ≤ s → s ≤ k + 2097152 * (i : Int) → Mk k (ys.take i) s →
      ∃ (j : Int) (zs : List (List Move)), f36.l0 L N xs.length (fun z3 z4 => f36.p0_e0 L N xs.length (fun a0 a1 => some (a0, a1)) z3 z4) n s (i : Int) ys = some (j, zs) ∧ Mk k zs j ∧ 0 ≤ j ∧ j ≤ k + 2097152 * (xs.length : Int) ∧ zs.length = xs.length ∧ ∀ r ∈ zs, r.length < L ∧ r.length ≤ 1048576 := by
    intro n
    induction n with
    | zero => intro i s ys _ _ h; omega
    | succ n ih =>
      intro i s ys hy hi hn hro hs0 hs1 hmk
      show ∃ j zs, f36.s0 L N xs.length _ (f36.l0 L N xs.length _ n) s (i : Int) ys = _ ∧ _
      unfold f36.s0 f36.s0'
      by_cases hlt : i < ys.length
      · have hri := hro ys[i] (List.getElem_mem hlt)
        have hz := markMoveS_eq L N ys[i] s hri.1 hs0 (by omega) (by omega)
        simp only [lt_cast hlt, le0, cond_true, Bool.and_true, Int.toNat_natCast, at_lt hlt, hz, Option.bind_some]
        rw [wi_nat (by omega)]
        refine ih (i + 1) _ _ (by simp [hy]) (by omega) (by omega) (fun r hr => ?_) (by omega) (by omega) ?_
        · rcases List.mem_or_eq_of_mem_set hr with q | q
          · exact hro r q
          · rw [q, upM_len]; exact hri
        · rw [List.take_add_one, List.getElem?_set_self hlt, List.take_set_of_le (Nat.le_refl i)]
          exact hmk.snoc _
      · simp only [ge_cast hlt, cond_false]
        have hi' : i = xs.length := by omega
        subst hi'
        unfold f36.p0_e0 f36.p0_e0'
        rw [hy, Nat.beq_refl, cond_true]
        rw [List.take_of_length_le (by omega)] at hmk
        exact ⟨_, _, rfl, hmk, hs0, hs1, hy, hro⟩
  exact key L 0 k xs rfl (by omega) (by omega) hr h0 (by omega) rfl
end Go.Proofs.Ytffkhhblppfbfaa.Ev
namespace Go.Proofs.Ytffkhhblppfbfaa.Ev
open Go
set_option linter.unusedVariables false
set_option linter.unusedSimpArgs false
end Go.Proofs.Ytffkhhblppfbfaa.Ev
namespace Go.Proofs.Ytffkhhblppfbfaa.Ev
open Go
set_option linter.unusedVariables false
set_option linter.unusedSimpArgs false
theorem tr_op (o n : Int) (p : List Tree) : (Tree.mk o n p).op = o := rfl
theorem tr_n (o n : Int) (p : List Tree) : (Tree.mk o n p).n = n := rfl
theorem tr_parts (o n : Int) (p : List Tree) : (Tree.mk o n p).parts = p := rfl
end Go.Proofs.Ytffkhhblppfbfaa.Ev
namespace Go.Proofs.Ytffkhhblppfbfaa.Ev
open Go
set_option linter.unusedVariables false
set_option linter.unusedSimpArgs false
theorem less_irrefl (a : Move) : lessM a a = false := by unfold lessM; exact decide_eq_false (by omega)
theorem less_trans {a b c : Move} (h1 : lessM a b = true) (h2 : lessM b c = true) : lessM a c = true := by
  unfold lessM at *; have h1 := of_decide_eq_true h1; have h2 := of_decide_eq_true h2; exact decide_eq_true (by omega)
theorem less_ne {a b : Move} (h : lessM a b = true) : a ≠ b := fun e => by rw [e, less_irrefl] at h; cases h
def RisesM (l : List Move) : Prop := l.Pairwise fun a b => lessM a b = true
theorem risesM_ext : ∀ {a b : List Move}, RisesM a → RisesM b → (∀ x, x ∈ a ↔ x ∈ b) → a = b
  | [], [], _, _, _ => rfl
  | [], y :: b, _, _, h => absurd ((h y).2 (.head _)) (by simp)
  | x :: a, [], _, _, h => absurd ((h x).1 (.head _)) (by simp)
  | x :: a, y :: b, ha, hb, h => by
    have ha' := List.pairwise_cons.1 ha
    have hb' := List.pairwise_cons.1 hb
    have hxy : x = y := by
      rcases List.mem_cons.1 ((h x).1 (.head _)) with e | e
      · exact e
      · rcases List.mem_cons.1 ((h y).2 (.head _)) with e' | e'
        · exact e'.symm
        · have q := less_trans (hb'.1 x e) (ha'.1 y e')
          rw [less_irrefl] at q; cases q
    subst hxy
    refine congrArg (x :: ·) (risesM_ext ha'.2 hb'.2 fun z => ?_)
    have := h z
    simp only [List.mem_cons] at this
    constructor
    · intro hz
      rcases this.1 (.inr hz) with e | e
      · exact absurd e.symm (less_ne (ha'.1 z hz))
      · exact e
    · intro hz
      rcases this.2 (.inr hz) with e | e
      · exact absurd e.symm (less_ne (hb'.1 z hz))
      · exact e
end Go.Proofs.Ytffkhhblppfbfaa.Ev
namespace Go.Proofs.Ytffkhhblppfbfaa.Ev
open Go
set_option linter.unusedVariables false
set_option linter.unusedSimpArgs false
theorem leM_iff (x y : Move) : leM x y = true ↔ lessM x y = true ∨ x = y := by
  unfold leM lessM
  obtain ⟨a, b⟩ := x
  obtain ⟨c, d⟩ := y
  simp only [decide_eq_true_eq, Move.mk.injEq]
  omega
theorem sortM_le (xs : List Move) : (sortM xs).Pairwise fun a b => leM a b = true := by
  refine List.pairwise_mergeSort (fun a b c h1 h2 => ?_) (fun a b => ?_) xs
  · rw [leM_iff] at *
    rcases h1 with h1 | rfl
    · rcases h2 with h2 | rfl
      · exact .inl (less_trans h1 h2)
      · exact .inl h1
    · exact h2
  · unfold leM
    simp only [Bool.or_eq_true, decide_eq_true_eq]
    omega
theorem getM {zs : List Move} {i : Nat} (h : i < zs.length) : (zs.toArray)[i]! = zs[i] := by simp [getElem!_pos, h]
theorem compact_rises {zs : List Move} (hs : zs.Pairwise fun a b => leM a b = true) : RisesM (Go.Lib.compact zs) := by
  unfold RisesM Go.Lib.compact Go.Lib.compactUpTo
  rw [List.pairwise_map]
  refine List.Pairwise.imp_of_mem ?_ (List.Pairwise.filter _ List.pairwise_lt_range)
  intro i j hi hj hij
  rw [List.mem_filter, List.mem_range] at hi hj
  have hjl := hj.1
  rw [getM hi.1, getM hj.1]
  have hk := hj.2
  unfold Go.Lib.keeps at hk
  have hk := of_decide_eq_true hk
  have hne : zs[j] ≠ zs[j - 1] := by
    rcases hk with h | h
    · omega
    · rwa [getM hj.1, getM (show j - 1 < zs.length by omega)] at h
  have hlast : lessM zs[j - 1] zs[j] = true := by
    rcases (leM_iff _ _).1 (List.pairwise_iff_getElem.1 hs (j - 1) j (by omega) (by omega) (by omega)) with h | h
    · exact h
    · exact absurd h.symm hne
  by_cases e : i = j - 1
  · subst e; exact hlast
  · rcases (leM_iff _ _).1 (List.pairwise_iff_getElem.1 hs i (j - 1) (by omega) (by omega) (by omega)) with h | h
    · exact less_trans h hlast
    · rw [h]; exact hlast
theorem compact_mem (zs : List Move) (v : Move) : v ∈ Go.Lib.compact zs ↔ v ∈ zs := by
  unfold Go.Lib.compact Go.Lib.compactUpTo
  rw [List.mem_map]
  constructor
  · rintro ⟨i, hi, rfl⟩
    rw [List.mem_filter, List.mem_range] at hi
    rw [getM hi.1]; exact List.getElem_mem hi.1
  · intro hv
    obtain ⟨i, hi, rfl⟩ := List.mem_iff_getElem.1 hv
    clear hv
    induction i with
    | zero => exact ⟨0, by rw [List.mem_filter, List.mem_range]; exact ⟨hi, by simp [Go.Lib.keeps]⟩, getM hi⟩
    | succ i ih =>
      by_cases hk : Go.Lib.keeps zs.toArray (i + 1) = true
      · exact ⟨i + 1, by rw [List.mem_filter, List.mem_range]; exact ⟨hi, hk⟩, getM hi⟩
      · have : zs[i + 1] = zs[i] := by
          unfold Go.Lib.keeps at hk
          have hk : ¬ (i + 1 = 0 ∨ zs.toArray[i + 1]! ≠ zs.toArray[i + 1 - 1]!) := fun h => hk (decide_eq_true h)
          have h2 := Classical.not_not.1 (fun h => hk (.inr h))
          rw [getM hi, Nat.add_sub_cancel, getM (show i < zs.length by omega)] at h2
          exact h2
        rw [this]
        exact ih (by omega)
theorem tidyM_rises (xs : List Move) : RisesM (tidyM xs) := compact_rises (sortM_le xs)
theorem tidyM_mem (xs : List Move) (v : Move) : v ∈ tidyM xs ↔ v ∈ xs := (compact_mem _ v).trans (sortM_mem xs v)
theorem fsortM_some {xs : List Move} (h : xs.length ≤ 1099511627776) : fsortM xs = some () := by
  unfold fsortM; rw [show decide (xs.length ≤ lim) = true from decide_eq_true (by rw [lim_eq]; exact h)]; rfl
end Go.Proofs.Ytffkhhblppfbfaa.Ev
namespace Go.Proofs.Ytffkhhblppfbfaa.Ev
open Go
set_option linter.unusedVariables false
set_option linter.unusedSimpArgs false
def NextE (E : Nat → Nat → Prop) (n : Nat) (q : List Int) : Prop := q.length = n ∧ ∀ (i : Nat) (hi : i < q.length), ∃ j : Nat, q[i] = (j : Int) ∧ j ≤ i ∧ E j i ∧ ∀ j', j' < j → ¬ E j' i
theorem NextE.uniq {E : Nat → Nat → Prop} {n : Nat} {q q' : List Int} (h : NextE E n q) (h' : NextE E n q') : q = q' := by
  apply List.ext_getElem
  · rw [h.1, h'.1]
  · intro i h1 h2
    obtain ⟨j, a1, a2, a3, a4⟩ := h.2 i h1
    obtain ⟨k, b1, b2, b3, b4⟩ := h'.2 i h2
    have : j = k := by
      rcases Nat.lt_trichotomy j k with h | h | h
      · exact absurd a3 (b4 j h)
      · exact h
      · exact absurd b3 (a4 k h)
    rw [a1, b1, this]
theorem NextE.congr {E F : Nat → Nat → Prop} {n : Nat} {q : List Int} (h : NextE E n q) (he : ∀ i j, j ≤ i → i < n → (E j i ↔ F j i)) : NextE F n q :=
  ⟨h.1, fun i hi => by
    obtain ⟨j, a1, a2, a3, a4⟩ := h.2 i hi
    have hn : i < n := by rw [← h.1]; exact hi
    exact ⟨j, a1, a2, (he i j a2 hn).1 a3, fun j' hj' hf => a4 j' hj' ((he i j' (by omega) hn).2 hf)⟩⟩
def Low (p : List Int) : Prop := ∀ (i : Nat) (hi : i < p.length), 0 ≤ p[i] ∧ p[i] ≤ (i : Int)
theorem low_zero (n : Nat) : Low (List.replicate n (0 : Int)) := fun i hi => by rw [List.getElem_replicate]; omega
theorem NextE.low {E : Nat → Nat → Prop} {n : Nat} {q : List Int} (h : NextE E n q) : Low q := fun i hi => by
  obtain ⟨j, a1, a2, -⟩ := h.2 i hi
  rw [a1]; omega
theorem NextE.ge {E : Nat → Nat → Prop} {n : Nat} {p q : List Int} (h : NextE E n q) (hp : p.length = n) (hl : Low p) (hE : ∀ j i, E j i → p.getD j 0 = p.getD i 0) : ∀ (i : Nat) (h1 : i < p.length) (h2 : i < q.length), p[i] ≤ q[i] := fun i h1 h2 => by
  obtain ⟨j, a1, a2, a3, -⟩ := h.2 i h2
  have e := hE j i a3
  have hj : j < p.length := by omega
  rw [getD_lt h1, getD_lt hj] at e
  have := (hl j hj).2
  rw [a1]; omega
def wgt (p : List Int) : Nat := (p.map Int.toNat).sum
theorem wgt_lt : ∀ {p q : List Int}, p.length = q.length → (∀ (i : Nat) (h1 : i < p.length) (h2 : i < q.length), 0 ≤ p[i] ∧ p[i] ≤ q[i]) → p ≠ q → wgt p < wgt q
  | [], [], _, _, h => absurd rfl h
  | [], _ :: _, h, _, _ => by simp at h
  | _ :: _, [], h, _, _ => by simp at h
  | a :: p, b :: q, hl, hle, hne => by
    have h0 := hle 0 (by simp) (by simp)
    have hl' : p.length = q.length := by simpa using hl
    have htl : ∀ (i : Nat) (h1 : i < p.length) (h2 : i < q.length), 0 ≤ p[i] ∧ p[i] ≤ q[i] := fun i h1 h2 => hle (i + 1) (by simp; omega) (by simp; omega)
    simp only [List.getElem_cons_zero] at h0
    unfold wgt
    rw [List.map_cons, List.map_cons, List.sum_cons, List.sum_cons]
    by_cases e : a = b
    · subst e
      have := wgt_lt hl' htl (fun e => hne (by rw [e]))
      unfold wgt at this
      omega
    · by_cases e2 : p = q
      · subst e2; omega
      · have := wgt_lt hl' htl e2
        unfold wgt at this
        omega
theorem wgt_le : ∀ {p : List Int} {B : Nat}, (∀ x ∈ p, x ≤ (B : Int)) → wgt p ≤ p.length * B
  | [], _, _ => by simp [wgt]
  | a :: p, B, h => by
    have h1 := h a (.head _)
    have h2 := wgt_le (p := p) (B := B) fun x hx => h x (.tail _ hx)
    unfold wgt at h2 ⊢
    rw [List.map_cons, List.sum_cons, List.length_cons, Nat.add_mul, Nat.one_mul]
    omega
def Sig (ms : List (List Move)) (p : List Int) (i : Nat) (m : Move) : Prop := ∃ (h : i < ms.length) (k : Nat) (hk : k < (ms[i]).length), m.act = (ms[i])[k].act ∧ m.to = p.getD (ms[i])[k].to.toNat 0
def Akin (ms : List (List Move)) (p : List Int) (j i : Nat) : Prop := p.getD j 0 = p.getD i 0 ∧ ∀ m, Sig ms p i m ↔ Sig ms p j m
theorem Akin.refl (ms : List (List Move)) (p : List Int) (i : Nat) : Akin ms p i i := ⟨rfl, fun _ => Iff.rfl⟩
theorem l4Has_ok (L N : Nat) (ms : List (List Move)) (hm : Leads ms) (hL : 1048576 < L) (p : List Int) (hp : p.length = ms.length) (b : Nat) (hb : b < ms.length) (act c : Int) :
    ∃ r, f52 L N ⟨ms⟩ (b : Int) act p c = some r ∧ (r = true ↔ Sig ms p b ⟨act, c⟩) := by
  have hrow := (hm.2 b hb).1
  show ∃ r, f52.b L N some ⟨ms⟩ (b : Int) act p c = some r ∧ _
  unfold f52.b f52.b'
  have key : ∀ (n k : Nat), k ≤ (ms[b]).length → (ms[b]).length - k < n → (∀ k' (hk' : k' < (ms[b]).length), k' < k → ¬ ((ms[b])[k'].act = act ∧ p.getD (ms[b])[k'].to.toNat 0 = c)) →
      ∃ r, f52.l0 L N (f52.p0_e0 L N some) (fun z13 => f52.p0_r L N some z13) n (b : Int) act p c (k : Int) ms = some r ∧ (r = true ↔ Sig ms p b ⟨act, c⟩) := by
    intro n
    induction n with
    | zero => intro k _ h; omega
    | succ n ih =>
      intro k hk hn hno
      show ∃ r, f52.s0 L N _ _ (f52.l0 L N _ _ n) (b : Int) act p c (k : Int) ms = some r ∧ _
      unfold f52.s0 f52.s0'
      by_cases hlt : k < (ms[b]).length
      · obtain ⟨t, ht, htl⟩ := hm.nat hb hlt
        have htp : t < p.length := by omega
        simp only [le0, lt_cast hb, Bool.and_true, cond_true, Int.toNat_natCast, at_lt hb, lt_cast hlt, at_lt hlt, ht, lt_cast htp, atD]
        have hpt : p.getD t 0 = p.getD (ms[b])[k].to.toNat 0 := by rw [ht, Int.toNat_natCast]
        by_cases h1 : (ms[b])[k].act = act
        · rw [show ((ms[b])[k].act == act) = true by simpa using h1, cond_true]
          by_cases h2 : p.getD t 0 = c
          · rw [show (p.getD t 0 == c) = true by simpa using h2, cond_true]
            exact ⟨true, rfl, by simp only [true_iff]; exact ⟨hb, k, hlt, h1.symm, by rw [← hpt]; exact h2.symm⟩⟩
          · rw [show (p.getD t 0 == c) = false by simpa using h2, cond_false, wi_nat (by omega)]
            refine ih (k + 1) (by omega) (by omega) fun k' hk' hlt' => ?_
            by_cases e : k' = k
            · subst e; rintro ⟨_, q⟩; exact h2 (by rw [hpt]; exact q)
            · exact hno k' hk' (by omega)
        · rw [show ((ms[b])[k].act == act) = false by simpa using h1, cond_false, wi_nat (by omega)]
          refine ih (k + 1) (by omega) (by omega) fun k' hk' hlt' => ?_
          by_cases e : k' = k
          · subst e; rintro ⟨q, _⟩; exact h1 q
          · exact hno k' hk' (by omega)
      · simp only [le0, lt_cast hb, Bool.and_true, cond_true, Int.toNat_natCast, at_lt hb, ge_cast hlt, cond_false]
        refine ⟨false, rfl, ?_⟩
        simp only [Bool.false_eq_true, false_iff]
        rintro ⟨_, k', hk', q1, q2⟩
        exact hno k' hk' (by omega) ⟨q1.symm, q2.symm⟩
  exact key L 0 (by omega) (by omega) (fun _ _ h => by omega)
theorem l4Covers_ok (L N : Nat) (ms : List (List Move)) (hm : Leads ms) (hL : 1048576 < L) (p : List Int) (hp : p.length = ms.length) (a b : Nat) (ha : a < ms.length) (hb : b < ms.length) :
    ∃ r, f67 L N ⟨ms⟩ (a : Int) (b : Int) p = some r ∧ (r = true ↔ ∀ m, Sig ms p a m → Sig ms p b m) := by
  have hrow := (hm.2 a ha).1
  show ∃ r, f67.b L N some ⟨ms⟩ (a : Int) (b : Int) p = some r ∧ _
  unfold f67.b f67.b'
  have key : ∀ (n k : Nat), k ≤ (ms[a]).length → (ms[a]).length - k < n → (∀ k' (hk' : k' < (ms[a]).length), k' < k → Sig ms p b ⟨(ms[a])[k'].act, p.getD (ms[a])[k'].to.toNat 0⟩) →
      ∃ r, f67.l0 L N (f67.p0_e0 L N some) (fun z6 => f67.p0_r L N some z6) n (a : Int) (b : Int) p (k : Int) ms = some r ∧ (r = true ↔ ∀ m, Sig ms p a m → Sig ms p b m) := by
    intro n
    induction n with
    | zero => intro k _ h; omega
    | succ n ih =>
      intro k hk hn hyes
      show ∃ r, f67.s0 L N _ _ (f67.l0 L N _ _ n) (a : Int) (b : Int) p (k : Int) ms = some r ∧ _
      unfold f67.s0 f67.s0'
      by_cases hlt : k < (ms[a]).length
      · obtain ⟨t, ht, htl⟩ := hm.nat ha hlt
        have htp : t < p.length := by omega
        obtain ⟨r, hr, hr2⟩ := l4Has_ok L N ms hm hL p hp b hb (ms[a])[k].act (p.getD t 0)
        have hpt : p.getD t 0 = p.getD (ms[a])[k].to.toNat 0 := by rw [ht, Int.toNat_natCast]
        simp only [le0, lt_cast ha, Bool.and_true, cond_true, Int.toNat_natCast, at_lt ha, lt_cast hlt, at_lt hlt, ht, lt_cast htp, atD, hr, Option.bind_some]
        cases r with
        | true =>
          rw [Bool.not_true, cond_false, wi_nat (by omega)]
          refine ih (k + 1) (by omega) (by omega) fun k' hk' hlt' => ?_
          by_cases e : k' = k
          · subst e; rw [← hpt]; exact hr2.1 rfl
          · exact hyes k' hk' (by omega)
        | false =>
          rw [Bool.not_false, cond_true]
          refine ⟨false, rfl, ?_⟩
          simp only [Bool.false_eq_true, false_iff]
          intro h
          exact absurd (hr2.2 (h _ ⟨ha, k, hlt, rfl, hpt⟩)) (by simp)
      · simp only [le0, lt_cast ha, Bool.and_true, cond_true, Int.toNat_natCast, at_lt ha, ge_cast hlt, cond_false]
        refine ⟨true, rfl, ?_⟩
        simp only [true_iff]
        rintro m ⟨_, k', hk', q1, q2⟩
        have := hyes k' hk' (by omega)
        rw [← q1, ← q2] at this
        exact this
  exact key L 0 (by omega) (by omega) (fun _ _ h => by omega)
theorem l4Next_ok (L N : Nat) (ms : List (List Move)) (hm : Leads ms) (hL : 1048576 < L) (p : List Int) (hp : p.length = ms.length) :
    ∃ q, f50 L N ⟨ms⟩ p = some q ∧ NextE (Akin ms p) ms.length q := by
  have hlim := lim_eq
  have hn60 := hm.1
  have inner : ∀ {R : Type} (K : List Int → Int → Int → List (List Move) → List Int → Option R) (i : Nat) (hi : i < ms.length) (out : List Int) (n c best : Nat) (z : Int), z = (c : Int) - 1 → c < n → c ≤ best → best ≤ i → Akin ms p best i → (∀ j', c ≤ j' → j' < best → ¬ Akin ms p j' i) →
      ∃ b' : Nat, b' ≤ i ∧ Akin ms p b' i ∧ (∀ j', j' < b' → ¬ Akin ms p j' i) ∧ f50.l1 L N K n p (i : Int) (best : Int) z ms out = K p (i : Int) (b' : Int) ms out := by
    intro R K i hi out n
    induction n with
    | zero => intro c best z _ h; omega
    | succ n ih =>
      intro c best z hz hn hcb hbi hE hno
      show ∃ b' : Nat, _ ∧ _ ∧ _ ∧ f50.s1 L N _ (f50.l1 L N _ n) p (i : Int) (best : Int) z ms out = _
      unfold f50.s1 f50.s1'
      cases c with
      | zero =>
        rw [show decide (z ≥ 0) = false from decide_eq_false (by omega), cond_false]
        exact ⟨best, hbi, hE, fun j' h => hno j' (by omega) h, rfl⟩
      | succ c =>
        have hz' : z = (c : Int) := by omega
        subst hz'
        have hc : c < p.length := by omega
        have hip : i < p.length := by omega
        have hw : wi ((c : Int) - 1) = (c : Int) - 1 := wi_id (by omega) (by omega)
        rw [show decide ((c : Int) ≥ 0) = true from decide_eq_true (by omega), cond_true]
        simp only [le0, lt_cast hc, lt_cast hip, Bool.and_true, cond_true, Int.toNat_natCast, atD, hw]
        have stay : ¬ Akin ms p c i → ∃ b' : Nat, b' ≤ i ∧ Akin ms p b' i ∧ (∀ j', j' < b' → ¬ Akin ms p j' i) ∧ f50.l1 L N K n p (i : Int) (best : Int) ((c : Int) - 1) ms out = K p (i : Int) (b' : Int) ms out := fun hne =>
          ih c best ((c : Int) - 1) rfl (by omega) (by omega) hbi hE fun j' h1 h2 => by
            by_cases e : j' = c
            · subst e; exact hne
            · exact hno j' (by omega) h2
        by_cases h1 : p.getD c 0 = p.getD i 0
        · obtain ⟨r1, e1, f1⟩ := l4Covers_ok L N ms hm hL p hp i c hi (by omega)
          obtain ⟨r2, e2, f2⟩ := l4Covers_ok L N ms hm hL p hp c i (by omega) hi
          rw [show (p.getD c 0 == p.getD i 0) = true by simpa using h1, cond_true]
          simp only [e1, e2, Option.bind_some]
          cases r1 with
          | false =>
            rw [cond_false]
            exact stay fun h => absurd (f1.2 fun m hm' => (h.2 m).1 hm') (by simp)
          | true =>
            rw [cond_true]
            cases r2 with
            | false =>
              rw [cond_false]
              exact stay fun h => absurd (f2.2 fun m hm' => (h.2 m).2 hm') (by simp)
            | true =>
              rw [cond_true]
              exact ih c c ((c : Int) - 1) rfl (by omega) (Nat.le_refl _) (by omega) ⟨h1, fun m => ⟨f1.1 rfl m, f2.1 rfl m⟩⟩ fun j' h1 h2 => by omega
        · rw [show (p.getD c 0 == p.getD i 0) = false by simpa using h1, cond_false]
          exact stay fun h => h1 h.1
  show ∃ q, f50.b L N some ⟨ms⟩ p = some q ∧ _
  unfold f50.b f50.b'
  have key : ∀ (n i : Nat) (out : List Int), out.length = i → i ≤ ms.length → ms.length - i < n → (∀ (i' : Nat) (hi : i' < out.length), ∃ j : Nat, out[i'] = (j : Int) ∧ j ≤ i' ∧ Akin ms p j i' ∧ ∀ j', j' < j → ¬ Akin ms p j' i') →
      ∃ q, f50.l0 L N (fun z4 => f50.p0_e0 L N some z4) n p (i : Int) ms out = some q ∧ NextE (Akin ms p) ms.length q := by
    intro n
    induction n with
    | zero => intro i out _ _ h; omega
    | succ n ih =>
      intro i out hl hi hn hout
      show ∃ q, f50.s0 L N _ (f50.l0 L N _ n) p (i : Int) ms out = some q ∧ _
      unfold f50.s0 f50.s0'
      by_cases hlt : i < ms.length
      · have hip : i < p.length := by omega
        have hw : wi ((i : Int) - 1) = (i : Int) - 1 := wi_id (by omega) (by omega)
        simp only [lt_cast hip, cond_true, hw]
        obtain ⟨b', q1, q2, q3, e⟩ := inner (fun z11 z12 z13 z14 z15 => f50.p1_e2 L N (fun z4 => f50.p0_e0 L N some z4) (f50.l0 L N (fun z4 => f50.p0_e0 L N some z4) n) z11 z12 z13 z14 z15) i hlt out L i i ((i : Int) - 1) rfl (by omega) (Nat.le_refl _) (Nat.le_refl _) (Akin.refl ms p i) (fun j' h1 h2 => by omega)
        rw [e]
        show ∃ q, f50.p1_e2' L N _ _ p (i : Int) (b' : Int) ms out = some q ∧ _
        unfold f50.p1_e2'
        have hle : decide (out.length + ([(b' : Int)] : List Int).length ≤ lim) = true := dt (by simp only [List.length_cons, List.length_nil]; omega)
        rw [hle, cond_true, wi_nat (by omega)]
        refine ih (i + 1) _ (by simp [hl]) (by omega) (by omega) fun i' hi' => ?_
        by_cases h : i' < out.length
        · rw [List.getElem_append_left h]; exact hout i' h
        · have : i' = i := by simp at hi'; omega
          subst this
          refine ⟨b', ?_, q1, q2, q3⟩
          rw [List.getElem_append_right (by omega)]
          simp
      · have hip : ¬ i < p.length := by omega
        simp only [ge_cast hip, cond_false]
        exact ⟨out, rfl, by omega, hout⟩
  exact key L 0 [] rfl (by omega) (by omega) (fun _ h => by simp at h)
theorem l4Same_ok (L N : Nat) (a b : List Int) (hL : a.length < L) (hl : a.length ≤ 1048576) : ∃ r, f51 L N a b = some r ∧ (r = true ↔ a = b) := by
  show ∃ r, f51.b L N some a b = some r ∧ _
  unfold f51.b f51.b'
  by_cases he : a.length = b.length
  · have : ((a.length : Int) != (b.length : Int)) = false := by simp [he]
    rw [this, cond_false]
    have key : ∀ (n i : Nat), i ≤ a.length → a.length - i < n → (∀ j (h1 : j < a.length) (h2 : j < b.length), j < i → a[j] = b[j]) →
        ∃ r, f51.l0 L N (f51.p0_e0 L N some) (fun z3 => f51.p0_r L N some z3) n a b (i : Int) = some r ∧ (r = true ↔ a = b) := by
      intro n
      induction n with
      | zero => intro i _ h; omega
      | succ n ih =>
        intro i hi hn hs
        show ∃ r, f51.s0 L N _ _ (f51.l0 L N _ _ n) a b (i : Int) = some r ∧ _
        unfold f51.s0 f51.s0'
        by_cases hlt : i < a.length
        · have hlt' : i < b.length := by omega
          simp only [le0, lt_cast hlt, lt_cast hlt', Bool.and_true, cond_true, Int.toNat_natCast, at_lt hlt, at_lt hlt']
          by_cases h1 : a[i] = b[i]
          · rw [show (a[i] != b[i]) = false by simpa using h1, cond_false, wi_nat (by omega)]
            refine ih (i + 1) (by omega) (by omega) fun j h2 h3 h4 => ?_
            by_cases e : j = i
            · subst e; exact h1
            · exact hs j h2 h3 (by omega)
          · rw [show (a[i] != b[i]) = true by simpa using h1, cond_true]
            refine ⟨false, rfl, ?_⟩
            simp only [Bool.false_eq_true, false_iff]
            intro e
            subst e
            exact h1 rfl
        · simp only [ge_cast hlt, cond_false]
          refine ⟨true, rfl, ?_⟩
          simp only [true_iff]
          exact List.ext_getElem he fun j h1 h2 => hs j h1 h2 (by omega)
    exact key L 0 (by omega) (by omega) (fun _ _ _ h => by omega)
  · have : ((a.length : Int) != (b.length : Int)) = true := by simp; omega
    rw [this, cond_true]
    refine ⟨false, rfl, ?_⟩
    simp only [Bool.false_eq_true, false_iff]
    intro e
    exact he (by rw [e])
theorem equalI_ok (L N : Nat) (a b : List Int) (hL : a.length < L) (hl : a.length ≤ 1048576) : ∃ r, f72 L N a b = some r ∧ (r = true ↔ a = b) := by
  show ∃ r, f72.b L N some a b = some r ∧ _
  unfold f72.b f72.b'
  by_cases he : a.length = b.length
  · have : ((a.length : Int) != (b.length : Int)) = false := by simp [he]
    rw [this, cond_false]
    have key : ∀ (n i : Nat), i ≤ a.length → a.length - i < n → (∀ j (h1 : j < a.length) (h2 : j < b.length), j < i → a[j] = b[j]) →
        ∃ r, f72.l0 L N (f72.p0_e0 L N some) (fun z3 => f72.p0_r L N some z3) n a b (a.length : Int) (i : Int) = some r ∧ (r = true ↔ a = b) := by
      intro n
      induction n with
      | zero => intro i _ h; omega
      | succ n ih =>
        intro i hi hn hs
        show ∃ r, f72.s0 L N _ _ (f72.l0 L N _ _ n) a b (a.length : Int) (i : Int) = some r ∧ _
        unfold f72.s0 f72.s0'
        by_cases hlt : i < a.length
        · have hlt' : i < b.length := by omega
          simp only [le0, lt_cast hlt, lt_cast hlt', Bool.and_true, cond_true, Int.toNat_natCast, at_lt hlt, at_lt hlt']
          by_cases h1 : a[i] = b[i]
          · rw [show (a[i] != b[i]) = false by simpa using h1, cond_false, wi_nat (by omega)]
            refine ih (i + 1) (by omega) (by omega) fun j h2 h3 h4 => ?_
            by_cases e : j = i
            · subst e; exact h1
            · exact hs j h2 h3 (by omega)
          · rw [show (a[i] != b[i]) = true by simpa using h1, cond_true]
            refine ⟨false, rfl, ?_⟩
            simp only [Bool.false_eq_true, false_iff]
            intro e
            subst e
            exact h1 rfl
        · simp only [ge_cast hlt, cond_false]
          refine ⟨true, rfl, ?_⟩
          simp only [true_iff]
          exact List.ext_getElem he fun j h1 h2 => hs j h1 h2 (by omega)
    exact key L 0 (by omega) (by omega) (fun _ _ _ h => by omega)
  · have : ((a.length : Int) != (b.length : Int)) = true := by simp; omega
    rw [this, cond_true]
    refine ⟨false, rfl, ?_⟩
    simp only [Bool.false_eq_true, false_iff]
    intro e
    exact he (by rw [e])
end Go.Proofs.Ytffkhhblppfbfaa.Ev
namespace Go.Proofs.Ytffkhhblppfbfaa.Ev
open Go
set_option linter.unusedVariables false
set_option linter.unusedSimpArgs false
theorem equalMA_ok (L N : Nat) (a b : List Move) (hL : a.length < L) (hl : a.length ≤ 1099511627776) : ∃ r, f83 L N a b = some r ∧ (r = true ↔ a = b) := by
  show ∃ r, f83.b L N some a b = some r ∧ _
  unfold f83.b f83.b'
  have eqb : ∀ x y : Move, Move.eqb x y = true ↔ x = y := fun x y => by
    constructor
    · intro h
      simp only [Move.eqb, Bool.and_eq_true, beq_iff_eq] at h
      rw [← mv_eta x, ← mv_eta y, h.1, h.2]
    · rintro rfl; simp [Move.eqb]
  by_cases he : a.length = b.length
  · have : ((a.length : Int) != (b.length : Int)) = false := by simp [he]
    rw [this, cond_false]
    have key : ∀ (n i : Nat), i ≤ a.length → a.length - i < n → (∀ j (h1 : j < a.length) (h2 : j < b.length), j < i → a[j] = b[j]) →
        ∃ r, f83.l0 L N (f83.p0_e0 L N some) (fun z4 => f83.p0_r L N some z4) n a b (a.length : Int) (i : Int) = some r ∧ (r = true ↔ a = b) := by
      intro n
      induction n with
      | zero => intro i _ h; omega
      | succ n ih =>
        intro i hi hn hs
        show ∃ r, f83.s0 L N _ _ (f83.l0 L N _ _ n) a b (a.length : Int) (i : Int) = some r ∧ _
        unfold f83.s0 f83.s0'
        by_cases hlt : i < a.length
        · have hlt' : i < b.length := by omega
          simp only [le0, lt_cast hlt, lt_cast hlt', Bool.and_true, cond_true, Int.toNat_natCast, at_lt hlt, at_lt hlt']
          cases h0 : Move.eqb a[i] b[i] with
          | true =>
            have h1 := (eqb _ _).1 h0
            rw [Bool.not_true, cond_false, wi_nat (by omega)]
            refine ih (i + 1) (by omega) (by omega) fun j h2 h3 h4 => ?_
            by_cases e : j = i
            · subst e; exact h1
            · exact hs j h2 h3 (by omega)
          | false =>
            rw [Bool.not_false, cond_true]
            refine ⟨false, rfl, ?_⟩
            simp only [Bool.false_eq_true, false_iff]
            intro e
            subst e
            rw [(eqb _ _).2 rfl] at h0; cases h0
        · simp only [ge_cast hlt, cond_false]
          refine ⟨true, rfl, ?_⟩
          simp only [true_iff]
          exact List.ext_getElem he fun j h1 h2 => hs j h1 h2 (by omega)
    exact key L 0 (by omega) (by omega) (fun _ _ _ h => by omega)
  · have : ((a.length : Int) != (b.length : Int)) = true := by simp; omega
    rw [this, cond_true]
    refine ⟨false, rfl, ?_⟩
    simp only [Bool.false_eq_true, false_iff]
    intro e
    exact he (by rw [e])
theorem refineA_ok (L N : Nat) (ms : List (List Move)) (hn60 : ms.length ≤ 60) (hL : 8589934592 ≤ L) (p : List Int) (hp : p.length = ms.length) (key : Nat → List Move) (hkl : ∀ i, (key i).length ≤ 3774873660)
    (hkey : ∀ i, i < ms.length → f71_1 L N (i : Int) ms p = some (key i)) :
    ∃ q, f70_1 L N p ms p = some q ∧ NextE (fun j i => p.getD j 0 = p.getD i 0 ∧ key j = key i) ms.length q := by
  have hlim := lim_eq
  have inner : ∀ {R : Type} (K : List Int → List (List Move) → List Int → Int → Int → List Int → List (List Move) → Option R) (i : Nat) (hi : i < ms.length) (out : List Int) (keys : List (List Move)), out.length = ms.length → keys.length = ms.length → (∀ j, j ≤ i → keys.getD j [] = key j) → ∀ (n j : Nat), j ≤ i → i - j < n → (∀ j', j' < j → ¬ (p.getD j' 0 = p.getD i 0 ∧ key j' = key i)) → out.getD i 0 = (i : Int) →
      ∃ (b : Nat) (out' : List Int), b ≤ i ∧ (p.getD b 0 = p.getD i 0 ∧ key b = key i) ∧ (∀ j', j' < b → ¬ (p.getD j' 0 = p.getD i 0 ∧ key j' = key i)) ∧ out' = out.set i (b : Int) ∧ f70_1.l1 L N K n p ms p (i : Int) (j : Int) (ms.length : Int) (i : Int) out keys = K p ms p (ms.length : Int) (i : Int) out' keys := by
    intro R K i hi out keys ho hk hks n
    induction n with
    | zero => intro j _ h; omega
    | succ n ih =>
      intro j hj hn hno hoi
      show ∃ (b : Nat) (out' : List Int), _ ∧ _ ∧ _ ∧ _ ∧ f70_1.s1 L N _ (f70_1.l1 L N _ n) p ms p (i : Int) (j : Int) (ms.length : Int) (i : Int) out keys = _
      unfold f70_1.s1 f70_1.s1'
      by_cases hlt : j < i
      · have hjp : j < p.length := by omega
        have hip : i < p.length := by omega
        have hjk : j < keys.length := by omega
        have hik : i < keys.length := by omega
        have hio : i < out.length := by omega
        simp only [lt_cast hlt, le0, lt_cast hjp, lt_cast hip, lt_cast hjk, lt_cast hik, Bool.and_true, cond_true, Int.toNat_natCast, atD, hks j (by omega), hks i (by omega)]
        have stay : ¬ (p.getD j 0 = p.getD i 0 ∧ key j = key i) → ∃ (b : Nat) (out' : List Int), b ≤ i ∧ (p.getD b 0 = p.getD i 0 ∧ key b = key i) ∧ (∀ j', j' < b → ¬ (p.getD j' 0 = p.getD i 0 ∧ key j' = key i)) ∧ out' = out.set i (b : Int) ∧ f70_1.l1 L N K n p ms p (i : Int) (wi ((j : Int) + 1)) (ms.length : Int) (i : Int) out keys = K p ms p (ms.length : Int) (i : Int) out' keys := fun hne => by
          rw [wi_nat (by omega)]
          refine ih (j + 1) (by omega) (by omega) (fun j' h => ?_) hoi
          by_cases e : j' = j
          · subst e; exact hne
          · exact hno j' (by omega)
        by_cases h1 : p.getD j 0 = p.getD i 0
        · obtain ⟨r, e1, f1⟩ := equalMA_ok L N (key j) (key i) (by have := hkl j; omega) (by have := hkl j; omega)
          rw [show (p.getD j 0 == p.getD i 0) = true by simpa using h1, cond_true, e1, Option.bind_some]
          unfold f70_1.j0'
          cases r with
          | true =>
            simp only [cond_true, le0, lt_cast hio, Bool.and_true, Int.toNat_natCast]
            exact ⟨j, _, by omega, ⟨h1, f1.1 rfl⟩, hno, rfl, rfl⟩
          | false =>
            rw [cond_false]
            exact stay fun h => absurd (f1.2 h.2) (by simp)
        · rw [show (p.getD j 0 == p.getD i 0) = false by simpa using h1, cond_false]
          unfold f70_1.j0'
          rw [cond_false]
          exact stay fun h => h1 h.1
      · have hji : j = i := by omega
        subst hji
        simp only [ge_cast (Nat.lt_irrefl _), cond_false]
        refine ⟨j, _, Nat.le_refl _, ⟨rfl, rfl⟩, hno, rfl, ?_⟩
        have hio : j < out.length := by omega
        rw [getD_lt hio] at hoi
        rw [← hoi, List.set_getElem_self]
  show ∃ q, f70_1.b L N some p ms p = some q ∧ _
  unfold f70_1.b f70_1.b'
  have h0 : decide ((ms.length : Int) ≤ (lim : Int)) = true := dt (by omega)
  have e0 : ((ms.length : Int)).toNat = ms.length := rfl
  simp only [hp, le0, h0, Bool.and_true, cond_true, e0]
  have key0 : ∀ (n i : Nat) (out : List Int) (keys : List (List Move)), out.length = ms.length → keys.length = ms.length → i ≤ ms.length → ms.length - i < n → (∀ j, j < i → keys.getD j [] = key j) → (∀ i', i' < i → ∃ j : Nat, out.getD i' 0 = (j : Int) ∧ j ≤ i' ∧ (p.getD j 0 = p.getD i' 0 ∧ key j = key i') ∧ ∀ j', j' < j → ¬ (p.getD j' 0 = p.getD i' 0 ∧ key j' = key i')) →
      ∃ q, f70_1.l0 L N (fun z7 => f70_1.p0_e0 L N some z7) n p ms p (ms.length : Int) (i : Int) out keys = some q ∧ NextE (fun j i => p.getD j 0 = p.getD i 0 ∧ key j = key i) ms.length q := by
    intro n
    induction n with
    | zero => intro i out keys _ _ _ h; omega
    | succ n ih =>
      intro i out keys ho hk hi hn hks hout
      show ∃ q, f70_1.s0 L N _ (f70_1.l0 L N _ n) p ms p (ms.length : Int) (i : Int) out keys = some q ∧ _
      unfold f70_1.s0 f70_1.s0'
      by_cases hlt : i < ms.length
      · have hio : i < out.length := by omega
        have hik : i < keys.length := by omega
        simp only [lt_cast hlt, cond_true, hkey i hlt, Option.bind_some, le0, lt_cast hio, lt_cast hik, Bool.and_true, Int.toNat_natCast]
        have hks' : ∀ j, j ≤ i → (keys.set i (key i)).getD j [] = key j := fun j hj => by
          by_cases e : j = i
          · subst e; rw [getD_lt (by simpa using hik), List.getElem_set_self]
          · rw [List.getD, List.getElem?_set_ne (by omega), ← List.getD]; exact hks j (by omega)
        obtain ⟨b, out', q1, q2, q3, q4, e⟩ := inner (fun z18 z19 z20 z21 z22 z23 z24 => f70_1.p1_e2 L N (fun z7 => f70_1.p0_e0 L N some z7) (f70_1.l0 L N (fun z7 => f70_1.p0_e0 L N some z7) n) z18 z19 z20 z21 z22 z23 z24) i hlt (out.set i (i : Int)) (keys.set i (key i)) (by simp [ho]) (by simp [hk]) hks' L 0 (by omega) (by omega) (fun j' h => by omega) (by rw [getD_lt (by simpa using hio), List.getElem_set_self])
        refine (show ∃ q, _ = some q ∧ _ from ?_)
        have e' : f70_1.l1 L N (fun z18 z19 z20 z21 z22 z23 z24 => f70_1.p1_e2 L N (fun z7 => f70_1.p0_e0 L N some z7) (f70_1.l0 L N (fun z7 => f70_1.p0_e0 L N some z7) n) z18 z19 z20 z21 z22 z23 z24) L p ms p (i : Int) (0 : Int) (ms.length : Int) (i : Int) (out.set i (i : Int)) (keys.set i (key i)) = _ := e
        rw [e']
        show ∃ q, f70_1.p1_e2' L N _ _ p ms p (ms.length : Int) (i : Int) out' (keys.set i (key i)) = some q ∧ _
        unfold f70_1.p1_e2'
        rw [wi_nat (by omega)]
        have hset : (out.set i (i : Int)).set i (b : Int) = out.set i (b : Int) := by rw [List.set_set]
        refine ih (i + 1) out' _ (by rw [q4]; simp [ho]) (by simp [hk]) (by omega) (by omega) (fun j hj => hks' j (by omega)) fun i' hi' => ?_
        rw [q4, hset]
        by_cases e : i' = i
        · subst e
          exact ⟨b, by rw [getD_lt (by simpa using hio), List.getElem_set_self], q1, q2, q3⟩
        · obtain ⟨j, r1, r2⟩ := hout i' (by omega)
          exact ⟨j, by rw [List.getD, List.getElem?_set_ne (by omega), ← List.getD]; exact r1, r2⟩
      · simp only [ge_cast hlt, cond_false]
        have hi' : i = ms.length := by omega
        subst hi'
        refine ⟨out, rfl, ho, fun i hi => ?_⟩
        obtain ⟨j, r1, r2⟩ := hout i (by omega)
        rw [getD_lt hi] at r1
        exact ⟨j, r1, r2⟩
  exact key0 L 0 (List.replicate ms.length (0 : Int)) (List.replicate ms.length ([] : List Move)) List.length_replicate List.length_replicate (by omega) (by omega) (fun j h => by omega) (fun i' h => by omega)
end Go.Proofs.Ytffkhhblppfbfaa.Ev
namespace Go.Proofs.Ytffkhhblppfbfaa.Ev
open Go
set_option linter.unusedVariables false
set_option linter.unusedSimpArgs false
def sigRow (ms : List (List Move)) (p : List Int) (i : Nat) : List Move := (ms.getD i []).map fun m => Move.mk m.act (p.getD m.to.toNat 0)
def alikeKey (ms : List (List Move)) (p : List Int) (i : Nat) : List Move := tidyM (sigRow ms p i)
theorem sigRow_len {ms : List (List Move)} (hm : Leads ms) (p : List Int) (i : Nat) : (sigRow ms p i).length ≤ 1048576 := by
  unfold sigRow
  rw [List.length_map]
  by_cases h : i < ms.length
  · rw [getD_lt h]; exact (hm.2 i h).1
  · rw [List.getD, List.getElem?_eq_none (by omega)]; simp
theorem sigRow_mem (ms : List (List Move)) (p : List Int) (i : Nat) (m : Move) : m ∈ sigRow ms p i ↔ Sig ms p i m := by
  unfold sigRow Sig
  rw [List.mem_map]
  by_cases h : i < ms.length
  · rw [getD_lt h]
    constructor
    · rintro ⟨x, hx, rfl⟩
      obtain ⟨k, hk, rfl⟩ := List.mem_iff_getElem.1 hx
      exact ⟨h, k, hk, rfl, rfl⟩
    · rintro ⟨_, k, hk, h1, h2⟩
      exact ⟨_, List.getElem_mem hk, by rw [← mv_eta m, h1, h2]⟩
  · rw [List.getD, List.getElem?_eq_none (by omega)]
    constructor
    · rintro ⟨x, hx, -⟩; simp at hx
    · rintro ⟨h', -⟩; exact absurd h' h
theorem alikeKey_len {ms : List (List Move)} (hm : Leads ms) (p : List Int) (i : Nat) : (alikeKey ms p i).length ≤ 3774873660 := by
  have h1 := tidyM_le (sigRow ms p i)
  have h2 := sigRow_len hm p i
  unfold alikeKey
  omega
theorem alikeKey_iff (ms : List (List Move)) (p : List Int) (j i : Nat) : alikeKey ms p j = alikeKey ms p i ↔ ∀ m, Sig ms p i m ↔ Sig ms p j m := by
  have hmem : ∀ k m, m ∈ alikeKey ms p k ↔ Sig ms p k m := fun k m => (tidyM_mem _ m).trans (sigRow_mem ms p k m)
  constructor
  · intro h m
    rw [← hmem i m, ← hmem j m, h]
  · intro h
    exact risesM_ext (tidyM_rises _) (tidyM_rises _) fun m => (hmem j m).trans ((h m).symm.trans (hmem i m).symm)
theorem keyA_ok (L N : Nat) (ms : List (List Move)) (hm : Leads ms) (hL : 8589934592 ≤ L) (p : List Int) (hp : p.length = ms.length) (i : Nat) (hi : i < ms.length) : f71_1 L N (i : Int) ms p = some (alikeKey ms p i) := by
  have hlim := lim_eq
  have hrow := hm.2 i hi
  have h1 : f58_1 L N p (i : Int) ms = some (alikeKey ms p i) := by
    show f58_1.b L N some p (i : Int) ms = _
    unfold f58_1.b f58_1.b'
    simp only [le0, lt_cast hi, Bool.and_true, cond_true, Int.toNat_natCast, at_lt hi]
    have key : ∀ (n k : Nat) (out : List Move), k ≤ (ms[i]).length → (ms[i]).length - k < n → out.length = k →
        f58_1.l0 L N (fun z5 => f58_1.p0_e0 L N some z5) n p ms[i] ((ms[i]).length : Int) (k : Int) out = some (tidyM (out ++ ((ms[i]).drop k).map fun m => Move.mk m.act (p.getD m.to.toNat 0))) := by
      intro n
      induction n with
      | zero => intro k out _ h; omega
      | succ n ih =>
        intro k out hk hn ho
        show f58_1.s0 L N _ (f58_1.l0 L N _ n) p ms[i] ((ms[i]).length : Int) (k : Int) out = _
        unfold f58_1.s0 f58_1.s0'
        by_cases hlt : k < (ms[i]).length
        · obtain ⟨t, ht, htl⟩ := hm.nat hi hlt
          have htp : t < p.length := by omega
          have hle : decide (out.length + ([(Move.mk ((ms[i])[k]).act (p.getD t 0))] : (List Move)).length ≤ lim) = true := dt (by simp only [List.length_cons, List.length_nil]; omega)
          simp only [lt_cast hlt, le0, Bool.and_true, cond_true, Int.toNat_natCast, at_lt hlt, ht, lt_cast htp, atD, hle]
          rw [wi_nat (by omega), ih (k + 1) _ (by omega) (by omega) (by simp [ho]), List.drop_eq_getElem_cons hlt, List.map_cons, ht, Int.toNat_natCast, List.append_assoc]
          rfl
        · simp only [ge_cast hlt, cond_false]
          rw [List.drop_eq_nil_of_le (by omega), List.map_nil, List.append_nil]
          show f58_1.p0_e0' L N some out = _
          unfold f58_1.p0_e0'
          rw [fsortM_some (by omega), Option.bind_some]
    have h := key L 0 [] (by omega) (by omega) rfl
    rw [List.drop_zero, List.nil_append] at h
    have hs : alikeKey ms p i = tidyM ((ms[i]).map fun m => Move.mk m.act (p.getD m.to.toNat 0)) := by
      unfold alikeKey sigRow; rw [getD_lt hi]
    rw [hs]
    exact h
  show f71_1.b' L N some (i : Int) ms p = _
  unfold f71_1.b'
  rw [h1, Option.bind_some]
theorem refineAkin (L N : Nat) (ms : List (List Move)) (hm : Leads ms) (hL : 8589934592 ≤ L) (p : List Int) (hp : p.length = ms.length) :
    ∃ q, f70_1 L N p ms p = some q ∧ NextE (Akin ms p) ms.length q := by
  obtain ⟨q, h1, h2⟩ := refineA_ok L N ms hm.1 hL p hp (alikeKey ms p) (alikeKey_len hm p) (fun i hi => keyA_ok L N ms hm hL p hp i hi)
  exact ⟨q, h1, h2.congr fun i j _ _ => and_congr Iff.rfl (alikeKey_iff ms p j i)⟩
theorem last_cast {α : Type} (pre : List α) (p d : α) (h : pre.length ≤ 1048576) : wi (((pre ++ [p]).length : Int) - 1) = (pre.length : Int) ∧ pre.length < (pre ++ [p]).length ∧ listAt (pre ++ [p]) d pre.length = p := by
  refine ⟨?_, by simp, ?_⟩
  · rw [List.length_append, List.length_cons, List.length_nil, wi_id (by omega) (by omega)]; omega
  · rw [at_lt (by simp)]; simp
end Go.Proofs.Ytffkhhblppfbfaa.Ev
namespace Go.Proofs.Ytffkhhblppfbfaa.Ev
open Go
set_option linter.unusedVariables false
set_option linter.unusedSimpArgs false
inductive Chain (E : List Int → Nat → Nat → Prop) (n : Nat) : List (List Int) → List Int → Prop
  | zero : Chain E n [] (List.replicate n 0)
  | snoc (pre : List (List Int)) (p q : List Int) (h : Chain E n pre p) (hq : NextE (E p) n q) : Chain E n (pre ++ [p]) q
structure EqE (E : List Int → Nat → Nat → Prop) : Prop where
  refl : ∀ p i, E p i i
  symm : ∀ p i j, E p i j → E p j i
  trans : ∀ p i j k, E p i j → E p j k → E p i k
  fine : ∀ p i j, E p i j → p.getD i 0 = p.getD j 0
theorem NextE.same {E : Nat → Nat → Prop} {n : Nat} {q : List Int} (h : NextE E n q) (sy : ∀ i j, E i j → E j i) (tr : ∀ i j k, E i j → E j k → E i k) {i i' : Nat} (hi : i < n) (hi' : i' < n) : q.getD i 0 = q.getD i' 0 ↔ E i i' := by
  have hl := h.1
  rw [getD_lt (show i < q.length by omega), getD_lt (show i' < q.length by omega)]
  obtain ⟨j, a1, a2, a3, a4⟩ := h.2 i (by omega)
  obtain ⟨j', b1, b2, b3, b4⟩ := h.2 i' (by omega)
  rw [a1, b1]
  constructor
  · intro e
    obtain rfl : j = j' := by omega
    exact tr _ _ _ (sy _ _ a3) b3
  · intro e
    have h1 : ¬ j < j' := fun hlt => b4 j hlt (tr _ _ _ a3 e)
    have h2 : ¬ j' < j := fun hlt => a4 j' hlt (tr _ _ _ b3 (sy _ _ e))
    have : j = j' := by omega
    rw [this]
theorem Chain.len {E : List Int → Nat → Nat → Prop} {n : Nat} {pre : List (List Int)} {p : List Int} (h : Chain E n pre p) : p.length = n := by
  cases h with
  | zero => simp
  | snoc pre p q h hq => exact hq.1
theorem Chain.low {E : List Int → Nat → Nat → Prop} {n : Nat} {pre : List (List Int)} {p : List Int} (h : Chain E n pre p) : Low p := by
  cases h with
  | zero => exact low_zero n
  | snoc pre p q h hq => exact hq.low
theorem Chain.first {E : List Int → Nat → Nat → Prop} {n : Nat} {pre : List (List Int)} {p : List Int} (h : Chain E n pre p) : (pre ++ [p]).getD 0 [] = List.replicate n 0 := by
  induction h with
  | zero => rfl
  | snoc pre p q h hq ih =>
    cases pre with
    | nil => exact ih
    | cons a t => exact ih
theorem Chain.next {E : List Int → Nat → Nat → Prop} {n : Nat} {pre : List (List Int)} {p : List Int} (h : Chain E n pre p) : ∀ k, k < pre.length → NextE (E ((pre ++ [p]).getD k [])) n ((pre ++ [p]).getD (k + 1) []) := by
  induction h with
  | zero => intro k hk; simp at hk
  | snoc pre p q h hq ih =>
    intro k hk
    rw [List.length_append, List.length_cons, List.length_nil] at hk
    have e1 : (pre ++ [p] ++ [q]).getD k [] = (pre ++ [p]).getD k [] := by
      rw [List.getD_eq_getElem?_getD, List.getD_eq_getElem?_getD, List.getElem?_append_left (by simp; omega)]
    by_cases hlt : k < pre.length
    · have e2 : (pre ++ [p] ++ [q]).getD (k + 1) [] = (pre ++ [p]).getD (k + 1) [] := by
        rw [List.getD_eq_getElem?_getD, List.getD_eq_getElem?_getD, List.getElem?_append_left (by simp; omega)]
      rw [e1, e2]
      exact ih k hlt
    · obtain rfl : k = pre.length := by omega
      have e2 : (pre ++ [p] ++ [q]).getD (pre.length + 1) [] = q := by
        rw [getD_lt (by simp), List.getElem_append_right (by simp)]; simp
      have e3 : (pre ++ [p]).getD pre.length [] = p := by
        rw [getD_lt (by simp), List.getElem_append_right (by simp)]; simp
      rw [e1, e2, e3]
      exact hq
theorem Chain.keeps {E : List Int → Nat → Nat → Prop} (hE : EqE E) {n : Nat} {pre : List (List Int)} {p : List Int} (h : Chain E n pre p) (R : Nat → Nat → Prop)
    (hR : ∀ p, p.length = n → (∀ i j, i < n → j < n → R i j → p.getD i 0 = p.getD j 0) → ∀ i j, i < n → j < n → R i j → E p i j) :
    ∀ i j, i < n → j < n → R i j → p.getD i 0 = p.getD j 0 := by
  induction h with
  | zero =>
    intro i j hi hj _
    rw [getD_lt (by simpa using hi), getD_lt (by simpa using hj), List.getElem_replicate, List.getElem_replicate]
  | snoc pre p q h hq ih =>
    intro i j hi hj hr
    exact (hq.same (hE.symm p) (hE.trans p) hi hj).2 (hR p h.len ih i j hi hj hr)
def Fix (E : List Int → Nat → Nat → Prop) (n : Nat) (q : List Int) : Prop := q.length = n ∧ NextE (E q) n q
theorem Fix.same {E : List Int → Nat → Nat → Prop} (hE : EqE E) {n : Nat} {q : List Int} (h : Fix E n q) {i j : Nat} (hi : i < n) (hj : j < n) : q.getD i 0 = q.getD j 0 ↔ E q i j := h.2.same (hE.symm q) (hE.trans q) hi hj
theorem akinEq (ms : List (List Move)) : EqE (Akin ms) where
  refl p i := Akin.refl ms p i
  symm p i j h := ⟨h.1.symm, fun m => (h.2 m).symm⟩
  trans p i j k h1 h2 := ⟨h1.1.trans h2.1, fun m => (h2.2 m).trans (h1.2 m)⟩
  fine p i j h := h.1
theorem roundsI (L N : Nat) (ms : List (List Move)) (hm : Leads ms) (hL : 8589934592 ≤ L) : ∀ (n : Nat) (pre : List (List Int)) (p : List Int), p.length = ms.length → Low p → pre.length ≤ wgt p → 3600 - wgt p < n → Chain (Akin ms) ms.length pre p →
    ∃ pre' q, f57_1.l0 L N (fun z4 => f57_1.p0_r L N some z4) n ms (pre ++ [p]) = some (pre' ++ [q]) ∧ pre'.length ≤ 3600 ∧ Chain (Akin ms) ms.length pre' q ∧ Fix (Akin ms) ms.length q := by
  have hlim := lim_eq
  have hn60 := hm.1
  have hw : ∀ p : List Int, p.length = ms.length → Low p → wgt p ≤ 3600 := fun p hp hl => by
    have h1 := wgt_le (p := p) (B := 60) fun x hx => by
      obtain ⟨i, hi, rfl⟩ := List.mem_iff_getElem.1 hx
      have := hl i hi; omega
    omega
  intro n
  induction n with
  | zero => intro pre p _ _ _ h; omega
  | succ n ih =>
    intro pre p hp hl hpre hn hch
    have hwp := hw p hp hl
    obtain ⟨e1, e2, e3⟩ := last_cast pre p [] (by omega)
    obtain ⟨q1, b1, a2⟩ := refineAkin L N ms hm hL p hp
    have hq : q1.length = ms.length := a2.1
    obtain ⟨r1, d1, c2⟩ := equalI_ok L N q1 p (by omega) (by omega)
    have hle : decide ((pre ++ [p]).length + ([q1] : List (List Int)).length ≤ lim) = true := dt (by simp only [List.length_append, List.length_cons, List.length_nil]; omega)
    have s2 : f57_1.l0 L N (fun z4 => f57_1.p0_r L N some z4) (n + 1) ms (pre ++ [p]) = bif r1 then some (pre ++ [p]) else f57_1.l0 L N (fun z4 => f57_1.p0_r L N some z4) n ms (pre ++ [p] ++ [q1]) := by
      show f57_1.s0 L N _ (f57_1.l0 L N _ n) ms (pre ++ [p]) = _
      unfold f57_1.s0 f57_1.s0'
      simp only [e1, le0, lt_cast e2, Bool.and_true, cond_true, Int.toNat_natCast, e3, b1, d1, Option.bind_some, hle]
      rfl
    rw [s2]
    cases r1 with
    | true =>
      have heq : q1 = p := c2.1 rfl
      subst heq
      exact ⟨pre, q1, rfl, by omega, hch, hp, a2⟩
    | false =>
      have hne : p ≠ q1 := fun e => absurd (c2.2 e.symm) (by simp)
      have hlt := wgt_lt (by omega) (fun i h1 h2 => ⟨(hl i h1).1, a2.ge hp hl (fun j i h => h.1) i h1 h2⟩) hne
      have hwq := hw q1 hq a2.low
      exact ih (pre ++ [p]) q1 hq a2.low (by simp only [List.length_append, List.length_cons, List.length_nil]; omega) (by omega) (.snoc _ _ _ hch a2)
theorem chainI (L N : Nat) (ms : List (List Move)) (hm : Leads ms) (hL : 8589934592 ≤ L) : ∃ pre q, f32 L N ⟨ms⟩ = some (pre ++ [q]) ∧ pre.length ≤ 3600 ∧ Chain (Akin ms) ms.length pre q ∧ Fix (Akin ms) ms.length q := by
  have hlim := lim_eq
  have hn60 := hm.1
  obtain ⟨pre, q, h2, h4, h5, h6⟩ := roundsI L N ms hm hL L [] (List.replicate ms.length 0) (by simp) (low_zero _) (by simp) (by omega) .zero
  have h0 : decide ((ms.length : Int) ≤ (lim : Int)) = true := dt (by omega)
  have e0 : ((ms.length : Int)).toNat = ms.length := rfl
  have r2 : f32 L N ⟨ms⟩ = some (pre ++ [q]) := by
    have hrr : f57_1 L N (ms.length : Int) ms = some (pre ++ [q]) := by
      show f57_1.b L N some (ms.length : Int) ms = _
      unfold f57_1.b f57_1.b'
      simp only [le0, h0, Bool.and_true, cond_true, e0]
      exact h2
    show f32.b' L N some ⟨ms⟩ = _
    unfold f32.b'
    simp only [hrr, Option.bind_some]
  exact ⟨pre, q, r2, h4, h5, h6⟩
theorem roundsC (L N : Nat) (ms : List (List Move)) (hm : Leads ms) (hL : 8589934592 ≤ L) : ∀ (n : Nat) (pre : List (List Int)) (p : List Int), p.length = ms.length → Low p → pre.length ≤ wgt p → 3600 - wgt p < n → Chain (Akin ms) ms.length pre p →
    ∃ pre' q, f26.l0 L N (fun z4 => f26.p0_r L N some z4) n ms (pre ++ [p]) = some (pre' ++ [q]) ∧ f57_1.l0 L N (fun z4 => f57_1.p0_r L N some z4) n ms (pre ++ [p]) = some (pre' ++ [q]) ∧ pre'.length ≤ 3600 ∧ Chain (Akin ms) ms.length pre' q ∧ Fix (Akin ms) ms.length q := by
  have hlim := lim_eq
  have hn60 := hm.1
  have hw : ∀ p : List Int, p.length = ms.length → Low p → wgt p ≤ 3600 := fun p hp hl => by
    have h1 := wgt_le (p := p) (B := 60) fun x hx => by
      obtain ⟨i, hi, rfl⟩ := List.mem_iff_getElem.1 hx
      have := hl i hi; omega
    omega
  intro n
  induction n with
  | zero => intro pre p _ _ _ h; omega
  | succ n ih =>
    intro pre p hp hl hpre hn hch
    have hwp := hw p hp hl
    obtain ⟨e1, e2, e3⟩ := last_cast pre p [] (by omega)
    obtain ⟨q1, a1, a2⟩ := l4Next_ok L N ms hm (by omega) p hp
    obtain ⟨q2, b1, b2⟩ := refineAkin L N ms hm hL p hp
    obtain rfl := a2.uniq b2
    have hq : q1.length = ms.length := a2.1
    obtain ⟨r1, c1, c2⟩ := l4Same_ok L N q1 p (by omega) (by omega)
    obtain ⟨r2, d1, d2⟩ := equalI_ok L N q1 p (by omega) (by omega)
    have hr : r1 = r2 := by rw [Bool.eq_iff_iff, c2, d2]
    subst hr
    have hle : decide ((pre ++ [p]).length + ([q1] : List (List Int)).length ≤ lim) = true := dt (by simp only [List.length_append, List.length_cons, List.length_nil]; omega)
    have s1 : f26.l0 L N (fun z4 => f26.p0_r L N some z4) (n + 1) ms (pre ++ [p]) = bif r1 then some (pre ++ [p]) else f26.l0 L N (fun z4 => f26.p0_r L N some z4) n ms (pre ++ [p] ++ [q1]) := by
      show f26.s0 L N _ (f26.l0 L N _ n) ms (pre ++ [p]) = _
      unfold f26.s0 f26.s0'
      simp only [e1, le0, lt_cast e2, Bool.and_true, cond_true, Int.toNat_natCast, e3, a1, c1, Option.bind_some, hle]
      rfl
    have s2 : f57_1.l0 L N (fun z4 => f57_1.p0_r L N some z4) (n + 1) ms (pre ++ [p]) = bif r1 then some (pre ++ [p]) else f57_1.l0 L N (fun z4 => f57_1.p0_r L N some z4) n ms (pre ++ [p] ++ [q1]) := by
      show f57_1.s0 L N _ (f57_1.l0 L N _ n) ms (pre ++ [p]) = _
      unfold f57_1.s0 f57_1.s0'
      simp only [e1, le0, lt_cast e2, Bool.and_true, cond_true, Int.toNat_natCast, e3, b1, d1, Option.bind_some, hle]
      rfl
    rw [s1, s2]
    cases r1 with
    | true =>
      have heq : q1 = p := c2.1 rfl
      subst heq
      exact ⟨pre, q1, rfl, rfl, by omega, hch, hp, a2⟩
    | false =>
      have hne : p ≠ q1 := fun e => absurd (c2.2 e.symm) (by simp)
      have hlt := wgt_lt (by omega) (fun i h1 h2 => ⟨(hl i h1).1, a2.ge hp hl (fun j i h => h.1) i h1 h2⟩) hne
      have hwq := hw q1 hq a2.low
      exact ih (pre ++ [p]) q1 hq a2.low (by simp only [List.length_append, List.length_cons, List.length_nil]; omega) (by omega) (.snoc _ _ _ hch a2)
theorem chainS (L N : Nat) (ms : List (List Move)) (hm : Leads ms) (hL : 8589934592 ≤ L) {pre : List (List Int)} {q : List Int} (hr : f32 L N ⟨ms⟩ = some (pre ++ [q])) : f26 L N ⟨ms⟩ = some (pre ++ [q]) := by
  have hlim := lim_eq
  have hn60 := hm.1
  obtain ⟨pre', q', h1, h2, h4, h5, h6⟩ := roundsC L N ms hm hL L [] (List.replicate ms.length 0) (by simp) (low_zero _) (by simp) (by omega) .zero
  have h0 : decide ((ms.length : Int) ≤ (lim : Int)) = true := dt (by omega)
  have e0 : ((ms.length : Int)).toNat = ms.length := rfl
  have r2 : f32 L N ⟨ms⟩ = some (pre' ++ [q']) := by
    have hrr : f57_1 L N (ms.length : Int) ms = some (pre' ++ [q']) := by
      show f57_1.b L N some (ms.length : Int) ms = _
      unfold f57_1.b f57_1.b'
      simp only [le0, h0, Bool.and_true, cond_true, e0]
      exact h2
    show f32.b' L N some ⟨ms⟩ = _
    unfold f32.b'
    simp only [hrr, Option.bind_some]
  rw [r2] at hr
  rw [← Option.some.inj hr]
  show f26.b L N some ⟨ms⟩ = _
  unfold f26.b f26.b'
  simp only [le0, h0, Bool.and_true, cond_true, e0]
  exact h1
end Go.Proofs.Ytffkhhblppfbfaa.Ev
namespace Go.Proofs.Ytffkhhblppfbfaa.Ev
open Go
set_option linter.unusedVariables false
set_option linter.unusedSimpArgs false
theorem fcases {o n : Int} {ps : List Tree} (h : shape (.mk o n ps) = true) : (o = 0 ∧ ps = []) ∨ (o = 1 ∧ ∃ a, ps = [a] ∧ shape a = true) ∨ (o = 2 ∧ ∃ a b, ps = [a, b] ∧ shape a = true ∧ shape b = true) ∨ (o = 3 ∧ -4 ≤ n ∧ n ≤ 4 ∧ ∃ a, ps = [a] ∧ shape a = true) := by
  simp only [shape, good1, Bool.and_eq_true, decide_eq_true_eq] at h
  obtain ⟨⟨h0, h1, h2, h3, h4, h5⟩, h6⟩ := h
  rcases (show o = 0 ∨ o = 1 ∨ o = 2 ∨ o = 3 by omega) with rfl | rfl | rfl | rfl
  · left; exact ⟨rfl, List.eq_nil_of_length_eq_zero h2⟩
  · right; left
    match ps, h2, h6 with
    | [a], _, h6 => simp only [shapes, Bool.and_true] at h6; exact ⟨rfl, a, rfl, h6⟩
  · right; right; left
    match ps, h2, h6 with
    | [a, b], _, h6 => simp only [shapes, Bool.and_true, Bool.and_eq_true] at h6; exact ⟨rfl, a, b, rfl, h6.1, h6.2⟩
  · right; right; right
    match ps, h2, h6 with
    | [a], _, h6 => simp only [shapes, Bool.and_true] at h6; exact ⟨rfl, h4, h5, a, rfl, h6⟩
def hold (ms : List (List Move)) (f : Tree) (s : Nat) : Bool := (fw ms f).getD s false
theorem comb_at (ms : List (List Move)) (o a : Int) (qs : List (List Bool)) {s : Nat} (hs : s < ms.length) : (comb ms o a qs).getD s false = combAt ms o a qs s := by
  unfold comb
  rw [getD_lt (by simpa using hs), List.getElem_map, List.getElem_range]
theorem hold_true (ms : List (List Move)) (a : Int) (ps : List Tree) {s : Nat} (hs : s < ms.length) : hold ms (.mk 0 a ps) s = true := by
  unfold hold; rw [fw, comb_at _ _ _ _ hs]; rfl
theorem hold_not (ms : List (List Move)) (a : Int) (p : Tree) {s : Nat} (hs : s < ms.length) : hold ms (.mk 1 a [p]) s = !hold ms p s := by
  unfold hold; rw [fw, comb_at _ _ _ _ hs]; rfl
theorem hold_and (ms : List (List Move)) (a : Int) (p q : Tree) {s : Nat} (hs : s < ms.length) : hold ms (.mk 2 a [p, q]) s = (hold ms p s && hold ms q s) := by
  unfold hold; rw [fw, comb_at _ _ _ _ hs]; rfl
theorem hold_may (ms : List (List Move)) (a : Int) (p : Tree) {s : Nat} (hs : s < ms.length) : hold ms (.mk 3 a [p]) s = (ms[s]).any fun m => m.act == a && hold ms p m.to.toNat := by
  have h : hold ms (.mk 3 a [p]) s = (ms.getD s []).any (mayP a (fw ms p)) := by unfold hold; rw [fw, comb_at _ _ _ _ hs]; rfl
  rw [h, getD_lt hs]; rfl
end Go.Proofs.Ytffkhhblppfbfaa.Ev
namespace Go.Proofs.Ytffkhhblppfbfaa.Ev
open Go
set_option linter.unusedVariables false
set_option linter.unusedSimpArgs false
def conjL : List Tree → Tree
  | [] => .mk 0 0 []
  | f :: r => r.foldl (fun a f => .mk 2 0 [a, f]) f
theorem conjL_snoc (fs : List Tree) (f : Tree) : conjL (fs ++ [f]) = if fs.length = 0 then f else .mk 2 0 [conjL fs, f] := by
  cases fs with
  | nil => rfl
  | cons a r =>
    rw [if_neg (by simp)]
    show (r ++ [f]).foldl _ a = _
    rw [List.foldl_append]; rfl
theorem snoc_ind {α : Type} {P : List α → Prop} (h0 : P []) (h1 : ∀ l x, P l → P (l ++ [x])) (l : List α) : P l := by
  have : ∀ n, ∀ l : List α, l.length = n → P l := by
    intro n
    induction n with
    | zero => intro l h; rw [List.eq_nil_of_length_eq_zero h]; exact h0
    | succ n ih =>
      intro l h
      have hne : l ≠ [] := fun e => by rw [e] at h; simp at h
      rw [← List.dropLast_concat_getLast hne]
      exact h1 _ _ (ih _ (by rw [List.length_dropLast]; omega))
  exact this _ l rfl
theorem shape2 {a b : Tree} (ha : shape a = true) (hb : shape b = true) : shape (.mk 2 0 [a, b]) = true := by
  simp only [shape, shapes, ha, hb, good1, ar, Bool.and_true, decide_eq_true_eq]
  simp
theorem shape3 {n : Int} (hn : -4 ≤ n ∧ n ≤ 4) {a : Tree} (ha : shape a = true) : shape (.mk 3 n [a]) = true := by
  simp only [shape, shapes, ha, good1, ar, Bool.and_true, decide_eq_true_eq]
  simp; omega
theorem shape1 {a : Tree} (ha : shape a = true) : shape (.mk 1 0 [a]) = true := by
  simp only [shape, shapes, ha, good1, ar, Bool.and_true, decide_eq_true_eq]
  simp
theorem shape_conj (fs : List Tree) (h : ∀ f ∈ fs, shape f = true) : shape (conjL fs) = true := by
  revert h
  refine snoc_ind (P := fun fs => (∀ f ∈ fs, shape f = true) → shape (conjL fs) = true) (fun _ => rfl) (fun l x ih h => ?_) fs
  rw [conjL_snoc]
  have hx := h x (by simp)
  split
  · exact hx
  · exact shape2 (ih fun f hf => h f (by simp [hf])) hx
theorem depth_conj {d : Nat} (fs : List Tree) (h : ∀ f ∈ fs, depth f ≤ d) : depth (conjL fs) ≤ d := by
  revert h
  refine snoc_ind (P := fun fs => (∀ f ∈ fs, depth f ≤ d) → depth (conjL fs) ≤ d) (fun _ => by simp [conjL, depth, depths]) (fun l x ih h => ?_) fs
  rw [conjL_snoc]
  have hx := h x (by simp)
  split
  · exact hx
  · have := ih fun f hf => h f (by simp [hf])
    simp only [depth, depths]
    simp; omega
theorem hold_conj {ms : List (List Move)} {s : Nat} (hs : s < ms.length) (fs : List Tree) : hold ms (conjL fs) s = fs.all fun f => hold ms f s := by
  refine snoc_ind (P := fun fs => hold ms (conjL fs) s = fs.all fun f => hold ms f s) (hold_true _ _ _ hs) (fun l x ih => ?_) fs
  rw [conjL_snoc, List.all_append]
  split
  · rename_i h
    rw [List.eq_nil_of_length_eq_zero h]; simp
  · rw [hold_and _ _ _ _ hs, ih]; simp
def sizeL (fs : List Tree) : Nat := 1 + (fs.map fun f => nodes f + 1).sum
theorem sizeL_snoc (fs : List Tree) (f : Tree) : sizeL (fs ++ [f]) = sizeL fs + nodes f + 1 := by
  unfold sizeL; simp; omega
theorem sizeL_conj (fs : List Tree) : fs = [] ∨ sizeL fs = nodes (conjL fs) + 2 := by
  refine snoc_ind (P := fun fs => fs = [] ∨ sizeL fs = nodes (conjL fs) + 2) (.inl rfl) (fun l x ih => .inr ?_) fs
  rw [sizeL_snoc, conjL_snoc]
  split
  · rename_i h
    rw [List.eq_nil_of_length_eq_zero h]; simp [sizeL]; omega
  · rename_i h
    rcases ih with e | e
    · exact absurd (by rw [e]; rfl) h
    · rw [e]; simp [nodes, nodess]; omega
def uncB (ms : List (List Move)) (p : List Int) (t : Nat) (m : Move) : Bool := !(ms.getD t []).any fun n => n.act == m.act && p.getD n.to.toNat 0 == p.getD m.to.toNat 0
theorem unc_sig {ms : List (List Move)} {p : List Int} {t : Nat} (ht : t < ms.length) {m : Move} (h : uncB ms p t m = false) : Sig ms p t ⟨m.act, p.getD m.to.toNat 0⟩ := by
  unfold uncB at h
  rw [Bool.not_eq_false', getD_lt ht] at h
  obtain ⟨n, hn, h2⟩ := List.any_eq_true.1 h
  rw [Bool.and_eq_true, beq_iff_eq, beq_iff_eq] at h2
  obtain ⟨k, hk, rfl⟩ := List.mem_iff_getElem.1 hn
  exact ⟨ht, k, hk, h2.1.symm, h2.2.symm⟩
theorem unc_exists {ms : List (List Move)} {p : List Int} {s t : Nat} (hs : s < ms.length) (ht : t < ms.length) (e : p.getD s 0 = p.getD t 0) (h : ¬ Akin ms p s t) : (∃ m ∈ ms[s], uncB ms p t m = true) ∨ (∃ m ∈ ms[t], uncB ms p s m = true) := by
  by_cases h1 : ∃ m ∈ ms[s], uncB ms p t m = true
  · exact .inl h1
  by_cases h2 : ∃ m ∈ ms[t], uncB ms p s m = true
  · exact .inr h2
  refine absurd ⟨e, fun m => ?_⟩ h
  have go : ∀ {s t} (hs : s < ms.length) (ht : t < ms.length), (¬ ∃ m ∈ ms[s], uncB ms p t m = true) → Sig ms p s m → Sig ms p t m := by
    rintro s t hs ht hn ⟨_, k, hk, a1, a2⟩
    have := unc_sig ht (m := (ms[s])[k]) (by rw [← Bool.not_eq_true]; exact fun hc => hn ⟨_, List.getElem_mem hk, hc⟩)
    rw [← a1, ← a2, mv_eta] at this
    exact this
  exact ⟨go ht hs h2, go hs ht h1⟩
def othersL (ms : List (List Move)) (t : Nat) (a : Int) : List Int := ((ms.getD t []).filter fun n => n.act == a).map Move.to
theorem unc_apart {ms : List (List Move)} {p : List Int} {t : Nat} {m : Move} (h : uncB ms p t m = true) : ∀ v ∈ othersL ms t m.act, p.getD v.toNat 0 ≠ p.getD m.to.toNat 0 := by
  intro v hv e
  obtain ⟨n, hn, rfl⟩ := List.mem_map.1 hv
  obtain ⟨hn1, hn2⟩ := List.mem_filter.1 hn
  unfold uncB at h
  rw [Bool.not_eq_true', List.any_eq_false] at h
  refine h n hn1 ?_
  rw [Bool.and_eq_true]
  exact ⟨hn2, by rw [beq_iff_eq]; exact e⟩
theorem hold_apart {ms : List (List Move)} (hm : Leads ms) {s t : Nat} (hs : s < ms.length) (ht : t < ms.length) {m : Move} (hmem : m ∈ ms[s]) (G : Int → Tree) (h1 : ∀ v ∈ othersL ms t m.act, hold ms (G v) m.to.toNat = true) (h2 : ∀ v ∈ othersL ms t m.act, hold ms (G v) v.toNat = false) :
    hold ms (.mk 3 m.act [conjL ((othersL ms t m.act).map G)]) s = true ∧ hold ms (.mk 3 m.act [conjL ((othersL ms t m.act).map G)]) t = false := by
  have hto : ∀ {s : Nat} (hs : s < ms.length) {m : Move}, m ∈ ms[s] → m.to.toNat < ms.length := by
    intro s hs m hm'
    obtain ⟨k, hk, rfl⟩ := List.mem_iff_getElem.1 hm'
    have := (hm.2 _ hs).2 k hk; omega
  constructor
  · rw [hold_may _ _ _ hs]
    refine List.any_eq_true.2 ⟨m, hmem, ?_⟩
    rw [beq_self_eq_true, Bool.true_and, hold_conj (hto hs hmem), List.all_map, List.all_eq_true]
    exact fun v hv => h1 v hv
  · rw [hold_may _ _ _ ht, List.any_eq_false]
    intro n hn hc
    rw [Bool.and_eq_true, hold_conj (hto ht hn), List.all_map, List.all_eq_true] at hc
    have hv : n.to ∈ othersL ms t m.act := by
      unfold othersL
      rw [getD_lt ht]
      exact List.mem_map.2 ⟨n, List.mem_filter.2 ⟨hn, hc.1⟩, rfl⟩
    have := hc.2 _ hv
    have h3 := h2 _ hv
    simp only [Function.comp] at this
    rw [this] at h3; cases h3
end Go.Proofs.Ytffkhhblppfbfaa.Ev
namespace Go.Proofs.Ytffkhhblppfbfaa.Ev
open Go
set_option linter.unusedVariables false
set_option linter.unusedSimpArgs false
def RoundsOk (ms : List (List Move)) (list : List (List Int)) : Prop := list.length ≤ 4000 ∧ ∀ (r : Nat) (h : r < list.length), (list[r]).length = ms.length
def RD (list : List (List Int)) (s t r : Nat) : Prop := r < list.length ∧ (list.getD r []).getD s 0 ≠ (list.getD r []).getD t 0 ∧ ∀ r', r' < r → (list.getD r' []).getD s 0 = (list.getD r' []).getD t 0
theorem mk_parts (t : Tree) : Tree.mk t.op t.n t.parts = t := by cases t; rfl
theorem shape_tok : ∀ (n : Nat) (t : Tree), nodes t ≤ n → shape t = true → TOk t := by
  intro n
  induction n with
  | zero => intro t h; have := nodes_pos t; omega
  | succ n ih =>
    intro t hn hs
    obtain ⟨o, a, ps⟩ := t
    have hg : good1 o a ps.length = true := by simp only [shape, Bool.and_eq_true] at hs; exact hs.1
    unfold good1 at hg
    have hg := of_decide_eq_true hg
    have hml : maxLen = 9223372036854775807 := rfl
    have har : ar o ≤ 2 := by unfold ar; split <;> (try split) <;> omega
    refine ⟨by omega, by omega, by omega, TOks_mk fun p hp => ?_⟩
    rcases fcases hs with ⟨-, rfl⟩ | ⟨-, x, rfl, hx⟩ | ⟨-, x, y, rfl, hx, hy⟩ | ⟨-, -, -, x, rfl, hx⟩
    · cases hp
    · obtain rfl := List.mem_singleton.1 hp
      exact ih p (by simp only [nodes, nodess] at hn; omega) hx
    · simp only [nodes, nodess] at hn
      rcases List.mem_cons.1 hp with rfl | hp
      · exact ih p (by omega) hx
      · obtain rfl := List.mem_singleton.1 hp
        exact ih p (by omega) hy
    · obtain rfl := List.mem_singleton.1 hp
      exact ih p (by simp only [nodes, nodess] at hn; omega) hx
section
variable {R : Type} (L N : Nat) (self : Graph → List (List Int) → Int → Int → Option (Int × Int × List Tree × Bool))
theorem ti0 (K : List (List Int) → Int → Int → Int → List (List Move) → Int → Int → Option R) (ms : List (List Move)) (list : List (List Int)) (hr : RoundsOk ms list) (s t : Nat) (hs : s < ms.length) (ht : t < ms.length) (a b : Int) {r : Nat} (hd : RD list s t r) :
    ∀ (n i : Nat), i ≤ r → r - i < n → f33.l0 L N self K n list (s : Int) (t : Int) (i : Int) ms a b = K list (s : Int) (t : Int) (r : Int) ms a b := by
  intro n
  induction n with
  | zero => intro i _ h; omega
  | succ n ih =>
    intro i hi hn
    have hl := hr.1
    have hrl := hd.1
    have hil : i < list.length := by omega
    have hlen := hr.2 i hil
    have hsl : s < (list[i]).length := by omega
    have htl : t < (list[i]).length := by omega
    show f33.s0 L N self K (f33.l0 L N self K n) list (s : Int) (t : Int) (i : Int) ms a b = _
    unfold f33.s0 f33.s0'
    simp only [le0, lt_cast hil, Bool.and_true, cond_true, Int.toNat_natCast, at_lt hil, lt_cast hsl, lt_cast htl, atD]
    by_cases e : i < r
    · have h1 := hd.2.2 i e
      rw [getD_lt hil] at h1
      rw [h1, beq_self_eq_true, cond_true, wi_nat (by omega)]
      exact ih (i + 1) (by omega) (by omega)
    · obtain rfl : i = r := by omega
      have h1 := hd.2.1
      rw [getD_lt hil] at h1
      have h2 : ((list[i]).getD s 0 == (list[i]).getD t 0) = false := by rw [beq_eq_false_iff_ne]; exact h1
      rw [h2, cond_false]
theorem ti2 (K : List (List Int) → Int → Int → List Int → Bool → List Move → Int → Int → List (List Move) → Int → Int → Int → Int → List Int → Option R) (list : List (List Int)) (s t : Int) (cls : List Int) (row : List Move) (rl idx : Int) (trow : List Move) (ms : List (List Move)) (a b act : Int) (to : Nat)
    (htl : trow.length ≤ 1048576) (hc : cls.length = ms.length) (hto : to < ms.length) (hrow : ∀ m ∈ trow, 0 ≤ m.to ∧ m.to < (ms.length : Int)) :
    ∀ (n j : Nat) (met : Bool) (others : List Int), j ≤ trow.length → trow.length - j < n → others.length ≤ j →
      f33.l2 L N self K n list s t cls met row rl idx trow (trow.length : Int) (j : Int) ms a b act (to : Int) others
        = K list s t cls (met || (trow.drop j).any fun x => x.act == act && cls.getD x.to.toNat 0 == cls.getD to 0) row rl idx ms a b act (to : Int) (others ++ ((trow.drop j).filter fun x => x.act == act).map Move.to) := by
  have hlim := lim_eq
  intro n
  induction n with
  | zero => intro j met others _ h; omega
  | succ n ih =>
    intro j met others hj hn ho
    show f33.s2 L N self K (f33.l2 L N self K n) list s t cls met row rl idx trow (trow.length : Int) (j : Int) ms a b act (to : Int) others = _
    unfold f33.s2 f33.s2'
    by_cases hlt : j < trow.length
    · obtain ⟨h0, h1⟩ := hrow _ (List.getElem_mem hlt)
      obtain ⟨u, hu⟩ := Int.eq_ofNat_of_zero_le h0
      have huc : u < cls.length := by omega
      have htc : to < cls.length := by omega
      have hle : decide (others.length + ([(u : Int)] : List Int).length ≤ lim) = true := dt (by simp only [List.length_cons, List.length_nil]; omega)
      rw [List.drop_eq_getElem_cons hlt]
      simp only [lt_cast hlt, le0, Bool.and_true, cond_true, Int.toNat_natCast, at_lt hlt, hu]
      cases hb : ((trow[j]).act == act) with
      | false =>
        rw [cond_false, wi_nat (by omega), ih (j + 1) met others (by omega) (by omega) (by omega)]
        simp only [List.any_cons, hb, Bool.false_and, Bool.false_or, List.filter_cons]
        rfl
      | true =>
        rw [cond_true, hle, cond_true]
        cases met with
        | true =>
          rw [cond_true, wi_nat (by omega), ih (j + 1) true _ (by omega) (by omega) (by simp; omega)]
          simp only [Bool.true_or, List.filter_cons, hb, if_true, List.map_cons, hu, List.append_assoc, List.cons_append, List.nil_append]
        | false =>
          rw [cond_false]
          simp only [lt_cast huc, lt_cast htc, le0, Bool.and_true, cond_true, Int.toNat_natCast, atD]
          rw [wi_nat (by omega), ih (j + 1) _ _ (by omega) (by omega) (by simp; omega)]
          simp only [Bool.false_or, List.any_cons, hb, Bool.true_and, hu, Int.toNat_natCast, List.filter_cons, if_true, List.map_cons, List.append_assoc, List.cons_append, List.nil_append]
    · rw [ge_cast hlt, cond_false, List.drop_eq_nil_of_le (by omega)]
      simp only [List.any_nil, Bool.or_false, List.filter_nil, List.map_nil, List.append_nil]
theorem sizeL_take {α : Type} (f : α → Tree) (l : List α) (k : Nat) : sizeL ((l.take k).map f) ≤ sizeL (l.map f) := by
  have h : l.map f = (l.take k).map f ++ (l.drop k).map f := by rw [← List.map_append, List.take_append_drop]
  rw [h]
  unfold sizeL
  rw [List.map_append, List.sum_append]
  omega
theorem ti3 (hL : 20000 < L) (hN : 20000 ≤ N) (Ke : Int → Int → Int → Int → Int → Int → List Tree → Option R) (Kr : Bool → Int → Int → Int → Int → Int → Int → List Tree → Option R) (ms : List (List Move)) (list : List (List Int)) (a b act to : Int) (others : List Int) (hol : others.length ≤ 1048576) (G : Int → Tree)
    (hG : ∀ v ∈ others, ∃ x c, self ⟨ms⟩ list to v = some (x.op, x.n, x.parts, c) ∧ (c = true ↔ nodes (G v) ≤ 60) ∧ (c = true → x = G v) ∧ nodes x ≤ 10000) :
    ∀ (n k : Nat), k ≤ others.length → others.length - k < n → sizeL ((others.take k).map G) ≤ 62 →
      (sizeL (others.map G) ≤ 62 ∧ f33.l3 L N self Ke Kr n list (sizeL ((others.take k).map G) : Int) (others.length : Int) (k : Int) ms a b act to (conjL ((others.take k).map G)).op (conjL ((others.take k).map G)).n others (conjL ((others.take k).map G)).parts = Ke a b act to (conjL (others.map G)).op (conjL (others.map G)).n (conjL (others.map G)).parts) ∨
      (62 < sizeL (others.map G) ∧ ∃ z1 z2 z3 z4 z5, f33.l3 L N self Ke Kr n list (sizeL ((others.take k).map G) : Int) (others.length : Int) (k : Int) ms a b act to (conjL ((others.take k).map G)).op (conjL ((others.take k).map G)).n others (conjL ((others.take k).map G)).parts = Kr false 0 0 z1 z2 z3 z4 z5) := by
  have hlim := lim_eq
  intro n
  induction n with
  | zero => intro k _ h; omega
  | succ n ih =>
    intro k hk hn hsz
    have hu : f33.l3 L N self Ke Kr (n + 1) list (sizeL ((others.take k).map G) : Int) (others.length : Int) (k : Int) ms a b act to (conjL ((others.take k).map G)).op (conjL ((others.take k).map G)).n others (conjL ((others.take k).map G)).parts
        = f33.s3 L N self Ke Kr (f33.l3 L N self Ke Kr n) list (sizeL ((others.take k).map G) : Int) (others.length : Int) (k : Int) ms a b act to (conjL ((others.take k).map G)).op (conjL ((others.take k).map G)).n others (conjL ((others.take k).map G)).parts := rfl
    rw [hu]
    unfold f33.s3 f33.s3'
    by_cases hlt : k < others.length
    · obtain ⟨x, c, e1, e2, e3, e4⟩ := hG _ (List.getElem_mem hlt)
      obtain ⟨r, r1, r2, r3⟩ := fnodes_ok L N N x 60 (by omega) (by omega) (by omega) (by omega) (by omega)
      have hnp := nodes_pos x
      have htk : (others.take (k + 1)).map G = (others.take k).map G ++ [G others[k]] := by rw [List.take_succ_eq_append_getElem hlt, List.map_append]; rfl
      have hs1 : sizeL ((others.take (k + 1)).map G) = sizeL ((others.take k).map G) + nodes (G others[k]) + 1 := by rw [htk, sizeL_snoc]
      have hs2 := sizeL_take G others (k + 1)
      have hs0 : 1 ≤ sizeL ((others.take k).map G) := by unfold sizeL; omega
      simp only [lt_cast hlt, le0, Bool.and_true, cond_true, Int.toNat_natCast, at_lt hlt, e1, Option.bind_some, mk_parts, r1]
      cases hc : c with
      | false =>
        right
        have : ¬ nodes (G others[k]) ≤ 60 := fun h => by rw [e2.2 h] at hc; cases hc
        rw [Bool.not_false, cond_true]
        exact ⟨by omega, _, _, _, _, _, rfl⟩
      | true =>
        have hG60 := e2.1 hc
        have hx := e3 hc
        subst hx
        have hr := r2 (by omega)
        have hw : wi ((sizeL ((others.take k).map G) : Int) + wi (r + 1)) = (sizeL ((others.take (k + 1)).map G) : Int) := by
          rw [wi_id (n := r + 1) (by omega) (by omega), wi_id (by omega) (by omega)]; omega
        rw [Bool.not_true, cond_false, hw]
        by_cases hgt : sizeL ((others.take (k + 1)).map G) ≤ 62
        · rw [df (show ¬ ((sizeL ((others.take (k + 1)).map G) : Nat) : Int) > 62 by omega), cond_false]
          have hcj := conjL_snoc ((others.take k).map G) (G others[k])
          rw [← htk] at hcj
          have hkl : ((others.take k).map G).length = k := by rw [List.length_map, List.length_take]; omega
          rw [hkl] at hcj
          by_cases hk0 : k = 0
          · subst hk0
            rw [if_pos rfl] at hcj
            have h0 : (((0 : Nat) : Int) == 0) = true := rfl
            rw [h0, cond_true, wi_nat (by omega), ← hcj]
            exact ih (0 + 1) (by omega) (by omega) hgt
          · rw [if_neg hk0] at hcj
            have h0 : ((k : Int) == 0) = false := by rw [beq_eq_false_iff_ne]; omega
            rw [h0, cond_false, wi_nat (by omega)]
            have h9 := ih (k + 1) (by omega) (by omega) hgt
            rw [hcj] at h9
            exact h9
        · right
          rw [dt (show ((sizeL ((others.take (k + 1)).map G) : Nat) : Int) > 62 by omega), cond_true]
          exact ⟨by omega, _, _, _, _, _, rfl⟩
    · left
      rw [List.take_of_length_le (by omega)] at hsz ⊢
      rw [ge_cast hlt, cond_false]
      exact ⟨hsz, rfl⟩
end
end Go.Proofs.Ytffkhhblppfbfaa.Ev
namespace Go.Proofs.Ytffkhhblppfbfaa.Ev
open Go
set_option linter.unusedVariables false
set_option linter.unusedSimpArgs false
theorem round_ok (L N : Nat) (ms : List (List Move)) (list : List (List Int)) (hr : RoundsOk ms list) (s t : Nat) (hs : s < ms.length) (ht : t < ms.length) (hL : 4000 < L) :
    (∀ r, RD list s t r → f27 L N list (s : Int) (t : Int) = some (r : Int)) ∧ ((∀ r, r < list.length → (list.getD r []).getD s 0 = (list.getD r []).getD t 0) → f27 L N list (s : Int) (t : Int) = some (-1)) := by
  have hl := hr.1
  have step : ∀ (n i : Nat), i < list.length → f27.l0 L N (f27.p0_e0 L N some) (fun z4 => f27.p0_r L N some z4) (n + 1) list (s : Int) (t : Int) (i : Int)
      = bif (list.getD i []).getD s 0 != (list.getD i []).getD t 0 then some (i : Int) else f27.l0 L N (f27.p0_e0 L N some) (fun z4 => f27.p0_r L N some z4) n list (s : Int) (t : Int) ((i + 1 : Nat) : Int) := by
    intro n i hi
    have hlen := hr.2 i hi
    have hsl : s < (list[i]).length := by omega
    have htl : t < (list[i]).length := by omega
    show f27.s0 L N _ _ (f27.l0 L N _ _ n) list (s : Int) (t : Int) (i : Int) = _
    unfold f27.s0 f27.s0'
    simp only [le0, lt_cast hi, Bool.and_true, cond_true, Int.toNat_natCast, at_lt hi, lt_cast hsl, lt_cast htl, atD, wi_nat (show i < 9223372036854775807 by omega), getD_lt hi]
    rfl
  constructor
  · intro r hd
    have key : ∀ (n i : Nat), i ≤ r → r - i < n → f27.l0 L N (f27.p0_e0 L N some) (fun z4 => f27.p0_r L N some z4) n list (s : Int) (t : Int) (i : Int) = some (r : Int) := by
      intro n
      induction n with
      | zero => intro i _ h; omega
      | succ n ih =>
        intro i hi hn
        have := hd.1
        rw [step n i (by omega)]
        by_cases e : i < r
        · rw [hd.2.2 i e, bne_self_eq_false, cond_false]
          exact ih (i + 1) (by omega) (by omega)
        · obtain rfl : i = r := by omega
          have h2 : ((list.getD i []).getD s 0 != (list.getD i []).getD t 0) = true := by rw [bne_iff_ne]; exact hd.2.1
          rw [h2, cond_true]
    have := hd.1
    show f27.b L N some list (s : Int) (t : Int) = _
    unfold f27.b f27.b'
    exact key L 0 (by omega) (by omega)
  · intro h
    have key : ∀ (n i : Nat), i ≤ list.length → list.length - i < n → f27.l0 L N (f27.p0_e0 L N some) (fun z4 => f27.p0_r L N some z4) n list (s : Int) (t : Int) (i : Int) = some (-1) := by
      intro n
      induction n with
      | zero => intro i _ h; omega
      | succ n ih =>
        intro i hi hn
        by_cases e : i < list.length
        · rw [step n i e, h i e, bne_self_eq_false, cond_false]
          exact ih (i + 1) (by omega) (by omega)
        · show f27.s0 L N _ _ (f27.l0 L N _ _ n) list (s : Int) (t : Int) (i : Int) = _
          unfold f27.s0 f27.s0'
          rw [ge_cast e, cond_false]; rfl
    show f27.b L N some list (s : Int) (t : Int) = _
    unfold f27.b f27.b'
    exact key L 0 (by omega) (by omega)
theorem has_ok (L N : Nat) (ms : List (List Move)) (hm : Leads ms) (hL : 1048576 < L) (p : List Int) (hp : p.length = ms.length) (t : Nat) (ht : t < ms.length) (act c : Int) :
    f52 L N ⟨ms⟩ (t : Int) act p c = some ((ms[t]).any fun n => n.act == act && p.getD n.to.toNat 0 == c) := by
  have hrow := (hm.2 t ht).1
  show f52.b L N some ⟨ms⟩ (t : Int) act p c = _
  unfold f52.b f52.b'
  have key : ∀ (n k : Nat), k ≤ (ms[t]).length → (ms[t]).length - k < n → f52.l0 L N (f52.p0_e0 L N some) (fun z13 => f52.p0_r L N some z13) n (t : Int) act p c (k : Int) ms = some (((ms[t]).drop k).any fun n => n.act == act && p.getD n.to.toNat 0 == c) := by
    intro n
    induction n with
    | zero => intro k _ h; omega
    | succ n ih =>
      intro k hk hn
      show f52.s0 L N _ _ (f52.l0 L N _ _ n) (t : Int) act p c (k : Int) ms = _
      unfold f52.s0 f52.s0'
      by_cases hkl : k < (ms[t]).length
      · obtain ⟨u, hu, hul⟩ := hm.nat ht hkl
        have hup : u < p.length := by omega
        rw [List.drop_eq_getElem_cons hkl, List.any_cons]
        simp only [le0, lt_cast ht, Bool.and_true, cond_true, Int.toNat_natCast, at_lt ht, lt_cast hkl, at_lt hkl, hu, lt_cast hup, atD]
        rw [wi_nat (by omega), ih (k + 1) (by omega) (by omega)]
        cases ((ms[t])[k].act == act) with
        | false => rw [cond_false, Bool.false_and, Bool.false_or]
        | true =>
          rw [cond_true, Bool.true_and]
          cases (p.getD u 0 == c) with
          | true => rw [cond_true, Bool.true_or]; rfl
          | false => rw [cond_false, Bool.false_or]
      · simp only [le0, lt_cast ht, Bool.and_true, cond_true, Int.toNat_natCast, at_lt ht, ge_cast hkl, cond_false]
        rw [List.drop_eq_nil_of_le (by omega)]
        rfl
  exact key L 0 (by omega) (by omega)
section
variable {R : Type} (L N : Nat) (self : Graph → List (List Int) → Int → Int → Option (Tree × Bool))
theorem ts1 (hL : 2000000 < L) (hN : 20000 ≤ N) (Ke : Int → Int → Int → Int → Int → Int → List Tree → Option R) (Kr : Bool → Int → Int → List Tree → Int → Int → Int → Int → List Tree → Option R) (ms : List (List Move)) (hm : Leads ms) (list : List (List Int)) (t : Nat) (ht : t < ms.length) (a b act to : Int) (G : Int → Tree)
    (hG : ∀ v ∈ othersL ms t act, ∃ x c, self ⟨ms⟩ list to v = some (x, c) ∧ (c = true → x = G v ∧ nodes x ≤ 10000 ∧ shape x = true) ∧ (c = false → 60 < nodes (G v))) :
    ∀ (n j : Nat), j ≤ (ms[t]).length → (ms[t]).length - j < n → (∀ i, i ≤ j → nodes (conjL ((((ms[t]).take i).filter fun x => x.act == act).map fun x => G x.to)) ≤ 60) → shape (conjL ((((ms[t]).take j).filter fun x => x.act == act).map fun x => G x.to)) = true →
      (nodes (conjL ((othersL ms t act).map G)) ≤ 60 ∧ f28.l1 L N self Ke Kr n list (t : Int) ((((ms[t]).take j).filter fun x => x.act == act).length : Int) (j : Int) ms a b act to (conjL ((((ms[t]).take j).filter fun x => x.act == act).map fun x => G x.to)).op (conjL ((((ms[t]).take j).filter fun x => x.act == act).map fun x => G x.to)).n (conjL ((((ms[t]).take j).filter fun x => x.act == act).map fun x => G x.to)).parts = Ke a b act to (conjL ((othersL ms t act).map G)).op (conjL ((othersL ms t act).map G)).n (conjL ((othersL ms t act).map G)).parts) ∨
      (60 < nodes (conjL ((othersL ms t act).map G)) ∧ ∃ z1 z2 z3 z4 z5, f28.l1 L N self Ke Kr n list (t : Int) ((((ms[t]).take j).filter fun x => x.act == act).length : Int) (j : Int) ms a b act to (conjL ((((ms[t]).take j).filter fun x => x.act == act).map fun x => G x.to)).op (conjL ((((ms[t]).take j).filter fun x => x.act == act).map fun x => G x.to)).n (conjL ((((ms[t]).take j).filter fun x => x.act == act).map fun x => G x.to)).parts = Kr false 0 0 [] z1 z2 z3 z4 z5) := by
  have hlim := lim_eq
  have hrow := (hm.2 t ht).1
  have hoth : (othersL ms t act).map G = (((ms[t]).filter fun x => x.act == act).map fun x => G x.to) := by unfold othersL; rw [getD_lt ht, List.map_map]; rfl
  have grow : ∀ j, nodes (conjL ((((ms[t]).take j).filter fun x => x.act == act).map fun x => G x.to)) ≤ nodes (conjL ((othersL ms t act).map G)) ∨ (((ms[t]).take j).filter fun x => x.act == act) = [] := by
    intro j
    rw [hoth]
    have h : ((ms[t]).filter fun x => x.act == act) = (((ms[t]).take j).filter fun x => x.act == act) ++ (((ms[t]).drop j).filter fun x => x.act == act) := by rw [← List.filter_append, List.take_append_drop]
    rcases sizeL_conj ((((ms[t]).take j).filter fun x => x.act == act).map fun x => G x.to) with e | e
    · right; exact List.map_eq_nil_iff.1 e
    · left
      rcases sizeL_conj (((ms[t]).filter fun x => x.act == act).map fun x => G x.to) with e' | e'
      · rw [h, List.map_append] at e'
        have := (List.append_eq_nil_iff.1 e').1
        rw [h, List.map_append, this, (List.append_eq_nil_iff.1 e').2]; exact Nat.le_refl _
      · have : sizeL ((((ms[t]).take j).filter fun x => x.act == act).map fun x => G x.to) ≤ sizeL (((ms[t]).filter fun x => x.act == act).map fun x => G x.to) := by
          rw [h, List.map_append]; unfold sizeL; rw [List.map_append, List.sum_append]; omega
        omega
  intro n
  induction n with
  | zero => intro j _ h; omega
  | succ n ih =>
    intro j hj hn h60 hsh
    have hu : ∀ A B C : Int, ∀ D : Int, ∀ E F : Int, ∀ P : List Tree, f28.l1 L N self Ke Kr (n + 1) list A B C ms a b act to E F P = f28.s1 L N self Ke Kr (f28.l1 L N self Ke Kr n) list A B C ms a b act to E F P := fun _ _ _ _ _ _ _ => rfl
    rw [hu _ _ _ 0]
    unfold f28.s1 f28.s1'
    by_cases hlt : j < (ms[t]).length
    · have htk : (ms[t]).take (j + 1) = (ms[t]).take j ++ [(ms[t])[j]] := List.take_succ_eq_append_getElem hlt
      simp only [le0, lt_cast ht, Bool.and_true, cond_true, Int.toNat_natCast, at_lt ht, lt_cast hlt, at_lt hlt]
      cases hb : ((ms[t])[j].act == act) with
      | false =>
        have hf : (((ms[t]).take (j + 1)).filter fun x => x.act == act) = ((ms[t]).take j).filter fun x => x.act == act := by
          rw [htk, List.filter_append, List.filter_cons, hb]; simp
        have hne : ((ms[t])[j].act != act) = true := by rw [bne, hb]; rfl
        rw [hne, cond_true, wi_nat (by omega), ← hf]
        refine ih (j + 1) (by omega) (by omega) (fun i hi => ?_) (by rw [hf]; exact hsh)
        by_cases e : i ≤ j
        · exact h60 i e
        · obtain rfl : i = j + 1 := by omega
          rw [hf]; exact h60 j (Nat.le_refl _)
      | true =>
        have hf : (((ms[t]).take (j + 1)).filter fun x => x.act == act) = (((ms[t]).take j).filter fun x => x.act == act) ++ [(ms[t])[j]] := by
          rw [htk, List.filter_append, List.filter_cons, hb]; simp
        have hne : ((ms[t])[j].act != act) = false := by rw [bne, hb]; rfl
        have hmem : (ms[t])[j].to ∈ othersL ms t act := by
          unfold othersL
          rw [getD_lt ht]
          exact List.mem_map.2 ⟨_, List.mem_filter.2 ⟨List.getElem_mem hlt, hb⟩, rfl⟩
        obtain ⟨x, c, e1, e2, e3⟩ := hG _ hmem
        rw [hne, cond_false, e1]
        simp only [Option.bind_some, mk_parts]
        have hg1 := grow (j + 1)
        have hnil : ¬ (((ms[t]).take (j + 1)).filter fun x => x.act == act) = [] := by rw [hf]; simp
        have hle1 := hg1.resolve_right hnil
        have hcj := conjL_snoc ((((ms[t]).take j).filter fun x => x.act == act).map fun x => G x.to) (G (ms[t])[j].to)
        have hmap : ((((ms[t]).take (j + 1)).filter fun x => x.act == act).map fun x => G x.to) = ((((ms[t]).take j).filter fun x => x.act == act).map fun x => G x.to) ++ [G (ms[t])[j].to] := by rw [hf, List.map_append]; rfl
        rw [← hmap, List.length_map] at hcj
        cases hc : c with
        | false =>
          right
          have h1 := e3 hc
          rw [Bool.not_false, cond_true]
          refine ⟨?_, _, _, _, _, _, rfl⟩
          have : nodes (G (ms[t])[j].to) ≤ nodes (conjL ((((ms[t]).take (j + 1)).filter fun x => x.act == act).map fun x => G x.to)) := by
            rw [hcj]
            split
            · exact Nat.le_refl _
            · simp only [nodes, nodess]; omega
          omega
        | true =>
          obtain ⟨h1, h2, h3⟩ := e2 hc
          subst h1
          rw [Bool.not_true, cond_false]
          have hj60 := h60 j (Nat.le_refl _)
          have hlen : (((ms[t]).take j).filter fun x => x.act == act).length ≤ j := by
            have := List.length_filter_le (fun x : Move => x.act == act) ((ms[t]).take j)
            rw [List.length_take] at this; omega
          have hshape : shape (conjL ((((ms[t]).take (j + 1)).filter fun x => x.act == act).map fun x => G x.to)) = true := by
            rw [hcj]
            split
            · exact h3
            · exact shape2 hsh h3
          have hnode : nodes (conjL ((((ms[t]).take (j + 1)).filter fun x => x.act == act).map fun x => G x.to)) ≤ 10100 := by
            rw [hcj]
            split
            · omega
            · simp only [nodes, nodess]; omega
          have fin : ∀ (o' n' : Int) (p' : List Tree), Tree.mk o' n' p' = conjL ((((ms[t]).take (j + 1)).filter fun x => x.act == act).map fun x => G x.to) →
              (nodes (conjL ((othersL ms t act).map G)) ≤ 60 ∧ f28.j0' L N self Ke Kr (f28.l1 L N self Ke Kr n) list (t : Int) ((((ms[t]).take j).filter fun x => x.act == act).length : Int) (j : Int) ms a b act to (conjL ((((ms[t]).take j).filter fun x => x.act == act).map fun x => G x.to)).op (conjL ((((ms[t]).take j).filter fun x => x.act == act).map fun x => G x.to)).n (conjL ((((ms[t]).take j).filter fun x => x.act == act).map fun x => G x.to)).parts o' n' p' = Ke a b act to (conjL ((othersL ms t act).map G)).op (conjL ((othersL ms t act).map G)).n (conjL ((othersL ms t act).map G)).parts) ∨
              (60 < nodes (conjL ((othersL ms t act).map G)) ∧ ∃ z1 z2 z3 z4 z5, f28.j0' L N self Ke Kr (f28.l1 L N self Ke Kr n) list (t : Int) ((((ms[t]).take j).filter fun x => x.act == act).length : Int) (j : Int) ms a b act to (conjL ((((ms[t]).take j).filter fun x => x.act == act).map fun x => G x.to)).op (conjL ((((ms[t]).take j).filter fun x => x.act == act).map fun x => G x.to)).n (conjL ((((ms[t]).take j).filter fun x => x.act == act).map fun x => G x.to)).parts o' n' p' = Kr false 0 0 [] z1 z2 z3 z4 z5) := by
            intro o' n' p' he
            unfold f28.j0'
            rw [he]
            have h7 := l7_ok L N N (conjL ((((ms[t]).take (j + 1)).filter fun x => x.act == act).map fun x => G x.to)) (by omega) (by omega) (shape_tok _ _ (Nat.le_refl _) hshape)
            rw [if_pos hshape] at h7
            simp only [mk_parts, h7, Option.bind_some]
            by_cases hgt : nodes (conjL ((((ms[t]).take (j + 1)).filter fun x => x.act == act).map fun x => G x.to)) ≤ 60
            · rw [df (show ¬ ((min 1000 (nodes (conjL ((((ms[t]).take (j + 1)).filter fun x => x.act == act).map fun x => G x.to))) : Nat) : Int) > 60 by omega), cond_false, wi_nat (show (((ms[t]).take j).filter fun x => x.act == act).length < 9223372036854775807 by omega), wi_nat (show j < 9223372036854775807 by omega)]
              have hl1 : (((ms[t]).take j).filter fun x => x.act == act).length + 1 = (((ms[t]).take (j + 1)).filter fun x => x.act == act).length := by rw [hf]; simp
              rw [hl1]
              refine ih (j + 1) (by omega) (by omega) (fun i hi => ?_) hshape
              by_cases e : i ≤ j
              · exact h60 i e
              · obtain rfl : i = j + 1 := by omega
                exact hgt
            · right
              rw [dt (show ((min 1000 (nodes (conjL ((((ms[t]).take (j + 1)).filter fun x => x.act == act).map fun x => G x.to))) : Nat) : Int) > 60 by omega), cond_true]
              exact ⟨by omega, _, _, _, _, _, rfl⟩
          by_cases hz : (((ms[t]).take j).filter fun x => x.act == act).length = 0
          · rw [if_pos hz] at hcj
            rw [df (show ¬ (((((ms[t]).take j).filter fun x => x.act == act).length : Nat) : Int) > 0 by omega), cond_false]
            exact fin _ _ _ (by rw [hcj, mk_parts])
          · rw [if_neg hz] at hcj
            rw [dt (show (((((ms[t]).take j).filter fun x => x.act == act).length : Nat) : Int) > 0 by omega), cond_true]
            exact fin _ _ _ (by rw [hcj]; simp only [mk_parts])
    · left
      have htk : (ms[t]).take j = ms[t] := List.take_of_length_le (by omega)
      have h6 := h60 j (Nat.le_refl _)
      rw [htk, ← hoth] at h6
      simp only [le0, lt_cast ht, Bool.and_true, cond_true, Int.toNat_natCast, at_lt ht, ge_cast hlt, cond_false]
      rw [htk, ← hoth]
      exact ⟨h6, rfl⟩
end
end Go.Proofs.Ytffkhhblppfbfaa.Ev
namespace Go.Proofs.Ytffkhhblppfbfaa.Ev
open Go
set_option linter.unusedVariables false
set_option linter.unusedSimpArgs false
theorem Chain.lens {E : List Int → Nat → Nat → Prop} {n : Nat} {pre : List (List Int)} {p : List Int} (h : Chain E n pre p) : ∀ x ∈ pre ++ [p], x.length = n := by
  induction h with
  | zero => intro x hx; rw [List.nil_append] at hx; obtain rfl := List.mem_singleton.1 hx; simp
  | snoc pre p q h hq ih =>
    intro x hx
    rcases List.mem_append.1 hx with hx | hx
    · exact ih x hx
    · obtain rfl := List.mem_singleton.1 hx; exact hq.1
theorem RD.symm {list : List (List Int)} {s t r : Nat} (h : RD list s t r) : RD list t s r := ⟨h.1, fun e => h.2.1 e.symm, fun r' hr' => (h.2.2 r' hr').symm⟩
theorem RD.exists {list : List (List Int)} {s t : Nat} : ∀ (r0 : Nat), r0 < list.length → (list.getD r0 []).getD s 0 ≠ (list.getD r0 []).getD t 0 → ∃ r, r ≤ r0 ∧ RD list s t r := by
  intro r0
  induction r0 using Nat.strongRecOn with
  | _ r0 ih =>
    intro h1 h2
    by_cases h : ∃ r', r' < r0 ∧ (list.getD r' []).getD s 0 ≠ (list.getD r' []).getD t 0
    · obtain ⟨r', h3, h4⟩ := h
      obtain ⟨r, h5, h6⟩ := ih r' h3 (by omega) h4
      exact ⟨r, by omega, h6⟩
    · exact ⟨r0, Nat.le_refl _, h1, h2, fun r' hr' => Classical.byContradiction fun e => h ⟨r', hr', e⟩⟩
theorem find_cons_drop {α : Type} {p : α → Bool} {l : List α} {i : Nat} (h : i < l.length) : (l.drop i).find? p = if p l[i] = true then some l[i] else (l.drop (i + 1)).find? p := by
  rw [List.drop_eq_getElem_cons h, List.find?_cons]
  split
  · rename_i hp; rw [if_pos hp]
  · rename_i hp; rw [if_neg (by rw [hp]; simp)]
section
variable {R : Type} (L N : Nat) (self : Graph → List (List Int) → Int → Int → Option (Int × Int × List Tree × Bool))
theorem ti1 (hL : 2000000 < L) (Ke : List (List Int) → Int → Int → List (List Move) → Int → Int → Option R) (Kr : Bool → Int → Int → Option R) (Kr1 : Bool → Int → Int → List Tree → Option R) (ms : List (List Move)) (hm : Leads ms) (list : List (List Int)) (s t : Nat) (hs : s < ms.length) (ht : t < ms.length) (cls : List Int) (hc : cls.length = ms.length) (a b : Int) (Fin : Move → Option R)
    (hF : ∀ m ∈ ms[s], uncB ms cls t m = true → ∀ rec1, f33.l3 L N self (fun z91 z92 z93 z94 z95 z96 z97 => f33.p3_e6 L N self Ke Kr Kr1 rec1 z91 z92 z93 z94 z95 z96 z97) (fun z118 z119 z120 z121 z122 z123 z124 z125 => f33.p3_r L N self Ke Kr Kr1 rec1 z118 z119 z120 z121 z122 z123 z124 z125) L list 1 ((othersL ms t m.act).length : Int) 0 ms a b m.act m.to 0 0 (othersL ms t m.act) [] = Fin m) :
    ∀ (n i : Nat), i ≤ (ms[s]).length → (ms[s]).length - i < n → f33.l1 L N self Ke Kr Kr1 n list (s : Int) (t : Int) cls ms[s] ((ms[s]).length : Int) (i : Int) ms a b = match ((ms[s]).drop i).find? (uncB ms cls t) with
      | some m => Fin m
      | none => Ke list (s : Int) (t : Int) ms a b := by
  have hrs := (hm.2 s hs).1
  have hrt := (hm.2 t ht).1
  intro n
  induction n with
  | zero => intro i _ h; omega
  | succ n ih =>
    intro i hi hn
    show f33.s1 L N self Ke Kr Kr1 (f33.l1 L N self Ke Kr Kr1 n) list (s : Int) (t : Int) cls ms[s] ((ms[s]).length : Int) (i : Int) ms a b = _
    unfold f33.s1 f33.s1'
    by_cases hlt : i < (ms[s]).length
    · obtain ⟨u, hu, hul⟩ := hm.nat hs hlt
      have h2 := ti2 L N self (fun z47 z48 z49 z50 z51 z52 z53 z54 z55 z56 z57 z58 z59 z60 => f33.p2_e4 L N self Ke Kr Kr1 (f33.l1 L N self Ke Kr Kr1 n) z47 z48 z49 z50 z51 z52 z53 z54 z55 z56 z57 z58 z59 z60) list (s : Int) (t : Int) cls ms[s] ((ms[s]).length : Int) (i : Int) ms[t] ms a b (ms[s])[i].act u hrt hc hul (fun m hm' => by
        obtain ⟨k, hk, rfl⟩ := List.mem_iff_getElem.1 hm'
        exact (hm.2 t ht).2 k hk) L 0 false [] (by omega) (by omega) (by simp)
      rw [List.drop_zero, Bool.false_or, List.nil_append] at h2
      have h2' : f33.l2 L N self (fun z47 z48 z49 z50 z51 z52 z53 z54 z55 z56 z57 z58 z59 z60 => f33.p2_e4 L N self Ke Kr Kr1 (f33.l1 L N self Ke Kr Kr1 n) z47 z48 z49 z50 z51 z52 z53 z54 z55 z56 z57 z58 z59 z60) L list (s : Int) (t : Int) cls false ms[s] ((ms[s]).length : Int) (i : Int) ms[t] ((ms[t]).length : Int) (0 : Int) ms a b (ms[s])[i].act (u : Int) [] = _ := h2
      simp only [lt_cast hlt, le0, lt_cast ht, Bool.and_true, cond_true, Int.toNat_natCast, at_lt hlt, at_lt ht, hu, h2']
      have hun : ((ms[t]).any fun x => x.act == (ms[s])[i].act && cls.getD x.to.toNat 0 == cls.getD u 0) = !uncB ms cls t (ms[s])[i] := by
        unfold uncB; rw [getD_lt ht, hu, Int.toNat_natCast, Bool.not_not]
      have hot : (((ms[t]).filter fun x => x.act == (ms[s])[i].act).map Move.to) = othersL ms t (ms[s])[i].act := by unfold othersL; rw [getD_lt ht]
      rw [hun, hot]
      unfold f33.p2_e4 f33.p2_e4'
      rw [find_cons_drop hlt]
      cases hb : uncB ms cls t (ms[s])[i] with
      | true =>
        rw [Bool.not_true, cond_false, if_pos rfl]
        have := hF _ (List.getElem_mem hlt) hb (f33.l1 L N self Ke Kr Kr1 n)
        rw [hu] at this
        exact this
      | false =>
        rw [Bool.not_false, cond_true, if_neg (by simp), wi_nat (by omega)]
        exact ih (i + 1) (by omega) (by omega)
    · rw [ge_cast hlt, cond_false, List.drop_eq_nil_of_le (by omega), List.find?_nil]
end
section
variable {R : Type} (L N : Nat) (self : Graph → List (List Int) → Int → Int → Option (Tree × Bool))
theorem ts0 (hL : 2000000 < L) (Ke : List (List Int) → Int → Int → List (List Move) → Int → Int → Option R) (Kr : Bool → Int → Int → List Tree → Option R) (ms : List (List Move)) (hm : Leads ms) (list : List (List Int)) (s t : Nat) (hs : s < ms.length) (ht : t < ms.length) (cls : List Int) (hc : cls.length = ms.length) (a b : Int) (Fin : Move → Option R)
    (hF : ∀ m ∈ ms[s], uncB ms cls t m = true → ∀ rec0, f28.l1 L N self (fun z28 z29 z30 z31 z32 z33 z34 => f28.p1_e2 L N self Ke Kr rec0 z28 z29 z30 z31 z32 z33 z34) (fun z36 z37 z38 z39 z40 z41 z42 z43 z44 => f28.p1_r L N self Ke Kr rec0 z36 z37 z38 z39 z40 z41 z42 z43 z44) L list (t : Int) 0 0 ms a b m.act m.to 0 0 [] = Fin m) :
    ∀ (n i : Nat), i ≤ (ms[s]).length → (ms[s]).length - i < n → f28.l0 L N self Ke Kr n list (s : Int) (t : Int) cls (i : Int) ms a b = match ((ms[s]).drop i).find? (uncB ms cls t) with
      | some m => Fin m
      | none => Ke list (s : Int) (t : Int) ms a b := by
  have hrs := (hm.2 s hs).1
  intro n
  induction n with
  | zero => intro i _ h; omega
  | succ n ih =>
    intro i hi hn
    show f28.s0 L N self Ke Kr (f28.l0 L N self Ke Kr n) list (s : Int) (t : Int) cls (i : Int) ms a b = _
    unfold f28.s0 f28.s0'
    by_cases hlt : i < (ms[s]).length
    · obtain ⟨u, hu, hul⟩ := hm.nat hs hlt
      have huc : u < cls.length := by omega
      have hh := has_ok L N ms hm (by omega) cls hc t ht (ms[s])[i].act (cls.getD u 0)
      simp only [lt_cast hs, le0, Bool.and_true, cond_true, Int.toNat_natCast, at_lt hs, lt_cast hlt, at_lt hlt, hu, lt_cast huc, atD, hh, Option.bind_some]
      have hun : ((ms[t]).any fun x => x.act == (ms[s])[i].act && cls.getD x.to.toNat 0 == cls.getD u 0) = !uncB ms cls t (ms[s])[i] := by
        unfold uncB; rw [getD_lt ht, hu, Int.toNat_natCast, Bool.not_not]
      rw [hun, find_cons_drop hlt]
      cases hb : uncB ms cls t (ms[s])[i] with
      | true =>
        rw [Bool.not_true, cond_false, if_pos rfl]
        have := hF _ (List.getElem_mem hlt) hb (f28.l0 L N self Ke Kr n)
        rw [hu] at this
        exact this
      | false =>
        rw [Bool.not_false, cond_true, if_neg (by simp), wi_nat (by omega)]
        exact ih (i + 1) (by omega) (by omega)
    · simp only [lt_cast hs, le0, Bool.and_true, cond_true, Int.toNat_natCast, at_lt hs, ge_cast hlt, cond_false]
      rw [List.drop_eq_nil_of_le (by omega), List.find?_nil]
end
theorem tells_both (L N : Nat) (hL : 2000000 < L) (hN : 20000 ≤ N) (ms : List (List Move)) (hm : Leads ms) (hact : ∀ (i : Nat) (hi : i < ms.length), ∀ m ∈ ms[i], -4 ≤ m.act ∧ m.act ≤ 4) (pre : List (List Int)) (q : List Int) (hc : Chain (Akin ms) ms.length pre q) (hp : pre.length ≤ 3600) :
    ∀ (m s t r : Nat), s < ms.length → t < ms.length → RD (pre ++ [q]) s t r → 2 * r + (if (ms.getD s []).any (uncB ms ((pre ++ [q]).getD (r - 1) []) t) = true then 0 else 1) ≤ m →
      ∃ F, shape F = true ∧ depth F ≤ r ∧ hold ms F s = true ∧ hold ms F t = false ∧
        (∃ x c, f33 L N m ⟨ms⟩ (pre ++ [q]) (s : Int) (t : Int) = some (x.op, x.n, x.parts, c) ∧ (c = true ↔ nodes F ≤ 60) ∧ (c = true → x = F) ∧ nodes x ≤ 100 + (2 * r + (if (ms.getD s []).any (uncB ms ((pre ++ [q]).getD (r - 1) []) t) = true then 0 else 1))) ∧
        (∃ x c, f28 L N m ⟨ms⟩ (pre ++ [q]) (s : Int) (t : Int) = some (x, c) ∧ (c = true → x = F ∧ nodes x ≤ 100 + (2 * r + (if (ms.getD s []).any (uncB ms ((pre ++ [q]).getD (r - 1) []) t) = true then 0 else 1))) ∧ (c = false → 60 < nodes F)) := by
  have hn60 := hm.1
  have hlen : (pre ++ [q]).length = pre.length + 1 := by simp
  have hrok : RoundsOk ms (pre ++ [q]) := ⟨by omega, fun r h => hc.lens _ (List.getElem_mem h)⟩
  intro m
  induction m with
  | zero =>
    intro s t r hs ht hd h
    have hr0 : r ≠ 0 := fun e => by
      subst e
      have := hd.2.1
      rw [hc.first, getD_lt (by simpa using hs), getD_lt (by simpa using ht), List.getElem_replicate, List.getElem_replicate] at this
      exact this rfl
    omega
  | succ m ih =>
    intro s t r hs ht hd hmu
    have hr0 : r ≠ 0 := fun e => by
      subst e
      have := hd.2.1
      rw [hc.first, getD_lt (by simpa using hs), getD_lt (by simpa using ht), List.getElem_replicate, List.getElem_replicate] at this
      exact this rfl
    obtain ⟨r1, rfl⟩ : ∃ r1, r = r1 + 1 := ⟨r - 1, by omega⟩
    have hrl := hd.1
    have hr1l : r1 < (pre ++ [q]).length := by omega
    rw [show r1 + 1 - 1 = r1 by omega] at hmu ⊢
    have hcls : ((pre ++ [q]).getD r1 []).length = ms.length := by rw [getD_lt hr1l]; exact hrok.2 r1 hr1l
    have hnext := hc.next r1 (by omega)
    have hsame := hd.2.2 r1 (by omega)
    have hnak : ¬ Akin ms ((pre ++ [q]).getD r1 []) s t := fun h => hd.2.1 ((hnext.same ((akinEq ms).symm _) ((akinEq ms).trans _) hs ht).2 h)
    have hto : ∀ {s : Nat} (hs : s < ms.length) {x : Move}, x ∈ ms[s] → ∃ u : Nat, x.to = (u : Int) ∧ u < ms.length := by
      intro s hs x hx
      obtain ⟨k, hk, rfl⟩ := List.mem_iff_getElem.1 hx
      exact hm.nat hs hk
  
    have hch : ∀ mv : Move × Int, ∃ F, (mv.1 ∈ ms[s] ∧ uncB ms ((pre ++ [q]).getD r1 []) t mv.1 = true ∧ mv.2 ∈ othersL ms t mv.1.act) →
        (shape F = true ∧ depth F ≤ r1 ∧ hold ms F mv.1.to.toNat = true ∧ hold ms F mv.2.toNat = false ∧
        (∃ x c, f33 L N m ⟨ms⟩ (pre ++ [q]) mv.1.to mv.2 = some (x.op, x.n, x.parts, c) ∧ (c = true ↔ nodes F ≤ 60) ∧ (c = true → x = F) ∧ nodes x ≤ 100 + (2 * r1 + 1)) ∧
        (∃ x c, f28 L N m ⟨ms⟩ (pre ++ [q]) mv.1.to mv.2 = some (x, c) ∧ (c = true → x = F ∧ nodes x ≤ 100 + (2 * r1 + 1)) ∧ (c = false → 60 < nodes F))) := by
      rintro ⟨x, v⟩
      by_cases h : x ∈ ms[s] ∧ uncB ms ((pre ++ [q]).getD r1 []) t x = true ∧ v ∈ othersL ms t x.act
      · obtain ⟨h1, h2, h3⟩ := h
        have hap := unc_apart h2 v h3
        obtain ⟨u, hu, hul⟩ := hto hs h1
        obtain ⟨y, hy, hyv⟩ := List.mem_map.1 h3
        rw [getD_lt ht] at hy
        obtain ⟨w, hw, hwl⟩ := hto ht (List.mem_filter.1 hy).1
        rw [hyv] at hw
        rw [hw, hu, Int.toNat_natCast, Int.toNat_natCast] at hap
        obtain ⟨r', hr', hd'⟩ := RD.exists r1 hr1l (fun e => hap e.symm)
        obtain ⟨F, f1, f2, f3, f4, ⟨x1, c1, g1, g2, g3, g4⟩, x2, c2, k1, k2, k3⟩ := ih u w r' hul hwl hd' (by split <;> omega)
        have hb : (2 * r' + (if (ms.getD u []).any (uncB ms ((pre ++ [q]).getD (r' - 1) []) w) = true then 0 else 1)) ≤ 2 * r1 + 1 := by split <;> omega
        refine ⟨F, fun _ => ?_⟩
        rw [hu, hw, Int.toNat_natCast, Int.toNat_natCast]
        exact ⟨f1, by omega, f3, f4, ⟨x1, c1, g1, g2, g3, by omega⟩, x2, c2, k1, fun h => ⟨(k2 h).1, by have := (k2 h).2; omega⟩, k3⟩
      · exact ⟨.mk 0 0 [], fun h' => absurd h' h⟩
    obtain ⟨G0, hG0⟩ := Classical.axiomOfChoice hch
    generalize hG1 : (fun (x : Move) (v : Int) => G0 (x, v)) = G
    have hG : ∀ x ∈ ms[s], uncB ms ((pre ++ [q]).getD r1 []) t x = true → ∀ v ∈ othersL ms t x.act, (shape (G x v) = true ∧ depth (G x v) ≤ r1 ∧ hold ms (G x v) x.to.toNat = true ∧ hold ms (G x v) v.toNat = false ∧
        (∃ y c, f33 L N m ⟨ms⟩ (pre ++ [q]) x.to v = some (y.op, y.n, y.parts, c) ∧ (c = true ↔ nodes (G x v) ≤ 60) ∧ (c = true → y = G x v) ∧ nodes y ≤ 100 + (2 * r1 + 1)) ∧
        (∃ y c, f28 L N m ⟨ms⟩ (pre ++ [q]) x.to v = some (y, c) ∧ (c = true → y = G x v ∧ nodes y ≤ 100 + (2 * r1 + 1)) ∧ (c = false → 60 < nodes (G x v)))) := fun x hx hu v hv => by
      rw [← hG1]; exact hG0 (x, v) ⟨hx, hu, hv⟩
    have hol : ∀ a, (othersL ms t a).length ≤ 1048576 := fun a => by
      unfold othersL
      rw [getD_lt ht, List.length_map]
      exact Nat.le_trans (List.length_filter_le _ _) (hm.2 t ht).1
    have hwr : wi (((r1 + 1 : Nat) : Int) - 1) = (r1 : Int) := by rw [wi_id (by omega) (by omega)]; omega
    generalize hFin : (fun x : Move => Tree.mk 3 x.act [conjL ((othersL ms t x.act).map (G x))]) = Fm
  
    have himpl : f33 L N (m + 1) ⟨ms⟩ (pre ++ [q]) (s : Int) (t : Int) = match (ms[s]).find? (uncB ms ((pre ++ [q]).getD r1 []) t) with
        | some x => (if sizeL ((othersL ms t x.act).map (G x)) ≤ 62 then some ((Fm x).op, (Fm x).n, (Fm x).parts, decide (nodes (Fm x) ≤ 60)) else some (0, 0, [], false))
        | none => f33.p1_e2 L N (f33 L N m) (fun a0 a1 a2 a3 => some (a0, a1, a2, a3)) (pre ++ [q]) (s : Int) (t : Int) ms 0 0 := by
      show f33.l0 L N (f33 L N m) (fun z7 z8 z9 z10 z11 z12 z13 => f33.p0_e0 L N (f33 L N m) (fun a0 a1 a2 a3 => some (a0, a1, a2, a3)) z7 z8 z9 z10 z11 z12 z13) L (pre ++ [q]) (s : Int) (t : Int) ((0 : Nat) : Int) ms 0 0 = _
      rw [ti0 L N (f33 L N m) _ ms (pre ++ [q]) hrok s t hs ht 0 0 hd L 0 (by omega) (by omega)]
      unfold f33.p0_e0 f33.p0_e0'
      simp only [hwr, le0, lt_cast hr1l, lt_cast hs, Bool.and_true, cond_true, Int.toNat_natCast, atD, at_lt hs]
      have h1 := ti1 L N (f33 L N m) hL (fun z24 z25 z26 z27 z28 z29 => f33.p1_e2 L N (f33 L N m) (fun a0 a1 a2 a3 => some (a0, a1, a2, a3)) z24 z25 z26 z27 z28 z29) (fun z169 z170 z171 => f33.p1_r L N (f33 L N m) (fun a0 a1 a2 a3 => some (a0, a1, a2, a3)) z169 z170 z171) (fun z173 z174 z175 z176 => f33.p1_r1 L N (f33 L N m) (fun a0 a1 a2 a3 => some (a0, a1, a2, a3)) z173 z174 z175 z176) ms hm (pre ++ [q]) s t hs ht ((pre ++ [q]).getD r1 []) hcls 0 0
        (fun x => if sizeL ((othersL ms t x.act).map (G x)) ≤ 62 then some ((Fm x).op, (Fm x).n, (Fm x).parts, decide (nodes (Fm x) ≤ 60)) else some (0, 0, [], false)) (fun x hx hu rec1 => by
          have h3 := ti3 L N (f33 L N m) (by omega) (by omega) (fun z91 z92 z93 z94 z95 z96 z97 => f33.p3_e6 L N (f33 L N m) (fun z24 z25 z26 z27 z28 z29 => f33.p1_e2 L N (f33 L N m) (fun a0 a1 a2 a3 => some (a0, a1, a2, a3)) z24 z25 z26 z27 z28 z29) (fun z169 z170 z171 => f33.p1_r L N (f33 L N m) (fun a0 a1 a2 a3 => some (a0, a1, a2, a3)) z169 z170 z171) (fun z173 z174 z175 z176 => f33.p1_r1 L N (f33 L N m) (fun a0 a1 a2 a3 => some (a0, a1, a2, a3)) z173 z174 z175 z176) rec1 z91 z92 z93 z94 z95 z96 z97) (fun z118 z119 z120 z121 z122 z123 z124 z125 => f33.p3_r L N (f33 L N m) (fun z24 z25 z26 z27 z28 z29 => f33.p1_e2 L N (f33 L N m) (fun a0 a1 a2 a3 => some (a0, a1, a2, a3)) z24 z25 z26 z27 z28 z29) (fun z169 z170 z171 => f33.p1_r L N (f33 L N m) (fun a0 a1 a2 a3 => some (a0, a1, a2, a3)) z169 z170 z171) (fun z173 z174 z175 z176 => f33.p1_r1 L N (f33 L N m) (fun a0 a1 a2 a3 => some (a0, a1, a2, a3)) z173 z174 z175 z176) rec1 z118 z119 z120 z121 z122 z123 z124 z125) ms (pre ++ [q]) 0 0 x.act x.to (othersL ms t x.act) (hol x.act) (G x) (fun v hv => by
            obtain ⟨-, -, -, -, ⟨y, c, e1, e2, e3, e4⟩, -⟩ := hG x hx hu v hv
            exact ⟨y, c, e1, e2, e3, by omega⟩) L 0 (by omega) (by have := hol x.act; omega) (by rw [List.take_zero]; simp [sizeL])
          rw [List.take_zero] at h3
          have h3' := h3
          rcases h3 with ⟨e1, e2⟩ | ⟨e1, z1, z2, z3, z4, z5, e2⟩
          · rw [if_pos e1]
            refine (show _ = _ from e2).trans ?_
            unfold f33.p3_e6 f33.p3_e6'
            rw [mk_parts]
            have hFx : Fm x = Tree.mk 3 x.act [conjL ((othersL ms t x.act).map (G x))] := by rw [← hFin]
            have hnF : nodes (Fm x) = nodes (conjL ((othersL ms t x.act).map (G x))) + 1 := by rw [hFx]; simp only [nodes, nodess]; omega
            have hn62 : nodes (Fm x) ≤ 100 := by
              rcases sizeL_conj ((othersL ms t x.act).map (G x)) with e | e
              · rw [e] at hnF; simp [conjL, nodes, nodess] at hnF; omega
              · omega
            rw [← hFx]
            obtain ⟨rr, g1, g2, g3⟩ := fnodes_ok L N N (Fm x) 60 (by omega) (by omega) (by have := lim_eq; omega) (by omega) (by omega)
            rw [g1, Option.bind_some]
            have hdec : decide (rr ≤ 60) = decide (nodes (Fm x) ≤ 60) := by
              by_cases h : nodes (Fm x) ≤ 60
              · rw [dt h, g2 (by omega)]; exact dt (by omega)
              · rw [df h]; exact df (by have := g3 (by omega); omega)
            rw [hdec]
            show some ((3 : Int), x.act, [conjL ((othersL ms t x.act).map (G x))], decide (nodes (Fm x) ≤ 60)) = _
            rw [hFx]
            rfl
          · rw [if_neg (by omega)]
            exact (show _ = _ from e2).trans rfl) L 0 (by omega) (by have := (hm.2 s hs).1; omega)
      rw [List.drop_zero] at h1
      rw [getD_lt hs]
      exact h1
  
    have hspec : f28 L N (m + 1) ⟨ms⟩ (pre ++ [q]) (s : Int) (t : Int) = match (ms[s]).find? (uncB ms ((pre ++ [q]).getD r1 []) t) with
        | some x => (if nodes (conjL ((othersL ms t x.act).map (G x))) ≤ 60 then some (Fm x, true) else some (.mk 0 0 [], false))
        | none => f28.p0_e0 L N (f28 L N m) (fun a0 a1 => some (a0, a1)) (pre ++ [q]) (s : Int) (t : Int) ms 0 0 := by
      show f28.b L N (f28 L N m) (fun a0 a1 => some (a0, a1)) ⟨ms⟩ (pre ++ [q]) (s : Int) (t : Int) = _
      unfold f28.b f28.b'
      rw [(round_ok L N ms (pre ++ [q]) hrok s t hs ht (by omega)).1 _ hd, Option.bind_some]
      simp only [hwr, le0, lt_cast hr1l, Bool.and_true, cond_true, Int.toNat_natCast, atD]
      have h1 := ts0 L N (f28 L N m) hL (fun z9 z10 z11 z12 z13 z14 => f28.p0_e0 L N (f28 L N m) (fun a0 a1 => some (a0, a1)) z9 z10 z11 z12 z13 z14) (fun z73 z74 z75 z76 => f28.p0_r L N (f28 L N m) (fun a0 a1 => some (a0, a1)) z73 z74 z75 z76) ms hm (pre ++ [q]) s t hs ht ((pre ++ [q]).getD r1 []) hcls 0 0
        (fun x => if nodes (conjL ((othersL ms t x.act).map (G x))) ≤ 60 then some (Fm x, true) else some (.mk 0 0 [], false)) (fun x hx hu rec0 => by
          have h3 := ts1 L N (f28 L N m) hL hN (fun z28 z29 z30 z31 z32 z33 z34 => f28.p1_e2 L N (f28 L N m) (fun z9 z10 z11 z12 z13 z14 => f28.p0_e0 L N (f28 L N m) (fun a0 a1 => some (a0, a1)) z9 z10 z11 z12 z13 z14) (fun z73 z74 z75 z76 => f28.p0_r L N (f28 L N m) (fun a0 a1 => some (a0, a1)) z73 z74 z75 z76) rec0 z28 z29 z30 z31 z32 z33 z34) (fun z36 z37 z38 z39 z40 z41 z42 z43 z44 => f28.p1_r L N (f28 L N m) (fun z9 z10 z11 z12 z13 z14 => f28.p0_e0 L N (f28 L N m) (fun a0 a1 => some (a0, a1)) z9 z10 z11 z12 z13 z14) (fun z73 z74 z75 z76 => f28.p0_r L N (f28 L N m) (fun a0 a1 => some (a0, a1)) z73 z74 z75 z76) rec0 z36 z37 z38 z39 z40 z41 z42 z43 z44) ms hm (pre ++ [q]) t ht 0 0 x.act x.to (G x) (fun v hv => by
            obtain ⟨f1, -, -, -, -, y, c, e1, e2, e3⟩ := hG x hx hu v hv
            exact ⟨y, c, e1, fun hc' => ⟨(e2 hc').1, by have := (e2 hc').2; omega, by rw [(e2 hc').1]; exact f1⟩, e3⟩) L 0 (by omega) (by have := (hm.2 t ht).1; omega) (fun i hi => by
              obtain rfl : i = 0 := by omega
              rw [List.take_zero]; simp [conjL, nodes, nodess]) (by rw [List.take_zero]; rfl)
          rw [List.take_zero] at h3
          rcases h3 with ⟨e1, e2⟩ | ⟨e1, z1, z2, z3, z4, z5, e2⟩
          · rw [if_pos e1]
            refine (show _ = _ from e2).trans ?_
            have hFx : Fm x = Tree.mk 3 x.act [conjL ((othersL ms t x.act).map (G x))] := by rw [← hFin]
            unfold f28.p1_e2 f28.p1_e2'
            rw [mk_parts, ← hFx]
            show some (Tree.mk (Fm x).op (Fm x).n (Fm x).parts, true) = _
            rw [mk_parts]
          · rw [if_neg (by omega)]
            exact (show _ = _ from e2).trans rfl) L 0 (by omega) (by have := (hm.2 s hs).1; omega)
      rw [List.drop_zero] at h1
      exact h1
    cases hfind : (ms[s]).find? (uncB ms ((pre ++ [q]).getD r1 []) t) with
    | some x =>
      rw [hfind] at himpl hspec
      have hx := List.mem_of_find?_eq_some hfind
      have hu := List.find?_some hfind
      have hFx : Fm x = Tree.mk 3 x.act [conjL ((othersL ms t x.act).map (G x))] := by rw [← hFin]
      have hnF : nodes (Fm x) = nodes (conjL ((othersL ms t x.act).map (G x))) + 1 := by rw [hFx]; simp only [nodes, nodess]; omega
      have hap := hold_apart hm hs ht hx (G x) (fun v hv => (hG x hx hu v hv).2.2.1) (fun v hv => (hG x hx hu v hv).2.2.2.1)
      rw [← hFx] at hap
      refine ⟨Fm x, ?_, ?_, hap.1, hap.2, ?_, ?_⟩
      · rw [hFx]
        refine shape3 (hact s hs x hx) (shape_conj _ fun f hf => ?_)
        obtain ⟨v, hv, rfl⟩ := List.mem_map.1 hf
        exact (hG x hx hu v hv).1
      · rw [hFx]
        have := depth_conj (d := r1) ((othersL ms t x.act).map (G x)) fun f hf => by
          obtain ⟨v, hv, rfl⟩ := List.mem_map.1 hf
          exact (hG x hx hu v hv).2.1
        simp only [depth, depths]
        simp; omega
      · dsimp only at himpl
        rw [himpl]
        rcases sizeL_conj ((othersL ms t x.act).map (G x)) with e | e
        · have h0 : sizeL ((othersL ms t x.act).map (G x)) ≤ 62 := by rw [e]; simp [sizeL]
          have h1 : nodes (Fm x) ≤ 60 := by rw [hnF, e]; simp [conjL, nodes, nodess]
          rw [if_pos h0]
          exact ⟨Fm x, _, rfl, by rw [decide_eq_true_eq], fun _ => rfl, by omega⟩
        · by_cases h62 : sizeL ((othersL ms t x.act).map (G x)) ≤ 62
          · rw [if_pos h62]
            exact ⟨Fm x, _, rfl, by rw [decide_eq_true_eq], fun _ => rfl, by omega⟩
          · rw [if_neg h62]
            exact ⟨.mk 0 0 [], _, rfl, ⟨fun h => (by cases h), fun h => by omega⟩, fun h => (by cases h), by simp [nodes, nodess]; omega⟩
      · dsimp only at hspec
        rw [hspec]
        by_cases h60 : nodes (conjL ((othersL ms t x.act).map (G x))) ≤ 60
        · rw [if_pos h60]
          exact ⟨_, _, rfl, fun _ => ⟨rfl, by omega⟩, fun h => (by cases h)⟩
        · rw [if_neg h60]
          exact ⟨_, _, rfl, fun h => (by cases h), fun _ => by omega⟩
    | none =>
      rw [hfind] at himpl hspec
      dsimp only at himpl hspec
      have hnone : (ms[s]).any (uncB ms ((pre ++ [q]).getD r1 []) t) = false := by
        rw [List.any_eq_false]; exact fun x hx => by have := List.find?_eq_none.1 hfind x hx; exact this
      rw [getD_lt hs, hnone, if_neg (by simp)] at hmu
      have hany : (ms[t]).any (uncB ms ((pre ++ [q]).getD r1 []) s) = true := by
        rcases unc_exists hs ht hsame hnak with ⟨x, hx, hxu⟩ | ⟨x, hx, hxu⟩
        · have := List.any_eq_false.1 hnone x hx
          exact absurd hxu this
        · exact List.any_eq_true.2 ⟨x, hx, hxu⟩
      rw [getD_lt hs, hnone, if_neg (by simp)]
      obtain ⟨F, f1, f2, f3, f4, ⟨x, c, e1, e2, e3, e4⟩, y, d, g1, g2, g3⟩ := ih t s (r1 + 1) ht hs hd.symm (by rw [show r1 + 1 - 1 = r1 by omega, getD_lt ht, hany, if_pos rfl]; omega)
      rw [show r1 + 1 - 1 = r1 by omega, getD_lt ht, hany, if_pos rfl] at e4 g2
      have hnN : nodes (Tree.mk 1 0 [F]) = nodes F + 1 := by simp only [nodes, nodess]; omega
      have hnx : nodes (Tree.mk 1 0 [x]) = nodes x + 1 := by simp only [nodes, nodess]; omega
      have hny : nodes (Tree.mk 1 0 [y]) = nodes y + 1 := by simp only [nodes, nodess]; omega
      refine ⟨.mk 1 0 [F], shape1 f1, ?_, by rw [hold_not _ _ _ hs, f4]; rfl, by rw [hold_not _ _ _ ht, f3]; rfl, ?_, ?_⟩
      · simp only [depth, depths]; simp; exact f2
      · rw [himpl]
        unfold f33.p1_e2 f33.p1_e2'
        rw [e1, Option.bind_some]
        simp only [mk_parts]
        cases hcc : c with
        | true =>
          have hx := e3 hcc
          subst hx
          obtain ⟨rr, q1, q2, q3⟩ := fnodes_ok L N N (Tree.mk 1 0 [x]) 60 (by omega) (by omega) (by have := lim_eq; omega) (by omega) (by omega)
          rw [cond_true, q1, Option.bind_some]
          have hdec : decide (rr ≤ 60) = decide (nodes (Tree.mk 1 0 [x]) ≤ 60) := by
            by_cases h : nodes (Tree.mk 1 0 [x]) ≤ 60
            · rw [dt h, q2 (by omega)]; exact dt (by omega)
            · rw [df h]; exact df (by have := q3 (by omega); omega)
          rw [hdec]
          exact ⟨Tree.mk 1 0 [x], _, rfl, by rw [decide_eq_true_eq], fun _ => rfl, by omega⟩
        | false =>
          have : ¬ nodes F ≤ 60 := fun h => by rw [e2.2 h] at hcc; cases hcc
          rw [cond_false]
          exact ⟨Tree.mk 1 0 [x], _, rfl, ⟨fun h => (by cases h), fun h => by omega⟩, fun h => (by cases h), by omega⟩
      · rw [hspec]
        unfold f28.p0_e0 f28.p0_e0'
        rw [g1, Option.bind_some]
        simp only [mk_parts]
        refine ⟨_, _, rfl, fun h => ?_, fun h => by have := g3 h; omega⟩
        obtain ⟨h1, h2⟩ := g2 h
        exact ⟨by rw [h1], by omega⟩
end Go.Proofs.Ytffkhhblppfbfaa.Ev
namespace Go.Proofs.Ytffkhhblppfbfaa.Ev
open Go
set_option linter.unusedVariables false
set_option linter.unusedSimpArgs false
theorem Chain.back {ms : List (List Move)} {pre : List (List Int)} {q : List Int} (hc : Chain (Akin ms) ms.length pre q) {s t : Nat} (hs : s < ms.length) (ht : t < ms.length) (e : q.getD s 0 = q.getD t 0) : ∀ r, r < (pre ++ [q]).length → ((pre ++ [q]).getD r []).getD s 0 = ((pre ++ [q]).getD r []).getD t 0 := by
  have hlast : (pre ++ [q]).getD pre.length [] = q := by
    rw [getD_lt (by simp), List.getElem_append_right (by simp)]; simp
  have key : ∀ d, d ≤ pre.length → ((pre ++ [q]).getD (pre.length - d) []).getD s 0 = ((pre ++ [q]).getD (pre.length - d) []).getD t 0 := by
    intro d
    induction d with
    | zero => intro _; rw [Nat.sub_zero, hlast]; exact e
    | succ d ih =>
      intro hd
      have h1 := ih (by omega)
      have h2 := hc.next (pre.length - (d + 1)) (by omega)
      rw [show pre.length - (d + 1) + 1 = pre.length - d by omega] at h2
      exact (akinEq ms).fine _ _ _ ((h2.same ((akinEq ms).symm _) ((akinEq ms).trans _) hs ht).1 h1)
  intro r hr
  have hr' : r ≤ pre.length := by simp at hr; omega
  have := key (pre.length - r) (by omega)
  rw [show pre.length - (pre.length - r) = r by omega] at this
  exact this
def Told (g : Graph) (s t : Int) (F : Tree) : Prop :=
  ∃ (i j : Nat), s = (i : Int) ∧ t = (j : Int) ∧ i < g.moves.length ∧ j < g.moves.length ∧ graphOk g = true ∧ hold g.moves F i = true ∧ hold g.moves F j = false ∧
    ∀ (pre : List (List Int)) (q : List Int), f32 8589934592 20000 g = some (pre ++ [q]) → ∃ r, RD (pre ++ [q]) i j r ∧ depth F ≤ r
theorem tellsC (L N : Nat) (hL : L = 8589934592) (hN : N = 20000) (g : Graph) (s t : Int) (hg : g.moves.length + gsize g.moves ≤ 1048576) :
    ∃ F c, f9 L N g s t = some (F.op, F.n, F.parts, c) ∧ f7 L N g s t = some (F, c) ∧ nodes F ≤ 60 ∧ shape F = true ∧ (c = true → Told g s t F) := by
  have hge : Graph.mk g.moves = g := by cases g; rfl
  have h1 := gok1_ok L N g (by omega) hg
  have h2 := gok2_ok L N g (by omega) hg
  have none' : nodes (.mk 0 0 []) ≤ 60 ∧ shape (.mk 0 0 []) = true := by
    refine ⟨by simp [nodes, nodess], rfl⟩
  show ∃ F c, f9.b' L N (fun a0 a1 a2 a3 => some (a0, a1, a2, a3)) g s t = _ ∧ f7.b' L N (fun a0 a1 => some (a0, a1)) g s t = _ ∧ _
  unfold f9.b' f7.b'
  rw [hge, h1, h2]
  simp only [Option.bind_some, in_ok]
  cases hok : graphOk g with
  | false =>
    rw [Bool.not_false, cond_true, cond_true]
    exact ⟨.mk 0 0 [], false, rfl, rfl, none'.1, none'.2, fun h => by cases h⟩
  | true =>
    have hm := leads_of hok hg
    obtain ⟨hn1, hn2, hmv⟩ := graphOk_mv hok
    have hwl : wi ((g.moves.length : Int) - 1) = (g.moves.length : Int) - 1 := wi_id (by omega) (by omega)
    rw [Bool.not_true, cond_false, cond_false, hwl]
    have nos : ∀ v : Int, (v < 0 ∨ v ≥ (g.moves.length : Int)) → decide (0 ≤ v ∧ v ≤ (g.moves.length : Int) - 1) = false := fun v h => df (by omega)
    have yes : ∀ v : Int, ¬ (v < 0) → ¬ (v ≥ (g.moves.length : Int)) → decide (0 ≤ v ∧ v ≤ (g.moves.length : Int) - 1) = true := fun v h h' => dt (by omega)
    by_cases s0 : s < 0
    · rw [dt s0, cond_true, nos s (.inl s0), Bool.not_false, cond_true]
      exact ⟨.mk 0 0 [], false, rfl, rfl, none'.1, none'.2, fun h => by cases h⟩
    by_cases s1 : s ≥ (g.moves.length : Int)
    · rw [df s0, cond_false, dt s1, cond_true, nos s (.inr s1), Bool.not_false, cond_true]
      exact ⟨.mk 0 0 [], false, rfl, rfl, none'.1, none'.2, fun h => by cases h⟩
    rw [df s0, cond_false, df s1, cond_false, yes s s0 s1, Bool.not_true, cond_false]
    by_cases t0 : t < 0
    · rw [dt t0, cond_true, nos t (.inl t0), Bool.not_false, cond_true]
      exact ⟨.mk 0 0 [], false, rfl, rfl, none'.1, none'.2, fun h => by cases h⟩
    by_cases t1 : t ≥ (g.moves.length : Int)
    · rw [df t0, cond_false, dt t1, cond_true, nos t (.inr t1), Bool.not_false, cond_true]
      exact ⟨.mk 0 0 [], false, rfl, rfl, none'.1, none'.2, fun h => by cases h⟩
    rw [df t0, cond_false, df t1, cond_false, yes t t0 t1, Bool.not_true, cond_false]
    obtain ⟨i, rfl⟩ := Int.eq_ofNat_of_zero_le (show (0 : Int) ≤ s by omega)
    obtain ⟨j, rfl⟩ := Int.eq_ofNat_of_zero_le (show (0 : Int) ≤ t by omega)
    have hi : i < g.moves.length := by omega
    have hj : j < g.moves.length := by omega
    obtain ⟨pre, q, c1, c2, c3, c4⟩ := chainI L N g.moves hm (by omega)
    have c5 := chainS L N g.moves hm (by omega) c1
    have hql := c4.1
    unfold f9.j0' f7.j0'
    rw [c1, c5]
    simp only [Option.bind_some]
    have hrok : RoundsOk g.moves (pre ++ [q]) := ⟨by simp; omega, fun r h => c3.lens _ (List.getElem_mem h)⟩
    have hlen : (pre ++ [q]).length = pre.length + 1 := by simp
    have hwp : wi (((pre ++ [q]).length : Int) - 1) = (pre.length : Int) := by rw [wi_id (by omega) (by omega)]; omega
    have hpl : pre.length < (pre ++ [q]).length := by omega
    have hlast : (pre ++ [q]).getD pre.length [] = q := by
      rw [getD_lt hpl, List.getElem_append_right (by simp)]; simp
    have hiq : i < q.length := by omega
    have hjq : j < q.length := by omega
    have hro := round_ok L N g.moves (pre ++ [q]) hrok i j hi hj (by omega)
    simp only [hwp, le0, lt_cast hpl, Bool.and_true, cond_true, Int.toNat_natCast, atD, hlast, lt_cast hiq, lt_cast hjq]
    by_cases e : q.getD i 0 = q.getD j 0
    · have hb : (q.getD i 0 == q.getD j 0) = true := beq_iff_eq.2 e
      rw [hb, cond_true, hro.2 (c3.back hi hj e)]
      simp only [Option.bind_some]
      exact ⟨.mk 0 0 [], false, rfl, rfl, none'.1, none'.2, fun h => by cases h⟩
    · have hb : (q.getD i 0 == q.getD j 0) = false := beq_eq_false_iff_ne.2 e
      obtain ⟨r, hr, hd⟩ := RD.exists (s := i) (t := j) pre.length hpl (by rw [hlast]; exact e)
      obtain ⟨F, f1, f2, f3, f4, ⟨x, c, x1, x2, x3, x4⟩, y, d, y1, y2, y3⟩ := tells_both L N (by omega) (by omega) g.moves hm (fun i hi m hm' => by
        obtain ⟨k, hk, rfl⟩ := List.mem_iff_getElem.1 hm'
        have := hmv i hi k hk; exact ⟨this.1, this.2.1⟩) pre q c3 c2 N i j r hi hj hd (by split <;> omega)
      rw [hb, cond_false, hro.1 r hd, x1]
      have hrn : decide ((r : Int) < 0) = false := df (by omega)
      simp only [Option.bind_some, hrn, cond_false, y1, mk_parts]
      have hlim := lim_eq
      cases hc : c with
      | true =>
        have hF := x2.1 hc
        have hx := x3 hc
        subst hx
        have hdt : d = true := by
          cases hdd : d with
          | true => rfl
          | false => have := y3 hdd; omega
        obtain ⟨hy, -⟩ := y2 hdt
        subst hy
        rw [hdt, Bool.not_true, cond_false, cond_false, formOk2_ok L N y (by omega) (by omega) (shape_tok _ _ (Nat.le_refl _) f1), f1, dt hF]
        refine ⟨y, true, rfl, ?_, hF, f1, fun _ => ⟨i, j, rfl, rfl, hi, hj, hok, f3, f4, fun pre' q' h' => ?_⟩⟩
        · rfl
        · subst hL; subst hN
          have hp : pre ++ [q] = pre' ++ [q'] := by
            have h2 : some (pre ++ [q]) = some (pre' ++ [q']) := by rw [← c1, hge]; exact h'
            exact Option.some.inj h2
          rw [← hp]
          exact ⟨r, hd, f2⟩
      | false =>
        have hF : ¬ nodes F ≤ 60 := fun h => by rw [x2.2 h] at hc; cases hc
        rw [Bool.not_false, cond_true]
        refine ⟨.mk 0 0 [], false, rfl, ?_, none'.1, none'.2, fun h => by cases h⟩
        cases hdd : d with
        | false => rw [Bool.not_false, cond_true]
        | true =>
          obtain ⟨hy, hy2⟩ := y2 hdd
          subst hy
          rw [Bool.not_true, cond_false, formOk2_ok L N y (by split at hy2 <;> omega) (by split at hy2 <;> omega) (shape_tok _ _ (Nat.le_refl _) f1), df hF]
          rfl
end Go.Proofs.Ytffkhhblppfbfaa.Ev
namespace Go.Proofs.Ytffkhhblppfbfaa.Ev
open Go
set_option linter.unusedVariables false
set_option linter.unusedSimpArgs false
inductive MF : Int → List Tree → Int → Prop
  | nil (k : Int) : MF k [] k
  | cons (k j l : Int) (ps r : List Tree) (h1 : MF (k + 2) ps j) (h2 : MF j r l) : MF k (.mk k (k + 1) ps :: r) l
theorem MF.le {k j : Int} {ys : List Tree} (h : MF k ys j) : k ≤ j := by
  induction h with
  | nil k => exact Int.le_refl _
  | cons k j l ps r h1 h2 i1 i2 => omega
theorem MF.app {k s l : Int} {a b : List Tree} (h : MF k a s) (h' : MF s b l) : MF k (a ++ b) l := by
  induction h with
  | nil k => exact h'
  | cons k j l' ps r h1 h2 i1 i2 => exact .cons k j l ps (r ++ b) h1 (i2 h')
theorem nodess_app : ∀ a b : List Tree, nodess (a ++ b) = nodess a + nodess b
  | [], b => by simp [nodess]
  | t :: a, b => by rw [List.cons_append, nodess, nodess, nodess_app a b]; omega
theorem takeF_set {α : Type} {ys : List α} {i : Nat} (h : i < ys.length) (x : α) : (ys.set i x).take (i + 1) = ys.take i ++ [x] := by
  have hl : i < (ys.set i x).length := by simpa using h
  rw [List.take_succ_eq_append_getElem hl, List.getElem_set_self, List.take_set_of_le (Nat.le_refl _)]
theorem markForms2_ok (L N : Nat) : ∀ (m : Nat) (ps : List Tree) (k : Int), nodess ps < m → nodess ps < L → nodess ps ≤ 1048576 → 0 ≤ k → k + 2 * (nodess ps : Int) ≤ 4611686018427387904 →
    ∃ ys, f37 L N m ps k = some (k + 2 * (nodess ps : Int), ys) ∧ MF k ys (k + 2 * (nodess ps : Int)) ∧ nodess ys = nodess ps := by
  intro m
  induction m with
  | zero => intro ps k h; omega
  | succ m ih =>
    intro ps k h hL hl h0 hk
    have hll := nodess_len ps
    show ∃ ys, f37.b L N (f37 L N m) ps.length _ ps k = _ ∧ _
    unfold f37.b f37.b'
    have key : ∀ (n i : Nat) (s : Int) (ys : List Tree), ys.length = ps.length → i ≤ ps.length → ps.length - i < n → ys.drop i = ps.drop i → 0 ≤ s → s + 2 * (nodess (ps.drop i) : Int) = k + 2 * (nodess ps : Int) → MF k (ys.take i) s → nodess (ys.take i) + nodess (ps.drop i) = nodess ps →
        ∃ zs, f37.l0 L N (f37 L N m) ps.length (fun z3 z4 => f37.p0_e0 L N (f37 L N m) ps.length (fun a0 a1 => some (a0, a1)) z3 z4) n s (i : Int) ys = some (k + 2 * (nodess ps : Int), zs) ∧ MF k zs (k + 2 * (nodess ps : Int)) ∧ nodess zs = nodess ps := by
      intro n
      induction n with
      | zero => intro i s ys _ _ h; omega
      | succ n ihn =>
        intro i s ys hy hi hin hd hs0 hsum hmf hnn
        show ∃ zs, f37.s0 L N _ ps.length _ (f37.l0 L N _ ps.length _ n) s (i : Int) ys = _ ∧ _
        unfold f37.s0 f37.s0'
        by_cases hlt : i < ys.length
        · have hlp : i < ps.length := by omega
          have hyi : ys[i] = ps[i] := by
            have := congrArg (fun l => l[0]?) hd
            simp only [List.getElem?_drop, Nat.add_zero, List.getElem?_eq_getElem hlt, List.getElem?_eq_getElem hlp] at this
            exact Option.some.inj this
          have hnd := nodess_drop hlp
          have hng := nodes_get hlp
          have hdl := nodess_drop_le ps (i + 1)
          have hnp : nodes ps[i] = 1 + nodess ps[i].parts := by cases ps[i]; rfl
          obtain ⟨zs, hz, hz2, hz3⟩ := ih ps[i].parts (s + 2) (by omega) (by omega) (by omega) (by omega) (by omega)
          have hw1 : wi (s + 1) = s + 1 := by rw [wi_id (by omega) (by omega)]
          have hw : wi (s + 1 + 1) = s + 2 := by rw [wi_id (by omega) (by omega)]; omega
          simp only [lt_cast hlt, le0, cond_true, Bool.and_true, Int.toNat_natCast, List.length_set, atD, getD_set_self hlt, getD_set_self (show i < (ys.set i _).length by simpa using hlt), set_set_same, getD_lt hlt, hyi, tr_op, tr_n, tr_parts, hw1, hw]
          rw [show f37 L N m ps[i].parts (s + 2) = _ from hz]
          simp only [Option.bind_some]
          rw [wi_nat (by omega)]
          refine ihn (i + 1) _ (ys.set i (.mk s (s + 1) zs)) (by simp [hy]) (by omega) (by omega) ?_ (by omega) (by omega) ?_ ?_
          · rw [List.drop_set_of_lt (by omega)]
            have := congrArg (fun l => l.drop 1) hd
            simpa [List.drop_drop] using this
          · rw [takeF_set hlt]
            exact hmf.app (.cons _ _ _ zs [] hz2 (.nil _))
          · rw [takeF_set hlt, nodess_app]
            simp only [nodess, nodes]
            omega
        · simp only [ge_cast hlt, cond_false]
          have hi' : i = ps.length := by omega
          subst hi'
          unfold f37.p0_e0 f37.p0_e0'
          rw [hy, Nat.beq_refl, cond_true]
          rw [List.drop_length] at hsum hnn
          have h00 : nodess ([] : List Tree) = 0 := rfl
          rw [h00] at hsum hnn
          have hs : s = k + 2 * (nodess ps : Int) := by omega
          rw [List.take_of_length_le (by omega)] at hmf hnn
          subst hs
          exact ⟨ys, rfl, hmf, by omega⟩
    exact key L 0 k ps rfl (by omega) (by omega) rfl h0 (by rw [List.drop_zero]) (by rw [List.take_zero]; exact .nil k) (by rw [List.take_zero, List.drop_zero]; simp [nodess])
theorem heldForms_ok (L N : Nat) : ∀ (m : Nat) (ys : List Tree) (k j : Int), nodess ys < m → nodess ys < L → nodess ys ≤ 1048576 → 0 ≤ k → j ≤ 4611686018427387904 → MF k ys j → f38 L N m ys k = some j := by
  intro m
  induction m with
  | zero => intro ys k j h; omega
  | succ m ih =>
    intro ys k j h hL hl h0 hj hmf
    have hll := nodess_len ys
    show f38.b L N (f38 L N m) some ys k = _
    unfold f38.b f38.b'
    have key : ∀ (n i : Nat) (s : Int), i ≤ ys.length → ys.length - i < n → 0 ≤ s → MF s (ys.drop i) j →
        f38.l0 L N (f38 L N m) (fun z3 => f38.p0_e0 L N (f38 L N m) some z3) (fun z4 z5 => f38.p0_r L N (f38 L N m) some z4 z5) n ys s (i : Int) = some j := by
      intro n
      induction n with
      | zero => intro i s _ h; omega
      | succ n ihn =>
        intro i s hi hin hs0 hm
        show f38.s0 L N _ _ _ (f38.l0 L N _ _ _ n) ys s (i : Int) = _
        unfold f38.s0 f38.s0'
        by_cases hlt : i < ys.length
        · have hnd := nodess_drop hlt
          have hng := nodes_get hlt
          have hnp : nodes ys[i] = 1 + nodess ys[i].parts := by cases ys[i]; rfl
          rw [List.drop_eq_getElem_cons hlt] at hm
          generalize hy : ys[i] = y at hm
          generalize hr : ys.drop (i + 1) = r at hm
          cases hm with
          | cons _ j' _ ps _ h1 h2 =>
            have le1 := h1.le
            have le2 := h2.le
            rw [hy] at hnp hng
            have hw1 : wi (s + 1) = s + 1 := by rw [wi_id (by omega) (by omega)]
            have hw : wi (s + 1 + 1) = s + 2 := by rw [wi_id (by omega) (by omega)]; omega
            have hp : nodess (Tree.mk s (s + 1) ps).parts = nodess ps := rfl
            have hin2 := ih ps (s + 2) j' (by omega) (by omega) (by omega) (by omega) (by omega) h1
            simp only [lt_cast hlt, le0, cond_true, Bool.and_true, Int.toNat_natCast, at_lt hlt, hy, tr_op, tr_n, tr_parts, hw1, hw, bne_self_eq_false, cond_false, hin2, Option.bind_some]
            rw [df (show ¬ j' < 0 by omega), cond_false, wi_nat (by omega)]
            exact ihn (i + 1) j' (by omega) (by omega) (by omega) (by rw [hr]; exact h2)
        · rw [ge_cast hlt, cond_false]
          rw [List.drop_eq_nil_of_le (by omega)] at hm
          cases hm with
          | nil => rfl
    exact key L 0 k (by omega) (by omega) h0 (by rw [List.drop_zero]; exact hmf)
end Go.Proofs.Ytffkhhblppfbfaa.Ev
namespace Go.Proofs.Ytffkhhblppfbfaa.Ev
open Go
set_option linter.unusedVariables false
set_option linter.unusedSimpArgs false
theorem exactFormTells (g : Graph) (hg : DatOk (.st 2) g) (s : Int) (_ : DatOk i64 s) (t : Int) (_ : DatOk i64 t) : ∃ L N, f3 L N g s t = some true := by
  have hge : ∀ g : Graph, Graph.mk g.moves = g := fun g => by cases g; rfl
  generalize hLL : 8589934592 = L
  generalize hNN : 20000 = N
  refine ⟨L, N, ?_⟩
  have hlim := lim_eq
  show f3.b L N some g s t = _
  unfold f3.b f3.b'
  rw [hge]
  obtain ⟨r, hr, hc⟩ := szGraph_ok L N g hg (by omega)
  rw [hr]
  simp only [Option.bind_some]
  by_cases hn : r < 0
  · rw [dt hn, cond_true]
  · rw [df hn, cond_false]
    have hsz : g.moves.length + gsize g.moves ≤ 1048576 := by omega
    obtain ⟨F, c, e1, e2, hF, hsh, -⟩ := tellsC L N hLL.symm hNN.symm g s t hsz
    have hnF : nodes F = 1 + nodess F.parts := by cases F; rfl
    have heq := (eq_ok L N N).1 F (by omega) (by omega) (by omega)
    obtain ⟨j, ys, m1, m2, m3, m4, m5, m6⟩ := markMoveSS_eq L N g.moves 1 (by omega) (fun r hr => by have := gsize_row r hr; omega) (by omega) (by omega) (by omega)
    obtain ⟨zs, n1, n2, n3⟩ := markForms2_ok L N N F.parts 1 (by omega) (by omega) (by omega) (by omega) (by omega)
    have hh := heldForms_ok L N N zs 1 _ (by omega) (by omega) (by omega) (by omega) (by omega) n2
    have hheld : ∀ o n : Int, f14 L N (.mk o n zs) 1 = some (1 + 2 * (nodess F.parts : Int)) := fun o n => by
      show f14.b L N some (.mk o n zs) 1 = _
      unfold f14.b f14.b'
      rw [show (Tree.mk o n zs).parts = zs from rfl, hh, Option.bind_some, df (show ¬ (1 : Int) + 2 * (nodess F.parts : Int) < 0 by omega), cond_false]
    have hpos : decide ((1 : Int) + 2 * (nodess F.parts : Int) < 0) = false := df (by omega)
    have htg := toGraph_ok L N g (by omega) hsz
    have heg := eqGraph_ok L N g (by omega) hsz
    simp only [htg, hge, e1, e2, Option.bind_some, mk_parts, heq, Bool.not_true, cond_false, beq_self_eq_true]
    unfold f3.j2'
    simp only [htg, hge, heg, e1, e2, Option.bind_some, mk_parts, heq, Bool.not_true, cond_false, beq_self_eq_true, m1]
    rw [df (show ¬ j < 0 by omega)]
    simp only [cond_false]
    unfold f3.j1'
    simp only [n1, hheld, htg, hge, e1, e2, Option.bind_some, mk_parts, heq, Bool.not_true, cond_false, beq_self_eq_true, bne_self_eq_false, hpos]
    unfold f3.j0'
    simp only [hheld, Option.bind_some, bne_self_eq_false, cond_false, hpos]
end Go.Proofs.Ytffkhhblppfbfaa.Ev
