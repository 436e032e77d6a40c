/- Plain laws, in one text. -/
import Derived.Test.YtdfjdbpklbehoaaG8b
import Derived.Test.YtdfjdbpklbehoaaEvZ
import Derived.Test.YtdfjdbpklbehoaaEvSort
/-! Plain laws of graphs: sizes, copies, likeness, which are graphs. No conditions but those that each states. -/
namespace Go.Proofs.Ytdfjdbpklbehoaa.Ev
open Go
set_option linter.unusedVariables false
set_option linter.unusedSimpArgs false

theorem act1_ok (L N : Nat) (n : Int) : f72 L N n = some (decide (-4 ≤ n ∧ n ≤ 4)) := by
  show f72.b L N some n = _
  unfold f72.b f72.b'
  by_cases h : n ≥ -4
  · rw [dt h, cond_true]; congr 1; by_cases h2 : n ≤ 4
    · rw [dt h2, dt (by omega)]
    · rw [df h2, df (by omega)]
  · rw [df h, cond_false, df (by omega)]
theorem in_ok (L N : Nat) (n a b : Int) : f96 L N n a b = some (decide (a ≤ n ∧ n ≤ b)) := by
  show f96.b L N some n a b = _
  unfold f96.b f96.b'
  by_cases h : n ≥ a
  · rw [dt h, cond_true]; congr 1; by_cases h2 : n ≤ b
    · rw [dt h2, dt (by omega)]
    · rw [df h2, df (by omega)]
  · rw [df h, cond_false, df (by omega)]
theorem act2_ok (L N : Nat) (n : Int) : f97 L N n = some (decide (-4 ≤ n ∧ n ≤ 4)) := by
  show f97.b L N some n = _
  unfold f97.b f97.b'
  rw [in_ok]; rfl

/-! ### Sizes -/
/-- what a graph takes of a budget -/
def gsize (ms : List (List Move)) : Nat := (ms.map List.length).sum
theorem szMoveS_ok (L N : Nat) (x : List Move) (left : Int) (hx : x.length ≤ maxLen) (h0 : 0 ≤ left) (h1 : left ≤ 1048576) : f95 L N x left = some (if (x.length : Int) ≤ left then left - x.length else -1) := by
  show f95.b L N some x left = _
  unfold f95.b f95.b'
  have hm := maxLen_eq
  rw [wi_id (by omega) (by omega)]
  by_cases h : (x.length : Int) ≤ left
  · rw [df (by omega), cond_false, if_pos h]
  · rw [dt (by omega), cond_true, if_neg h]
theorem szMoveSS_ok (L N : Nat) (x : List (List Move)) (left : Int) (hx : x.length ≤ maxLen) (hr : ∀ r ∈ x, r.length ≤ maxLen) (hL : 1048576 < L) (h0 : 0 ≤ left) (h1 : left ≤ 1048576) :
    f56 L N x left = some (if ((x.length + gsize x : Nat) : Int) ≤ left then left - (x.length + gsize x : Nat) else -1) := by
  have hm := maxLen_eq
  show f56.b L N some x left = _
  unfold f56.b f56.b'
  rw [wi_id (by omega) (by omega)]
  by_cases h : left - (x.length : Int) < 0
  · rw [dt h, cond_true, if_neg (by omega)]
  · rw [df h, cond_false]
    have key : ∀ (n i : Nat) (l : Int), x.length - i < n → i ≤ x.length → 0 ≤ l → l ≤ 1048576 →
        f56.l0 L N (fun z3 => f56.p0_e0 L N some z3) (fun z5 z6 => f56.p0_r L N some z5 z6) n x l (i : Int) = some (if ((gsize (x.drop i) : Nat) : Int) ≤ l then l - (gsize (x.drop i) : Nat) else -1) := by
      intro n
      induction n with
      | zero => intro i l h; omega
      | succ n ih =>
        intro i l h2 hi l0 l1
        show f56.s0 L N _ _ (f56.l0 L N _ _ n) x l i = _
        unfold f56.s0 f56.s0'
        by_cases hlt : i < x.length
        · simp only [lt_cast hlt, le0, cond_true, Bool.and_true, Int.toNat_natCast, at_lt hlt]
          rw [szMoveS_ok L N x[i] l (hr _ (List.getElem_mem hlt)) l0 l1]
          have hd : gsize (x.drop i) = x[i].length + gsize (x.drop (i + 1)) := by
            rw [List.drop_eq_getElem_cons hlt]; simp only [gsize, List.map_cons, List.sum_cons]
          simp only [Option.bind_some]
          by_cases hc : (x[i].length : Int) ≤ l
          · rw [if_pos hc, df (by omega), cond_false, wi_nat (by omega), ih (i + 1) _ (by omega) (by omega) (by omega) (by omega), hd]
            congr 1
            split <;> split <;> omega
          · rw [if_neg hc, dt (by omega), cond_true, if_neg (by omega)]
            rfl
        · simp only [ge_cast hlt, cond_false]
          have hi' : i = x.length := by omega
          subst hi'
          rw [List.drop_length]
          have : ((gsize ([] : List (List Move)) : Nat) : Int) = 0 := rfl
          rw [this, if_pos l0, Int.sub_zero]
          rfl
    refine (key L 0 _ (by omega) (by omega) (by omega) (by omega)).trans ?_
    rw [List.drop_zero]
    congr 1
    split <;> split <;> omega
theorem szGraph_ok (L N : Nat) (g : Graph) (hg : DatOk (.st 2) g) (hL : 1048576 < L) :
    ∃ r : Int, f15 L N g 1048576 = some r ∧ (r < 0 ∨ (g.moves.length + gsize g.moves ≤ 1048576 ∧ 0 ≤ r ∧ r ≤ 1048576)) := by
  obtain ⟨h1, h2⟩ := graph_ok hg
  show ∃ r, f15.b L N some g 1048576 = some r ∧ _
  unfold f15.b f15.b'
  rw [szMoveSS_ok L N g.moves 1048576 h1 (fun r hr => (h2 r hr).1) hL (by omega) (by omega)]
  simp only [Option.bind_some]
  by_cases hc : ((g.moves.length + gsize g.moves : Nat) : Int) ≤ 1048576
  · rw [if_pos hc, df (by omega), cond_false]
    exact ⟨_, rfl, .inr (by omega)⟩
  · rw [if_neg hc, dt (by omega), cond_true]
    exact ⟨_, rfl, .inl (by omega)⟩
theorem gsize_row {ms : List (List Move)} : ∀ r ∈ ms, r.length ≤ gsize ms := by
  intro r hr
  unfold gsize
  induction ms with
  | nil => cases hr
  | cons a ms ih =>
    rw [List.map_cons, List.sum_cons]
    rcases List.mem_cons.1 hr with rfl | hr
    · omega
    · have := ih hr; omega

/-! ### Copies -/
theorem toMove_ok (L N : Nat) (m : Move) : f128 L N m = some m := rfl
theorem toMoveS_ok (L N : Nat) (x : List Move) (hL : x.length < L) (hl : x.length ≤ lim) : f100 L N x = some x := by
  have hm := lim_eq
  show f100.b L N some x = _
  unfold f100.b f100.b'
  refine (bif_t2 (by omega) (by omega)).trans ?_
  refine copy_loop (l := fun n i ys => f100.l0 L N (fun z3 => f100.p0_e0 L N some z3) n x i ys) (fun n i hi ys hy => ?_) (fun n ys => ?_) L 0 _ (by omega) (by omega) (by simp) (by simp)
  · show f100.s0 L N _ (f100.l0 L N _ n) x i ys = _
    unfold f100.s0 f100.s0'
    simp only [lt_cast hi, le0, cond_true, Bool.and_true, Int.toNat_natCast, at_lt hi, toMove_ok, Option.bind_some, lt_cast (show i < ys.length by omega), wi_nat (show i < 9223372036854775807 by omega)]
  · show f100.s0 L N _ (f100.l0 L N _ n) x x.length ys = _
    unfold f100.s0 f100.s0'
    simp only [ge_cast (Nat.lt_irrefl _), cond_false]
    rfl
theorem toMoveSS_ok (L N : Nat) (x : List (List Move)) (hL : x.length < L) (hl : x.length ≤ lim) (hr : ∀ r ∈ x, r.length < L ∧ r.length ≤ lim) : f61 L N x = some x := by
  have hm := lim_eq
  show f61.b L N some x = _
  unfold f61.b f61.b'
  refine (bif_t2 (by omega) (by omega)).trans ?_
  refine copy_loop (l := fun n i ys => f61.l0 L N (fun z3 => f61.p0_e0 L N some z3) n x i ys) (fun n i hi ys hy => ?_) (fun n ys => ?_) L 0 _ (by omega) (by omega) (by simp) (by simp)
  · show f61.s0 L N _ (f61.l0 L N _ n) x i ys = _
    unfold f61.s0 f61.s0'
    have h1 := hr _ (List.getElem_mem hi)
    simp only [lt_cast hi, le0, cond_true, Bool.and_true, Int.toNat_natCast, at_lt hi, toMoveS_ok L N x[i] h1.1 h1.2, Option.bind_some, lt_cast (show i < ys.length by omega), wi_nat (show i < 9223372036854775807 by omega)]
  · show f61.s0 L N _ (f61.l0 L N _ n) x x.length ys = _
    unfold f61.s0 f61.s0'
    simp only [ge_cast (Nat.lt_irrefl _), cond_false]
    rfl
theorem toGraph_ok (L N : Nat) (g : Graph) (hL : 1048576 < L) (hs : g.moves.length + gsize g.moves ≤ 1048576) : f18 L N g = some g.moves := by
  have hm := lim_eq
  show f18.b L N some g = _
  unfold f18.b f18.b'
  rw [toMoveSS_ok L N g.moves (by omega) (by omega) (fun r hr => by have := gsize_row r hr; omega)]
  rfl

/-! ### Likeness -/
theorem eqMove_ok (L N : Nat) (m : Move) : f129 L N m m = some true := by
  show f129.b L N some m m = _
  unfold f129.b f129.b'
  simp only [bne_self_eq_false, cond_false]
theorem allN_true (k i : Nat) : allN (fun _ => true) k i = true := by
  induction k generalizing i with
  | zero => rfl
  | succ k ih => exact ih (i + 1)
theorem eqMoveS_ok (L N : Nat) (x : List Move) (hL : x.length < L) (hl : x.length ≤ lim) : f101 L N x x = some true := by
  have hm := lim_eq
  show f101.b L N some x x = _
  unfold f101.b f101.b'
  simp only [bne_self_eq_false, cond_false]
  refine (all_loop (l := fun n i => f101.l0 L N (f101.p0_e0 L N some) (fun z4 => f101.p0_r L N some z4) n x x i) (len := x.length) (q := fun _ => true) (rt := some true) (rf := some false) (fun n i hi => ?_) (fun n => ?_) L 0 (by omega) (by omega)).trans (by rw [allN_true]; rfl)
  · show f101.s0 L N _ _ (f101.l0 L N _ _ n) x x i = _
    unfold f101.s0 f101.s0'
    simp only [lt_cast hi, le0, cond_true, Bool.and_true, Int.toNat_natCast, at_lt hi, eqMove_ok, Option.bind_some, Bool.not_true, cond_false, wi_nat (show i < 9223372036854775807 by omega)]
  · show f101.s0 L N _ _ (f101.l0 L N _ _ n) x x x.length = _
    unfold f101.s0 f101.s0'
    simp only [ge_cast (Nat.lt_irrefl _), cond_false]
    rfl
theorem eqGraph_ok (L N : Nat) (g : Graph) (hL : 1048576 < L) (hs : g.moves.length + gsize g.moves ≤ 1048576) : f22 L N g g = some true := by
  have hm := lim_eq
  have key : f64 L N g.moves g.moves = some true := by
    generalize hx : g.moves = x
    rw [hx] at hs
    show f64.b L N some x x = _
    unfold f64.b f64.b'
    simp only [bne_self_eq_false, cond_false]
    refine (all_loop (l := fun n i => f64.l0 L N (f64.p0_e0 L N some) (fun z4 => f64.p0_r L N some z4) n x x i) (len := x.length) (q := fun _ => true) (rt := some true) (rf := some false) (fun n i hi => ?_) (fun n => ?_) L 0 (by omega) (by omega)).trans (by rw [allN_true]; rfl)
    · show f64.s0 L N _ _ (f64.l0 L N _ _ n) x x i = _
      unfold f64.s0 f64.s0'
      have := gsize_row _ (List.getElem_mem hi)
      simp only [lt_cast hi, le0, cond_true, Bool.and_true, Int.toNat_natCast, at_lt hi, eqMoveS_ok L N x[i] (by omega) (by omega), Option.bind_some, Bool.not_true, cond_false, wi_nat (show i < 9223372036854775807 by omega)]
    · show f64.s0 L N _ _ (f64.l0 L N _ _ n) x x x.length = _
      unfold f64.s0 f64.s0'
      simp only [ge_cast (Nat.lt_irrefl _), cond_false]
      rfl
  show f22.b L N some g g = _
  unfold f22.b f22.b'
  rw [key]; rfl

/-! ### Which are graphs -/
def lessM (a b : Move) : Bool := decide (a.act < b.act ∨ (a.act = b.act ∧ a.to < b.to))
def mvOk (n : Nat) (m : Move) : Bool := decide (-4 ≤ m.act ∧ m.act ≤ 4) && decide (0 ≤ m.to ∧ m.to < (n : Int))
/-- the move at a place is one, and stands behind the one ahead -/
def atOk (n : Nat) (r : List Move) (k : Nat) : Bool := mvOk n (r.getD k ⟨0, 0⟩) && (decide (k = 0) || lessM (r.getD (k - 1) ⟨0, 0⟩) (r.getD k ⟨0, 0⟩))
def rowOk (n : Nat) (r : List Move) : Bool := allN (atOk n r) r.length 0
def graphOk (g : Graph) : Bool := decide (1 ≤ g.moves.length ∧ g.moves.length ≤ 60) && allN (fun i => rowOk g.moves.length (g.moves.getD i [])) g.moves.length 0
theorem atD {α : Type} (x : List α) (d : α) (i : Nat) : listAt x d i = x.getD i d := rfl
theorem less2_ok (L N : Nat) (a b : Move) : f98 L N a b = some (lessM a b) := by
  show f98.b L N some a b = _
  unfold f98.b f98.b' lessM
  by_cases h : a.act < b.act
  · rw [dt h, cond_true, dt (by omega)]
  · rw [df h, cond_false]
    by_cases h2 : a.act = b.act
    · have : (a.act == b.act) = true := by simpa using h2
      rw [this, cond_true]
      by_cases h3 : a.to < b.to
      · rw [dt h3, dt (by omega)]
      · rw [df h3, df (by omega)]
    · have : (a.act == b.act) = false := by simpa using h2
      rw [this, cond_false, df (by omega)]
theorem cmp_ok (L N : Nat) (a b : Int) : f108 L N a b = some (if a < b then -1 else if a > b then 1 else 0) := by
  show f108.b L N some a b = _
  unfold f108.b f108.b'
  have h0 : ∀ a, f136 L N a = some false := fun a => by
    show f136.b L N some a = _
    unfold f136.b f136.b'
    simp
  simp only [h0, Option.bind_some, cond_false]
  by_cases h : a < b
  · rw [dt h, cond_true, if_pos h]
  · rw [df h, cond_false, if_neg h]
    by_cases h2 : a > b
    · rw [dt h2, cond_true, if_pos h2]
    · rw [df h2, cond_false, if_neg h2]
theorem byMove_ok (L N : Nat) (a b : Move) : ∃ r : Int, f73 L N a b = some r ∧ decide (r ≥ 0) = !lessM a b := by
  show ∃ r, f73.b L N some a b = some r ∧ _
  unfold f73.b f73.b' lessM
  simp only [cmp_ok, Option.bind_some]
  by_cases h : a.act < b.act
  · rw [if_pos h]
    exact ⟨-1, rfl, by rw [dt (show a.act < b.act ∨ _ from .inl h)]; rfl⟩
  · rw [if_neg h]
    by_cases h2 : a.act > b.act
    · rw [if_pos h2]
      exact ⟨1, rfl, by rw [df (show ¬ (a.act < b.act ∨ a.act = b.act ∧ a.to < b.to) by omega)]; rfl⟩
    · rw [if_neg h2]
      refine ⟨_, rfl, ?_⟩
      by_cases h3 : a.to < b.to
      · rw [if_pos h3, dt (show a.act < b.act ∨ a.act = b.act ∧ a.to < b.to by omega)]; rfl
      · rw [if_neg h3, df (show ¬ (a.act < b.act ∨ a.act = b.act ∧ a.to < b.to) by omega)]
        by_cases h4 : a.to > b.to
        · rw [if_pos h4]; rfl
        · rw [if_neg h4]; rfl
end Go.Proofs.Ytdfjdbpklbehoaa.Ev

/-! Plain laws of graphs: the program's and the reference's GraphOk say the same. No conditions but those that each states. -/
namespace Go.Proofs.Ytdfjdbpklbehoaa.Ev
open Go
set_option linter.unusedVariables false
set_option linter.unusedSimpArgs false

theorem getD_lt {α : Type} {x : List α} {d : α} {i : Nat} (h : i < x.length) : x.getD i d = x[i] := by
  rw [List.getD_eq_getElem?_getD, List.getElem?_eq_getElem h]; rfl
theorem pred_cast {k : Nat} (h : 0 < k) (h2 : k < 9223372036854775807) : wi ((k : Int) - 1) = ((k - 1 : Nat) : Int) := by
  rw [wi_id (by omega) (by omega)]; omega
theorem mv_eta (m : Move) : Move.mk m.act m.to = m := by cases m; rfl
theorem gok2_ok (L N : Nat) (g : Graph) (hL : 1048576 < L) (hs : g.moves.length + gsize g.moves ≤ 1048576) : f58 L N g = some (graphOk g) := by
  show f58.b L N some g = _
  unfold f58.b f58.b' graphOk
  generalize hms : g.moves = ms
  rw [hms] at hs
  rw [in_ok]
  simp only [Option.bind_some]
  by_cases hr : 1 ≤ (ms.length : Int) ∧ (ms.length : Int) ≤ 60
  · rw [dt hr, dt (show 1 ≤ ms.length ∧ ms.length ≤ 60 by omega)]
    simp only [Bool.not_true, cond_false, Bool.true_and]
    refine (all_loop (l := fun n i => f58.l0 L N (f58.p0_e0 L N some) (fun z => f58.p0_r L N some z) n i ms) (len := ms.length) (q := fun i => rowOk ms.length (ms.getD i [])) (rt := some true) (rf := some false) (fun n i hi => ?_) (fun n => ?_) L 0 (by omega) (by omega)).trans ?_
    · show f58.s0 L N _ _ (f58.l0 L N _ _ n) i ms = _
      unfold f58.s0 f58.s0'
      simp only [lt_cast hi, cond_true, getD_lt hi]
      have hrow := gsize_row _ (List.getElem_mem hi)
      refine (all_loop (l := fun n k => f58.l1 L N (fun z6 z7 => f58.p1_e2 L N (f58.p0_e0 L N some) (fun z => f58.p0_r L N some z) (f58.l0 L N (f58.p0_e0 L N some) (fun z => f58.p0_r L N some z) _) z6 z7) (fun z15 z16 z17 => f58.p1_r L N (f58.p0_e0 L N some) (fun z => f58.p0_r L N some z) (f58.l0 L N (f58.p0_e0 L N some) (fun z => f58.p0_r L N some z) _) z15 z16 z17) n i k ms) (len := (ms[i]).length) (q := atOk ms.length ms[i]) (rt := f58.l0 L N (f58.p0_e0 L N some) (fun z => f58.p0_r L N some z) n ((i + 1 : Nat) : Int) ms) (rf := some false) (fun n' k hk => ?_) (fun n' => ?_) L 0 (by omega) (by omega)).trans (by rw [Nat.sub_zero]; rfl)
      · show f58.s1 L N _ _ (f58.l1 L N _ _ n') i k ms = _
        unfold f58.s1 f58.s1'
        have hw : wi ((ms.length : Int) - 1) = (ms.length : Int) - 1 := wi_id (by omega) (by omega)
        simp only [lt_cast hi, le0, cond_true, Bool.and_true, Bool.true_and, Int.toNat_natCast, at_lt hi, lt_cast hk, at_lt hk, act2_ok, in_ok, Option.bind_some, less2_ok, hw, mv_eta, wi_nat (show k < 9223372036854775807 by omega)]
        unfold atOk mvOk
        rw [getD_lt hk]
        by_cases hA : -4 ≤ (ms[i])[k].act ∧ (ms[i])[k].act ≤ 4
        · by_cases hB : 0 ≤ (ms[i])[k].to ∧ (ms[i])[k].to < (ms.length : Int)
          · rw [dt hA, dt hB, dt (show 0 ≤ (ms[i])[k].to ∧ (ms[i])[k].to ≤ (ms.length : Int) - 1 by omega)]
            simp only [Bool.not_true, cond_false, Bool.true_and]
            by_cases hk0 : k = 0
            · subst hk0
              rfl
            · have hp : k - 1 < (ms[i]).length := by omega
              rw [dt (show (k : Int) > 0 by omega), cond_true, pred_cast (by omega) (by omega)]
              simp only [le0, lt_cast hp, Bool.and_true, cond_true, Int.toNat_natCast, at_lt hp, Option.bind_some, df hk0, Bool.false_or, getD_lt hp]
              cases lessM (ms[i])[k - 1] (ms[i])[k] <;> rfl
          · rw [dt hA, df hB, df (show ¬ (0 ≤ (ms[i])[k].to ∧ (ms[i])[k].to ≤ (ms.length : Int) - 1) by omega)]
            rfl
        · rw [df hA]
          rfl
      · show f58.s1 L N _ _ (f58.l1 L N _ _ n') i (ms[i]).length ms = _
        unfold f58.s1 f58.s1'
        simp only [lt_cast hi, le0, cond_true, Bool.and_true, Bool.true_and, Int.toNat_natCast, at_lt hi, ge_cast (Nat.lt_irrefl _), cond_false]
        show f58.l0 L N _ _ n (wi ((i : Int) + 1)) ms = _
        rw [wi_nat (by omega)]
    · show f58.s0 L N _ _ (f58.l0 L N _ _ n) ms.length ms = _
      unfold f58.s0 f58.s0'
      simp only [ge_cast (Nat.lt_irrefl _), cond_false]
      rfl
    · rw [Nat.sub_zero]
      cases allN (fun i => rowOk ms.length (ms.getD i [])) ms.length 0 <;> rfl
  · rw [df hr, df (show ¬ (1 ≤ ms.length ∧ ms.length ≤ 60) by omega)]
    rfl
theorem gok1_ok (L N : Nat) (g : Graph) (hL : 1048576 < L) (hs : g.moves.length + gsize g.moves ≤ 1048576) : f32 L N g = some (graphOk g) := by
  show f32.b L N some g = _
  unfold f32.b f32.b' graphOk
  generalize hms : g.moves = ms
  rw [hms] at hs
  by_cases h1 : (ms.length : Int) < 1
  · rw [dt h1, cond_true, df (show ¬ (1 ≤ ms.length ∧ ms.length ≤ 60) by omega)]; rfl
  · rw [df h1, cond_false]
    by_cases h2 : (ms.length : Int) > 60
    · rw [dt h2, cond_true, df (show ¬ (1 ≤ ms.length ∧ ms.length ≤ 60) by omega)]; rfl
    · rw [df h2, cond_false, dt (show 1 ≤ ms.length ∧ ms.length ≤ 60 by omega)]
      simp only [Bool.true_and]
      unfold f32.j0'
      refine (all_loop (l := fun n i => f32.l0 L N (f32.p0_e0 L N some) (fun z => f32.p0_r L N some z) n ms (ms.length : Int) i ms) (len := ms.length) (q := fun i => rowOk ms.length (ms.getD i [])) (rt := some true) (rf := some false) (fun n i hi => ?_) (fun n => ?_) L 0 (by omega) (by omega)).trans ?_
      · show f32.s0 L N _ _ (f32.l0 L N _ _ n) ms (ms.length : Int) i ms = _
        unfold f32.s0 f32.s0'
        simp only [lt_cast hi, le0, Bool.and_true, cond_true, Int.toNat_natCast, at_lt hi, getD_lt hi]
        have hrow := gsize_row _ (List.getElem_mem hi)
        refine (all_loop (l := fun n k => f32.l1 L N (fun z15 z16 z17 z18 => f32.p1_e2 L N (f32.p0_e0 L N some) (fun z => f32.p0_r L N some z) (f32.l0 L N (f32.p0_e0 L N some) (fun z => f32.p0_r L N some z) _) z15 z16 z17 z18) (fun z30 z31 z32 z33 z34 => f32.p1_r L N (f32.p0_e0 L N some) (fun z => f32.p0_r L N some z) (f32.l0 L N (f32.p0_e0 L N some) (fun z => f32.p0_r L N some z) _) z30 z31 z32 z33 z34) n ms[i] ms (ms.length : Int) i ms[i] ((ms[i]).length : Int) k ms) (len := (ms[i]).length) (q := atOk ms.length ms[i]) (rt := f32.l0 L N (f32.p0_e0 L N some) (fun z => f32.p0_r L N some z) n ms (ms.length : Int) ((i + 1 : Nat) : Int) ms) (rf := some false) (fun n' k hk => ?_) (fun n' => ?_) L 0 (by omega) (by omega)).trans (by rw [Nat.sub_zero]; rfl)
        · show f32.s1 L N _ _ (f32.l1 L N _ _ n') ms[i] ms (ms.length : Int) i ms[i] ((ms[i]).length : Int) k ms = _
          unfold f32.s1 f32.s1'
          simp only [le0, cond_true, Bool.and_true, Bool.true_and, Int.toNat_natCast, lt_cast hk, at_lt hk, act1_ok, Option.bind_some, mv_eta, wi_nat (show k < 9223372036854775807 by omega)]
          unfold atOk mvOk
          rw [getD_lt hk]
          by_cases hA : -4 ≤ (ms[i])[k].act ∧ (ms[i])[k].act ≤ 4
          · rw [dt hA]
            simp only [Bool.not_true, cond_false, Bool.true_and]
            by_cases hB0 : (ms[i])[k].to < 0
            · rw [dt hB0, df (show ¬ (0 ≤ (ms[i])[k].to ∧ (ms[i])[k].to < (ms.length : Int)) by omega)]; rfl
            · rw [df hB0, cond_false]
              by_cases hB1 : (ms[i])[k].to ≥ (ms.length : Int)
              · rw [dt hB1, df (show ¬ (0 ≤ (ms[i])[k].to ∧ (ms[i])[k].to < (ms.length : Int)) by omega)]; rfl
              · rw [df hB1, cond_false, dt (show 0 ≤ (ms[i])[k].to ∧ (ms[i])[k].to < (ms.length : Int) by omega)]
                by_cases hk0 : k = 0
                · subst hk0
                  rfl
                · have hp : k - 1 < (ms[i]).length := by omega
                  rw [dt (show (k : Int) > 0 by omega), cond_true, pred_cast (by omega) (by omega)]
                  obtain ⟨r, hr, hd⟩ := byMove_ok L N (ms[i])[k - 1] (ms[i])[k]
                  simp only [le0, lt_cast hp, Bool.and_true, cond_true, Int.toNat_natCast, at_lt hp, hr, Option.bind_some, hd, df hk0, Bool.false_or, Bool.true_and, getD_lt hp]
                  cases lessM (ms[i])[k - 1] (ms[i])[k] <;> rfl
          · rw [df hA]
            rfl
        · show f32.s1 L N _ _ (f32.l1 L N _ _ n') ms[i] ms (ms.length : Int) i ms[i] ((ms[i]).length : Int) (ms[i]).length ms = _
          unfold f32.s1 f32.s1'
          simp only [ge_cast (Nat.lt_irrefl _), cond_false]
          show f32.l0 L N _ _ n ms (ms.length : Int) (wi ((i : Int) + 1)) ms = _
          rw [wi_nat (by omega)]
      · show f32.s0 L N _ _ (f32.l0 L N _ _ n) ms (ms.length : Int) ms.length ms = _
        unfold f32.s0 f32.s0'
        simp only [ge_cast (Nat.lt_irrefl _), cond_false]
        rfl
      · rw [Nat.sub_zero]
        cases allN (fun i => rowOk ms.length (ms.getD i [])) ms.length 0 <;> rfl
/-- what a graph's moves are -/
theorem graphOk_mv {g : Graph} (h : graphOk g = true) : 1 ≤ g.moves.length ∧ g.moves.length ≤ 60 ∧ ∀ (i : Nat) (hi : i < g.moves.length) (k : Nat) (hk : k < (g.moves[i]).length), -4 ≤ (g.moves[i])[k].act ∧ (g.moves[i])[k].act ≤ 4 ∧ 0 ≤ (g.moves[i])[k].to ∧ (g.moves[i])[k].to < (g.moves.length : Int) := by
  unfold graphOk at h
  simp only [Bool.and_eq_true, decide_eq_true_eq] at h
  refine ⟨h.1.1, h.1.2, fun i hi k hk => ?_⟩
  have h1 := allN_get _ 0 h.2 i (by omega) (by omega)
  simp only [getD_lt hi] at h1
  have h2 := allN_get _ 0 h1 k (by omega) (by omega)
  unfold atOk mvOk at h2
  rw [getD_lt hk] at h2
  simp only [Bool.and_eq_true, decide_eq_true_eq] at h2
  exact ⟨h2.1.1.1, h2.1.1.2, h2.1.2.1, h2.1.2.2⟩
end Go.Proofs.Ytdfjdbpklbehoaa.Ev

/-! Plain laws of marks: what is written into rows, and found there. No conditions but those that each states. -/
namespace Go.Proofs.Ytdfjdbpklbehoaa.Ev
open Go
set_option linter.unusedVariables false
set_option linter.unusedSimpArgs false

/-- k, k + 1, .. -/
def upI (k : Int) (n : Nat) : List Int := (List.range n).map fun (i : Nat) => k + (i : Int)
theorem upI_len (k : Int) (n : Nat) : (upI k n).length = n := by simp [upI]
theorem upI_at (k : Int) (n : Nat) {i : Nat} (h : i < (upI k n).length) : (upI k n)[i] = k + (i : Int) := by simp [upI]
theorem wi_up {k : Int} {i : Nat} (h0 : -1000000 ≤ k) (h : k + (i : Int) < 4611686018427387905) : wi (k + (i : Int) + 1) = k + ((i + 1 : Nat) : Int) := by
  rw [wi_id (by omega) (by omega)]; omega

theorem markIntS_ok (L N : Nat) (xs : List Int) (k : Int) (hL : xs.length < L) (h0 : -1000000 ≤ k) (hk : k + (xs.length : Int) ≤ 4611686018427387904) (hl : xs.length ≤ 4611686018427387904) :
    f26 L N xs k = some (k + (xs.length : Int), upI k xs.length) := by
  show f26.b L N xs.length _ xs k = _
  unfold f26.b f26.b'
  have key : ∀ (n i : Nat) (ys : List Int), ys.length = xs.length → i ≤ xs.length → xs.length - i < n → ys.take i = upI k i →
      f26.l0 L N xs.length (fun z3 z4 => f26.p0_e0 L N xs.length (fun a0 a1 => some (a0, a1)) z3 z4) n (k + (i : Int)) (i : Int) ys = some (k + (xs.length : Int), upI k xs.length) := by
    intro n
    induction n with
    | zero => intro i ys _ _ h; omega
    | succ n ih =>
      intro i ys hy hi hn ht
      show f26.s0 L N xs.length _ (f26.l0 L N xs.length _ n) (k + (i : Int)) (i : Int) ys = _
      unfold f26.s0 f26.s0'
      by_cases hlt : i < ys.length
      · simp only [lt_cast hlt, le0, cond_true, Bool.and_true, Int.toNat_natCast]
        rw [wi_up h0 (by omega), wi_nat (by omega)]
        refine ih (i + 1) _ (by simp [hy]) (by omega) (by omega) ?_
        apply List.ext_getElem?
        intro j
        rw [List.getElem?_take]
        by_cases hj : j < i + 1
        · rw [if_pos hj]
          by_cases he : j = i
          · subst he
            rw [List.getElem?_set_self hlt]
            simp [upI]
          · rw [List.getElem?_set_ne (Ne.symm he)]
            have := congrArg (fun l => l[j]?) ht
            simp only [List.getElem?_take, if_pos (show j < i by omega)] at this
            rw [this]
            simp [upI, show j < i by omega, show j < i + 1 by omega]
        · rw [if_neg hj, List.getElem?_eq_none (by rw [upI_len]; omega)]
      · simp only [ge_cast hlt, cond_false]
        have hi' : i = xs.length := by omega
        subst hi'
        unfold f26.p0_e0 f26.p0_e0'
        rw [hy, Nat.beq_refl, cond_true]
        rw [List.take_of_length_le (by omega)] at ht
        rw [ht]
  have := key L 0 xs rfl (by omega) (by omega) (by simp [upI])
  rw [show k + ((0 : Nat) : Int) = k by omega] at this
  exact this

theorem heldIntS_ok (L N : Nat) (k : Int) (m : Nat) (hL : m < L) (h0 : -1000000 ≤ k) (hk : k + (m : Int) ≤ 4611686018427387904) (hl : m ≤ 4611686018427387904) :
    f27 L N (upI k m) k = some (k + (m : Int)) := by
  show f27.b L N _ (upI k m) k = _
  unfold f27.b f27.b'
  have key : ∀ (n i : Nat), i ≤ m → m - i < n →
      f27.l0 L N (fun z3 => f27.p0_e0 L N some z3) (fun z4 z5 => f27.p0_r L N some z4 z5) n (upI k m) (k + (i : Int)) (i : Int) = some (k + (m : Int)) := by
    intro n
    induction n with
    | zero => intro i _ h; omega
    | succ n ih =>
      intro i hi hn
      show f27.s0 L N _ _ (f27.l0 L N _ _ n) (upI k m) (k + (i : Int)) (i : Int) = _
      unfold f27.s0 f27.s0'
      by_cases hlt : i < (upI k m).length
      · have hm := upI_len k m
        simp only [lt_cast hlt, le0, cond_true, Bool.and_true, Int.toNat_natCast, at_lt hlt, upI_at k m hlt, bne_self_eq_false, cond_false]
        rw [wi_up h0 (by omega), wi_nat (by omega)]
        exact ih (i + 1) (by omega) (by omega)
      · simp only [ge_cast hlt, cond_false]
        rw [upI_len] at hlt
        have hi' : i = m := by omega
        subst hi'
        rfl
  have := key L 0 (by omega) (by omega)
  rw [show k + ((0 : Nat) : Int) = k by omega] at this
  exact this

theorem markMoveS_ok (L N : Nat) (xs : List Move) (k : Int) (hL : xs.length < L) (h0 : 0 ≤ k) (hk : k + 2 * (xs.length : Int) ≤ 4611686018427387904) (hl : xs.length ≤ 4611686018427387904) :
    ∃ ys, f102 L N xs k = some (k + 2 * (xs.length : Int), ys) := by
  show ∃ ys, f102.b L N xs.length _ xs k = _
  unfold f102.b f102.b'
  have key : ∀ (n i : Nat) (ys : List Move), ys.length = xs.length → i ≤ xs.length → xs.length - i < n →
      ∃ zs, f102.l0 L N xs.length (fun z3 z4 => f102.p0_e0 L N xs.length (fun a0 a1 => some (a0, a1)) z3 z4) n (k + 2 * (i : Int)) (i : Int) ys = some (k + 2 * (xs.length : Int), zs) := by
    intro n
    induction n with
    | zero => intro i ys _ _ h; omega
    | succ n ih =>
      intro i ys hy hi hn
      show ∃ zs, f102.s0 L N xs.length _ (f102.l0 L N xs.length _ n) (k + 2 * (i : Int)) (i : Int) ys = _
      unfold f102.s0 f102.s0'
      by_cases hlt : i < ys.length
      · simp only [lt_cast hlt, le0, cond_true, Bool.and_true, Int.toNat_natCast, List.length_set]
        rw [show wi (wi (k + 2 * (i : Int) + 1) + 1) = k + 2 * ((i + 1 : Nat) : Int) by rw [wi_id (n := k + 2 * (i : Int) + 1) (by omega) (by omega), wi_id (by omega) (by omega)]; omega, wi_nat (show i < 9223372036854775807 by omega)]
        exact ih (i + 1) _ (by simp [hy]) (by omega) (by omega)
      · simp only [ge_cast hlt, cond_false]
        have hi' : i = xs.length := by omega
        subst hi'
        unfold f102.p0_e0 f102.p0_e0'
        rw [hy, Nat.beq_refl, cond_true]
        exact ⟨_, rfl⟩
  obtain ⟨zs, h⟩ := key L 0 xs rfl (by omega) (by omega)
  rw [show k + 2 * ((0 : Nat) : Int) = k by omega] at h
  exact ⟨zs, h⟩

/-- marks in a graph: the number behind the last one -/
theorem markMoveSS_ok (L N : Nat) (xs : List (List Move)) (k : Int) (hL : xs.length < L) (hr : ∀ r ∈ xs, r.length < L ∧ r.length ≤ 1048576) (hl : xs.length ≤ 1048576) (h0 : 0 ≤ k) (hk : k ≤ 1048576) :
    ∃ (j : Int) (ys : List (List Move)), f66 L N xs k = some (j, ys) ∧ 0 ≤ j ∧ j ≤ k + 2097152 * (xs.length : Int) := by
  show ∃ j ys, f66.b L N xs.length _ xs k = _ ∧ _
  unfold f66.b f66.b'
  have key : ∀ (n i : Nat) (s : Int) (ys : List (List Move)), ys.length = xs.length → i ≤ xs.length → xs.length - i < n → (∀ r ∈ ys.drop i, r.length < L ∧ r.length ≤ 1048576) → 0 ≤ s → s ≤ k + 2097152 * (i : Int) →
      ∃ (j : Int) (zs : List (List Move)), f66.l0 L N xs.length (fun z3 z4 => f66.p0_e0 L N xs.length (fun a0 a1 => some (a0, a1)) z3 z4) n s (i : Int) ys = some (j, zs) ∧ 0 ≤ j ∧ j ≤ k + 2097152 * (xs.length : Int) := by
    intro n
    induction n with
    | zero => intro i s ys _ _ h; omega
    | succ n ih =>
      intro i s ys hy hi hn hro hs0 hs1
      show ∃ j zs, f66.s0 L N xs.length _ (f66.l0 L N xs.length _ n) s (i : Int) ys = _ ∧ _
      unfold f66.s0 f66.s0'
      by_cases hlt : i < ys.length
      · have hri := hro ys[i] (by rw [List.drop_eq_getElem_cons hlt]; exact .head _)
        obtain ⟨zs, hz⟩ := markMoveS_ok L N ys[i] s hri.1 hs0 (by omega) (by omega)
        simp only [lt_cast hlt, le0, cond_true, Bool.and_true, Int.toNat_natCast, at_lt hlt, hz, Option.bind_some]
        rw [wi_nat (by omega)]
        refine ih (i + 1) _ _ (by simp [hy]) (by omega) (by omega) (fun r hr => ?_) (by omega) (by omega)
        rw [List.drop_set_of_lt (by omega)] at hr
        refine hro r ?_
        rw [List.drop_eq_getElem_cons hlt]
        exact .tail _ hr
      · simp only [ge_cast hlt, cond_false]
        have hi' : i = xs.length := by omega
        subst hi'
        unfold f66.p0_e0 f66.p0_e0'
        rw [hy, Nat.beq_refl, cond_true]
        exact ⟨_, _, rfl, hs0, hs1⟩
  exact key L 0 k xs rfl (by omega) (by omega) (by rw [List.drop_zero]; exact hr) h0 (by omega)

end Go.Proofs.Ytdfjdbpklbehoaa.Ev

/-! Plain laws of marks in graphs: what is written into the rows, and found there. No conditions but those that each states. -/
namespace Go.Proofs.Ytdfjdbpklbehoaa.Ev
open Go
set_option linter.unusedVariables false
set_option linter.unusedSimpArgs false

def upM (k : Int) (n : Nat) : List Move := (List.range n).map fun (i : Nat) => Move.mk (k + 2 * (i : Int)) (k + 2 * (i : Int) + 1)
theorem upM_len (k : Int) (n : Nat) : (upM k n).length = n := by simp [upM]
theorem upM_at (k : Int) (n : Nat) {i : Nat} (h : i < (upM k n).length) : (upM k n)[i] = Move.mk (k + 2 * (i : Int)) (k + 2 * (i : Int) + 1) := by simp [upM]

theorem markMoveS_eq (L N : Nat) (xs : List Move) (k : Int) (hL : xs.length < L) (h0 : 0 ≤ k) (hk : k + 2 * (xs.length : Int) ≤ 4611686018427387904) (hl : xs.length ≤ 4611686018427387904) :
    f102 L N xs k = some (k + 2 * (xs.length : Int), upM k xs.length) := by
  show f102.b L N xs.length _ xs k = _
  unfold f102.b f102.b'
  have key : ∀ (n i : Nat) (ys : List Move), ys.length = xs.length → i ≤ xs.length → xs.length - i < n → (∀ t, t < i → ys[t]? = some (Move.mk (k + 2 * (t : Int)) (k + 2 * (t : Int) + 1))) →
      f102.l0 L N xs.length (fun z3 z4 => f102.p0_e0 L N xs.length (fun a0 a1 => some (a0, a1)) z3 z4) n (k + 2 * (i : Int)) (i : Int) ys = some (k + 2 * (xs.length : Int), upM k xs.length) := by
    intro n
    induction n with
    | zero => intro i ys _ _ h; omega
    | succ n ih =>
      intro i ys hy hi hn hp
      show f102.s0 L N xs.length _ (f102.l0 L N xs.length _ n) (k + 2 * (i : Int)) (i : Int) ys = _
      unfold f102.s0 f102.s0'
      by_cases hlt : i < ys.length
      · simp only [lt_cast hlt, le0, cond_true, Bool.and_true, Int.toNat_natCast, List.length_set]
        rw [show wi (wi (k + 2 * (i : Int) + 1) + 1) = k + 2 * ((i + 1 : Nat) : Int) by rw [wi_id (n := k + 2 * (i : Int) + 1) (by omega) (by omega), wi_id (by omega) (by omega)]; omega, wi_nat (show i < 9223372036854775807 by omega), wi_id (n := k + 2 * (i : Int) + 1) (by omega) (by omega)]
        refine ih (i + 1) _ (by simp [hy]) (by omega) (by omega) (fun t ht => ?_)
        by_cases e : t = i
        · subst e
          simp [hlt, atD, List.getD, List.getElem?_set, List.getElem?_eq_getElem]
        · rw [List.getElem?_set_ne (by omega)]
          try rw [List.getElem?_set_ne (by omega)]
          exact hp t (by omega)
      · simp only [ge_cast hlt, cond_false]
        have hi' : i = xs.length := by omega
        subst hi'
        have hys : ys = upM k xs.length := by
          apply List.ext_getElem?
          intro t
          by_cases ht : t < xs.length
          · rw [hp t ht, List.getElem?_eq_getElem (by rw [upM_len]; exact ht), upM_at]
          · rw [List.getElem?_eq_none (by omega), List.getElem?_eq_none (by rw [upM_len]; omega)]
        unfold f102.p0_e0 f102.p0_e0'
        rw [hy, Nat.beq_refl, cond_true, hys]
  have := key L 0 xs rfl (by omega) (by omega) (fun t ht => by omega)
  rw [show k + 2 * ((0 : Nat) : Int) = k by omega] at this
  exact this


/-- the rows bear the marks k, k + 1, .. up to j -/
def Mk : Int → List (List Move) → Int → Prop
  | k, [], j => j = k
  | k, r :: rs, j => r = upM k r.length ∧ Mk (k + 2 * (r.length : Int)) rs j
theorem Mk.le : ∀ {k j : Int} {rs : List (List Move)}, Mk k rs j → k ≤ j
  | k, j, [], h => by have h : j = k := h; omega
  | k, j, r :: rs, h => by have := Mk.le h.2; omega
theorem Mk.snoc : ∀ {k j : Int} {rs : List (List Move)} (n : Nat), Mk k rs j → Mk k (rs ++ [upM j n]) (j + 2 * (n : Int))
  | k, j, [], n, h => by
    have h : j = k := h
    subst h
    exact ⟨by rw [upM_len], by rw [upM_len]; exact rfl⟩
  | k, j, r :: rs, n, h => ⟨h.1, Mk.snoc n h.2⟩

theorem markMoveSS_eq (L N : Nat) (xs : List (List Move)) (k : Int) (hL : xs.length < L) (hr : ∀ r ∈ xs, r.length < L ∧ r.length ≤ 1048576) (hl : xs.length ≤ 1048576) (h0 : 0 ≤ k) (hk : k ≤ 1048576) :
    ∃ (j : Int) (ys : List (List Move)), f66 L N xs k = some (j, ys) ∧ Mk k ys j ∧ 0 ≤ j ∧ j ≤ k + 2097152 * (xs.length : Int) ∧ ys.length = xs.length ∧ ∀ r ∈ ys, r.length < L ∧ r.length ≤ 1048576 := by
  show ∃ j ys, f66.b L N xs.length _ xs k = _ ∧ _
  unfold f66.b f66.b'
  have key : ∀ (n i : Nat) (s : Int) (ys : List (List Move)), ys.length = xs.length → i ≤ xs.length → xs.length - i < n → (∀ r ∈ ys, r.length < L ∧ r.length ≤ 1048576) → 0 ≤ s → s ≤ k + 2097152 * (i : Int) → Mk k (ys.take i) s →
      ∃ (j : Int) (zs : List (List Move)), f66.l0 L N xs.length (fun z3 z4 => f66.p0_e0 L N xs.length (fun a0 a1 => some (a0, a1)) z3 z4) n s (i : Int) ys = some (j, zs) ∧ Mk k zs j ∧ 0 ≤ j ∧ j ≤ k + 2097152 * (xs.length : Int) ∧ zs.length = xs.length ∧ ∀ r ∈ zs, r.length < L ∧ r.length ≤ 1048576 := by
    intro n
    induction n with
    | zero => intro i s ys _ _ h; omega
    | succ n ih =>
      intro i s ys hy hi hn hro hs0 hs1 hmk
      show ∃ j zs, f66.s0 L N xs.length _ (f66.l0 L N xs.length _ n) s (i : Int) ys = _ ∧ _
      unfold f66.s0 f66.s0'
      by_cases hlt : i < ys.length
      · have hri := hro ys[i] (List.getElem_mem hlt)
        have hz := markMoveS_eq L N ys[i] s hri.1 hs0 (by omega) (by omega)
        simp only [lt_cast hlt, le0, cond_true, Bool.and_true, Int.toNat_natCast, at_lt hlt, hz, Option.bind_some]
        rw [wi_nat (by omega)]
        refine ih (i + 1) _ _ (by simp [hy]) (by omega) (by omega) (fun r hr => ?_) (by omega) (by omega) ?_
        · rcases List.mem_or_eq_of_mem_set hr with q | q
          · exact hro r q
          · rw [q, upM_len]; exact hri
        · rw [List.take_add_one, List.getElem?_set_self hlt, List.take_set_of_le (Nat.le_refl i)]
          exact hmk.snoc _
      · simp only [ge_cast hlt, cond_false]
        have hi' : i = xs.length := by omega
        subst hi'
        unfold f66.p0_e0 f66.p0_e0'
        rw [hy, Nat.beq_refl, cond_true]
        rw [List.take_of_length_le (by omega)] at hmk
        exact ⟨_, _, rfl, hmk, hs0, hs1, hy, hro⟩
  exact key L 0 k xs rfl (by omega) (by omega) hr h0 (by omega) rfl

end Go.Proofs.Ytdfjdbpklbehoaa.Ev

/-! Plain laws of slipping: what the program's slipFrom and the reference's l8Slip reach is the same. No conditions but those that each states. -/
namespace Go.Proofs.Ytdfjdbpklbehoaa.Ev
open Go
set_option linter.unusedVariables false
set_option linter.unusedSimpArgs false

/-! ### Rows in order -/
def Rises (l : List Int) : Prop := l.Pairwise (· < ·)
theorem rises_ext : ∀ {a b : List Int}, Rises a → Rises b → (∀ x, x ∈ a ↔ x ∈ b) → a = b
  | [], [], _, _, _ => rfl
  | [], y :: b, _, _, h => absurd ((h y).2 (.head _)) (by simp)
  | x :: a, [], _, _, h => absurd ((h x).1 (.head _)) (by simp)
  | x :: a, y :: b, ha, hb, h => by
    have ha' := List.pairwise_cons.1 ha
    have hb' := List.pairwise_cons.1 hb
    have hxy : x = y := by
      rcases List.mem_cons.1 ((h x).1 (.head _)) with e | e
      · exact e
      · rcases List.mem_cons.1 ((h y).2 (.head _)) with e' | e'
        · exact e'.symm
        · have := hb'.1 x e; have := ha'.1 y e'; omega
    subst hxy
    refine congrArg (x :: ·) (rises_ext ha'.2 hb'.2 fun z => ?_)
    have := h z
    simp only [List.mem_cons] at this
    constructor
    · intro hz
      rcases this.1 (.inr hz) with e | e
      · have := ha'.1 z hz; omega
      · exact e
    · intro hz
      rcases this.2 (.inr hz) with e | e
      · have := hb'.1 z hz; omega
      · exact e

/-! ### Sets as rows of truths -/
def Tr (l : List Bool) (t : Nat) : Prop := l.getD t false = true
theorem Tr_lt {l : List Bool} {t : Nat} (h : Tr l t) : t < l.length := by
  unfold Tr at h
  rw [List.getD_eq_getElem?_getD] at h
  by_cases hl : t < l.length
  · exact hl
  · rw [List.getElem?_eq_none (by omega)] at h; cases h
theorem Tr_set {l : List Bool} {j t : Nat} (hj : j < l.length) : Tr (l.set j true) t ↔ t = j ∨ Tr l t := by
  unfold Tr
  rw [List.getD_eq_getElem?_getD, List.getD_eq_getElem?_getD]
  by_cases h : t = j
  · subst h; rw [List.getElem?_set_self hj]; simp
  · rw [List.getElem?_set_ne (Ne.symm h)]; simp [h]
theorem Tr_replicate (n t : Nat) : ¬ Tr (List.replicate n false) t := by
  unfold Tr
  rw [List.getD_eq_getElem?_getD, List.getElem?_replicate]
  split <;> simp
def cnt : List Bool → Nat
  | [] => 0
  | b :: r => (bif b then 1 else 0) + cnt r
theorem cnt_le : ∀ l : List Bool, cnt l ≤ l.length
  | [] => Nat.le_refl _
  | b :: r => by have := cnt_le r; cases b <;> simp [cnt] <;> omega
theorem cnt_set : ∀ (l : List Bool) (j : Nat), j < l.length → l.getD j false = false → cnt (l.set j true) = cnt l + 1
  | b :: r, 0, _, h => by
    have hb : b = false := h
    subst hb
    simp [cnt]; omega
  | b :: r, j + 1, hj, h => by
    have := cnt_set r j (by simpa using hj) (by simpa using h)
    simp only [List.set_cons_succ, cnt, this]; omega
theorem cnt_replicate (n : Nat) : cnt (List.replicate n false) = 0 := by
  induction n with
  | zero => rfl
  | succ n ih => rw [List.replicate_succ]; simp [cnt, ih]

/-! ### What one slips to -/
inductive Slip (ms : List (List Move)) (X : Nat → Prop) : Nat → Prop
  | base (t : Nat) (h : X t) : Slip ms X t
  | step (s t : Nat) (hs : Slip ms X s) (hl : s < ms.length) (k : Nat) (hk : k < (ms[s]).length) (ha : (ms[s])[k].act = 0) (ht : (ms[s])[k].to = (t : Int)) : Slip ms X t
theorem Slip.mono {ms : List (List Move)} {X Y : Nat → Prop} (h : ∀ t, X t → Y t) {t : Nat} (r : Slip ms X t) : Slip ms Y t := by
  induction r with
  | base t hx => exact .base t (h t hx)
  | step s t _ hl k hk ha ht ih => exact .step s t ih hl k hk ha ht
theorem Slip.iff {ms : List (List Move)} {X Y : Nat → Prop} (h : ∀ t, X t ↔ Y t) (t : Nat) : Slip ms X t ↔ Slip ms Y t := ⟨fun r => r.mono fun t hx => (h t).1 hx, fun r => r.mono fun t hx => (h t).2 hx⟩

/-- moves lead to states -/
def Leads (ms : List (List Move)) : Prop := ms.length ≤ 60 ∧ ∀ (i : Nat) (hi : i < ms.length), (ms[i]).length ≤ 1048576 ∧ ∀ (k : Nat) (hk : k < (ms[i]).length), 0 ≤ (ms[i])[k].to ∧ (ms[i])[k].to < (ms.length : Int)
theorem leads_of {g : Graph} (h : graphOk g = true) (hs : g.moves.length + gsize g.moves ≤ 1048576) : Leads g.moves := by
  obtain ⟨h1, h2, h3⟩ := graphOk_mv h
  refine ⟨h2, fun i hi => ⟨?_, fun k hk => ?_⟩⟩
  · have := gsize_row _ (List.getElem_mem hi); omega
  · have := h3 i hi k hk; exact ⟨this.2.2.1, this.2.2.2⟩
theorem Leads.nat {ms : List (List Move)} (h : Leads ms) {i : Nat} (hi : i < ms.length) {k : Nat} (hk : k < (ms[i]).length) : ∃ t : Nat, (ms[i])[k].to = (t : Int) ∧ t < ms.length := by
  obtain ⟨h1, h2⟩ := (h.2 i hi).2 k hk
  obtain ⟨t, ht⟩ := Int.eq_ofNat_of_zero_le h1
  exact ⟨t, ht, by omega⟩

end Go.Proofs.Ytdfjdbpklbehoaa.Ev

/-! Plain laws of slipping: the program's slipFrom. No conditions but those that each states. -/
namespace Go.Proofs.Ytdfjdbpklbehoaa.Ev
open Go
set_option linter.unusedVariables false
set_option linter.unusedSimpArgs false

/-- the queue and what was seen say the same -/
def QOk (ms : List (List Move)) (seen : List Bool) (q : List Int) : Prop := seen.length = ms.length ∧ (∀ v ∈ q, ∃ t : Nat, v = (t : Int) ∧ Tr seen t) ∧ (∀ t : Nat, Tr seen t → (t : Int) ∈ q) ∧ q.length = cnt seen ∧ q.Nodup
theorem QOk.add {ms : List (List Move)} {seen : List Bool} {q : List Int} (h : QOk ms seen q) {t : Nat} (ht : t < ms.length) (hf : seen.getD t false = false) : QOk ms (seen.set t true) (q ++ [(t : Int)]) := by
  obtain ⟨h1, h2, h3, h4, h5⟩ := h
  refine ⟨by simp [h1], fun v hv => ?_, fun t' ht' => ?_, ?_, ?_⟩
  · rcases List.mem_append.1 hv with hv | hv
    · obtain ⟨s, rfl, hs⟩ := h2 v hv
      exact ⟨s, rfl, (Tr_set (by omega)).2 (.inr hs)⟩
    · obtain rfl := List.mem_singleton.1 hv
      exact ⟨t, rfl, (Tr_set (by omega)).2 (.inl rfl)⟩
  · rcases (Tr_set (by omega)).1 ht' with rfl | h
    · exact List.mem_append_right _ (List.mem_singleton.2 rfl)
    · exact List.mem_append_left _ (h3 t' h)
  · rw [List.length_append, cnt_set _ _ (by omega) hf, h4]; rfl
  · refine List.nodup_append.2 ⟨h5, by simp, fun a ha b hb e => ?_⟩
    obtain rfl := List.mem_singleton.1 hb
    obtain ⟨s, hs, hT⟩ := h2 a ha
    obtain rfl : s = t := by omega
    unfold Tr at hT
    rw [hf] at hT; cases hT
theorem QOk.len {ms : List (List Move)} {seen : List Bool} {q : List Int} (h : QOk ms seen q) : q.length ≤ ms.length := by
  have := cnt_le seen
  obtain ⟨h1, -, -, h4, -⟩ := h
  omega
theorem sortI_rises {q : List Int} (h : q.Nodup) : Rises (sortI q) := by
  have h1 : (sortI q).Pairwise fun a b => decide (a ≤ b) = true := List.pairwise_mergeSort (fun a b c hab hbc => by simp only [decide_eq_true_eq] at *; omega) (fun a b => by simp only [Bool.or_eq_true, decide_eq_true_eq]; omega) q
  have h2 : (sortI q).Nodup := (List.mergeSort_perm q _).nodup_iff.2 h
  exact (h1.and h2).imp fun {a b} hab => by have := of_decide_eq_true hab.1; have := hab.2; omega

end Go.Proofs.Ytdfjdbpklbehoaa.Ev

/-! Plain laws of sorting rows of moves: spec.l3Sorted and impl.tidy's law answer the one list that rises and bears the same moves. No conditions but those that each states. -/
namespace Go.Proofs.Ytdfjdbpklbehoaa.Ev
open Go
set_option linter.unusedVariables false
set_option linter.unusedSimpArgs false

theorem less_irrefl (a : Move) : lessM a a = false := by unfold lessM; exact decide_eq_false (by omega)
theorem less_trans {a b c : Move} (h1 : lessM a b = true) (h2 : lessM b c = true) : lessM a c = true := by
  unfold lessM at *; have h1 := of_decide_eq_true h1; have h2 := of_decide_eq_true h2; exact decide_eq_true (by omega)
theorem less_tot {a b : Move} (h1 : lessM a b = false) (h2 : a ≠ b) : lessM b a = true := by
  unfold lessM at *
  have h1 := of_decide_eq_false h1
  obtain ⟨a1, a2⟩ := a
  obtain ⟨b1, b2⟩ := b
  have h2 : ¬ (a1 = b1 ∧ a2 = b2) := fun h => h2 (by rw [h.1, h.2])
  exact decide_eq_true (by simp only at h1 ⊢; omega)
theorem less_ne {a b : Move} (h : lessM a b = true) : a ≠ b := fun e => by rw [e, less_irrefl] at h; cases h

def RisesM (l : List Move) : Prop := l.Pairwise fun a b => lessM a b = true
theorem risesM_ext : ∀ {a b : List Move}, RisesM a → RisesM b → (∀ x, x ∈ a ↔ x ∈ b) → a = b
  | [], [], _, _, _ => rfl
  | [], y :: b, _, _, h => absurd ((h y).2 (.head _)) (by simp)
  | x :: a, [], _, _, h => absurd ((h x).1 (.head _)) (by simp)
  | x :: a, y :: b, ha, hb, h => by
    have ha' := List.pairwise_cons.1 ha
    have hb' := List.pairwise_cons.1 hb
    have hxy : x = y := by
      rcases List.mem_cons.1 ((h x).1 (.head _)) with e | e
      · exact e
      · rcases List.mem_cons.1 ((h y).2 (.head _)) with e' | e'
        · exact e'.symm
        · have q := less_trans (hb'.1 x e) (ha'.1 y e')
          rw [less_irrefl] at q; cases q
    subst hxy
    refine congrArg (x :: ·) (risesM_ext ha'.2 hb'.2 fun z => ?_)
    have := h z
    simp only [List.mem_cons] at this
    constructor
    · intro hz
      rcases this.1 (.inr hz) with e | e
      · exact absurd e.symm (less_ne (ha'.1 z hz))
      · exact e
    · intro hz
      rcases this.2 (.inr hz) with e | e
      · exact absurd e.symm (less_ne (hb'.1 z hz))
      · exact e

theorem l3s1 {R : Type} (L N : Nat) (K : List Move → Int → Int → List Move → Option R) (xs out : List Move) (i : Nat) (hi : i < xs.length) (ho : out.length < 9223372036854775807) :
    ∀ (n k : Nat), k ≤ out.length → k < n → (∀ j (hj : j < out.length), k ≤ j → lessM xs[i] out[j] = true) →
      ∃ a : Nat, a ≤ out.length ∧ (∀ j (hj : j < out.length), a ≤ j → lessM xs[i] out[j] = true) ∧ (∀ (h : 0 < a) (ha : a - 1 < out.length), lessM xs[i] out[a - 1] = false) ∧
        f123.l1 L N K n xs (i : Int) (k : Int) out = K xs (i : Int) (a : Int) out := by
  intro n
  induction n with
  | zero => intro k _ h; omega
  | succ n ih =>
    intro k hk hn hge
    show ∃ a : Nat, _ ∧ _ ∧ _ ∧ f123.s1 L N _ (f123.l1 L N _ n) xs (i : Int) (k : Int) out = _
    unfold f123.s1 f123.s1'
    by_cases h0 : 0 < k
    · have hk1 : k - 1 < out.length := by omega
      rw [show decide ((k : Int) > 0) = true from decide_eq_true (by omega)]
      simp only [cond_true, le0, lt_cast hi, Bool.and_true, pred_cast h0 (by omega), lt_cast hk1, Int.toNat_natCast, at_lt hi, at_lt hk1, less2_ok, Option.bind_some]
      cases hc : lessM xs[i] out[k - 1] with
      | true =>
        simp only [cond_true]
        refine ih (k - 1) (by omega) (by omega) fun j hj hkj => ?_
        by_cases e : j = k - 1
        · subst e; exact hc
        · exact hge j hj (by omega)
      | false =>
        simp only [cond_false]
        exact ⟨k, hk, hge, fun _ _ => hc, rfl⟩
    · have hk0 : k = 0 := by omega
      subst hk0
      rw [show decide (((0 : Nat) : Int) > 0) = false from rfl]
      simp only [cond_false]
      exact ⟨0, by omega, hge, fun h => absurd h (by omega), rfl⟩

theorem l3s2 {R : Type} (L N : Nat) (K : List Move → Int → Int → List Move → Option R) (xs out : List Move) (i : Int) (a : Nat) (ho : out.length < 9223372036854775806) :
    ∀ (n k : Nat) (l : List Move), l.length = out.length + 1 → a ≤ k → k ≤ out.length → k - a < n → (∀ j, j < k → l[j]? = out[j]?) → (∀ j, k < j → l[j]? = out[j - 1]?) →
      ∃ l' : List Move, l'.length = out.length + 1 ∧ (∀ j, j < a → l'[j]? = out[j]?) ∧ (∀ j, a < j → l'[j]? = out[j - 1]?) ∧
        f123.l2 L N K n xs i (a : Int) (k : Int) l = K xs i (a : Int) l' := by
  intro n
  induction n with
  | zero => intro k l _ _ _ h; omega
  | succ n ih =>
    intro k l hl hak hk hn h1 h2
    show ∃ l' : List Move, _ ∧ _ ∧ _ ∧ f123.s2 L N _ (f123.l2 L N _ n) xs i (a : Int) (k : Int) l = _
    unfold f123.s2 f123.s2'
    by_cases h0 : a < k
    · have hk1 : k - 1 < l.length := by omega
      have hk2 : k < l.length := by omega
      rw [show decide ((k : Int) > (a : Int)) = true from decide_eq_true (by omega)]
      simp only [cond_true, le0, pred_cast (show 0 < k by omega) (by omega), lt_cast hk1, lt_cast hk2, Bool.and_true, Int.toNat_natCast, at_lt hk1]
      refine ih (k - 1) _ (by simp [hl]) (by omega) (by omega) (by omega) (fun j hj => ?_) (fun j hj => ?_)
      · rw [List.getElem?_set_ne (by omega)]; exact h1 j (by omega)
      · by_cases e : j = k
        · subst e
          rw [List.getElem?_set_self hk2, ← h1 (j - 1) (by omega), List.getElem?_eq_getElem hk1]
        · rw [List.getElem?_set_ne (by omega)]; exact h2 j (by omega)
    · have hk0 : k = a := by omega
      subst hk0
      rw [show decide ((k : Int) > (k : Int)) = false from decide_eq_false (by omega)]
      simp only [cond_false]
      exact ⟨l, hl, h1, h2, rfl⟩

theorem ins_rises {out : List Move} {x : Move} {a : Nat} (hr : RisesM out) (ha : a ≤ out.length) (hge : ∀ j (hj : j < out.length), a ≤ j → lessM x out[j] = true) (hlt : ∀ (h : 0 < a) (hj : a - 1 < out.length), lessM out[a - 1] x = true) :
    RisesM (out.take a ++ x :: out.drop a) := by
  unfold RisesM
  rw [List.pairwise_append, List.pairwise_cons]
  have hd : ∀ y ∈ out.drop a, lessM x y = true := fun y hy => by
    obtain ⟨j, hj, rfl⟩ := List.mem_iff_getElem.1 hy
    rw [List.getElem_drop]
    exact hge _ _ (by omega)
  have ht : ∀ y ∈ out.take a, lessM y x = true := fun y hy => by
    obtain ⟨j, hj, rfl⟩ := List.mem_iff_getElem.1 hy
    rw [List.length_take] at hj
    rw [List.getElem_take]
    have h1 := hlt (by omega) (by omega)
    by_cases e : j = a - 1
    · subst e; exact h1
    · exact less_trans (List.pairwise_iff_getElem.1 hr j (a - 1) (by omega) (by omega) (by omega)) h1
  refine ⟨List.Pairwise.sublist (List.take_sublist _ _) hr, ⟨hd, List.Pairwise.sublist (List.drop_sublist _ _) hr⟩, fun y hy z hz => ?_⟩
  rcases List.mem_cons.1 hz with rfl | hz
  · exact ht y hy
  · exact less_trans (ht y hy) (hd z hz)

theorem l3Sorted_ok (L N : Nat) (xs : List Move) (hx : xs.length ≤ 1099511627776) (hL : xs.length + 2 < L) :
    ∃ ys, f123 L N xs = some ys ∧ RisesM ys ∧ (∀ v, v ∈ ys ↔ v ∈ xs) ∧ ys.length ≤ xs.length := by
  have hlim := lim_eq
  show ∃ ys, f123.b L N some xs = some ys ∧ _
  unfold f123.b f123.b'
  have key : ∀ (n i : Nat) (out : List Move), i ≤ xs.length → xs.length - i < n → out.length ≤ i → RisesM out → (∀ v, v ∈ out ↔ v ∈ xs.take i) →
      ∃ ys, f123.l0 L N (fun z3 => f123.p0_e0 L N some z3) n xs (i : Int) out = some ys ∧ RisesM ys ∧ (∀ v, v ∈ ys ↔ v ∈ xs) ∧ ys.length ≤ xs.length := by
    intro n
    induction n with
    | zero => intro i out _ h; omega
    | succ n ih =>
      intro i out hi hn hlen hr hmem
      show ∃ ys, f123.s0 L N _ (f123.l0 L N _ n) xs (i : Int) out = _ ∧ _
      unfold f123.s0 f123.s0'
      by_cases hlt : i < xs.length
      · simp only [lt_cast hlt, cond_true]
        obtain ⟨a, ha, hge, hla, e⟩ := l3s1 L N (fun z14 z15 z16 z17 => f123.p1_e2 L N (fun z3 => f123.p0_e0 L N some z3) (f123.l0 L N (fun z3 => f123.p0_e0 L N some z3) n) z14 z15 z16 z17) xs out i hlt (by omega) L out.length (Nat.le_refl _) (by omega) (fun j hj h => absurd hj (by omega))
        have hmem' : ∀ v, v ∈ xs.take (i + 1) ↔ v ∈ xs.take i ∨ v = xs[i] := fun v => by
          rw [List.take_add_one, List.getElem?_eq_getElem hlt]; simp only [Option.toList_some, List.mem_append, List.mem_singleton]
        have hwi : wi ((i : Int) + 1) = ((i + 1 : Nat) : Int) := wi_nat (by omega)
        rw [e]
        have tail : (∀ (h : 0 < a) (hj : a - 1 < out.length), lessM out[a - 1] xs[i] = true) → ∃ ys, f123.j0' L N (fun z3 => f123.p0_e0 L N some z3) (f123.l0 L N (fun z3 => f123.p0_e0 L N some z3) n) (f123.l2 L N (fun z36 z37 z38 z39 => f123.p2_e4 L N (fun z3 => f123.p0_e0 L N some z3) (f123.l0 L N (fun z3 => f123.p0_e0 L N some z3) n) z36 z37 z38 z39) L) xs (i : Int) (a : Int) out = some ys ∧ RisesM ys ∧ (∀ v, v ∈ ys ↔ v ∈ xs) ∧ ys.length ≤ xs.length := by
          intro hlt2
          unfold f123.j0'
          have hle : decide (out.length + ([(Move.mk (0 : Int) (0 : Int))] : (List Move)).length ≤ lim) = true := dt (by simp only [List.length_cons, List.length_nil]; omega)
          rw [hle, cond_true, List.length_append, show ([(Move.mk (0 : Int) (0 : Int))] : List Move).length = 1 from rfl, pred_cast (by omega) (by omega), show out.length + 1 - 1 = out.length by omega]
          obtain ⟨l', q1, q2, q3, e2⟩ := l3s2 L N (fun z36 z37 z38 z39 => f123.p2_e4 L N (fun z3 => f123.p0_e0 L N some z3) (f123.l0 L N (fun z3 => f123.p0_e0 L N some z3) n) z36 z37 z38 z39) xs out (i : Int) a (by omega) L out.length (out ++ [Move.mk 0 0]) (by simp) ha (Nat.le_refl _) (by omega)
            (fun j hj => by rw [List.getElem?_append_left hj]) (fun j hj => by rw [List.getElem?_eq_none (by simp; omega), List.getElem?_eq_none (by omega)])
          rw [e2]
          unfold f123.p2_e4 f123.p2_e4'
          have hal : a < l'.length := by omega
          simp only [le0, lt_cast hlt, lt_cast hal, Bool.and_true, cond_true, Int.toNat_natCast, at_lt hlt, hwi]
          have hset : l'.set a xs[i] = out.take a ++ xs[i] :: out.drop a := by
            apply List.ext_getElem?
            intro j
            rcases Nat.lt_trichotomy j a with h | h | h
            · rw [List.getElem?_set_ne (by omega), q2 j h, List.getElem?_append_left (by rw [List.length_take]; omega), List.getElem?_take, if_pos h]
            · subst h
              rw [List.getElem?_set_self hal, List.getElem?_append_right (by rw [List.length_take]; omega), List.length_take, show j - min j out.length = 0 by omega]
              rfl
            · rw [List.getElem?_set_ne (by omega), q3 j h, List.getElem?_append_right (by rw [List.length_take]; omega), List.length_take, show j - min a out.length = (j - 1 - a) + 1 by omega, List.getElem?_cons_succ, List.getElem?_drop, show a + (j - 1 - a) = j - 1 by omega]
          rw [hset]
          refine ih (i + 1) _ (by omega) (by omega) (by simp only [List.length_append, List.length_cons, List.length_take, List.length_drop]; omega) (ins_rises hr ha hge hlt2) fun v => ?_
          rw [hmem' v, ← hmem v, List.mem_append, List.mem_cons]
          constructor
          · rintro (h | h | h)
            · exact .inl (List.mem_of_mem_take h)
            · exact .inr h
            · exact .inl (List.mem_of_mem_drop h)
          · rintro (h | h)
            · rw [← List.take_append_drop a out, List.mem_append] at h
              rcases h with h | h
              · exact .inl h
              · exact .inr (.inr h)
            · exact .inr (.inl h)
        show ∃ ys, f123.p1_e2' L N _ _ _ xs (i : Int) (a : Int) out = some ys ∧ _
        unfold f123.p1_e2'
        by_cases h0 : 0 < a
        · have ha1 : a - 1 < out.length := by omega
          rw [show decide ((a : Int) > 0) = true from decide_eq_true (by omega)]
          simp only [cond_true, le0, pred_cast h0 (by omega), lt_cast ha1, lt_cast hlt, Bool.and_true, Int.toNat_natCast, at_lt ha1, at_lt hlt, hwi]
          cases hb : Move.eqb out[a - 1] xs[i] with
          | true =>
            simp only [cond_true]
            have he : out[a - 1] = xs[i] := by
              simp only [Move.eqb, Bool.and_eq_true, beq_iff_eq] at hb
              have h1 := hb.1; have h2 := hb.2
              rw [← mv_eta out[a - 1], ← mv_eta xs[i], h1, h2]
            refine ih (i + 1) out (by omega) (by omega) (by omega) hr fun v => ?_
            rw [hmem' v, ← hmem v]
            constructor
            · exact .inl
            · rintro (h | h)
              · exact h
              · rw [h, ← he]; exact List.getElem_mem ha1
          | false =>
            simp only [cond_false]
            refine tail fun h hj => less_tot (hla h hj) fun e => ?_
            rw [e] at hb
            simp [Move.eqb] at hb
        · rw [show decide ((a : Int) > 0) = false from decide_eq_false (by omega)]
          simp only [cond_false]
          exact tail fun h => absurd h h0
      · simp only [ge_cast hlt, cond_false]
        have hi' : i = xs.length := by omega
        subst hi'
        rw [List.take_length] at hmem
        exact ⟨out, rfl, hr, hmem, hlen⟩
  exact key L 0 [] (by omega) (by omega) (Nat.le_refl _) List.Pairwise.nil (fun v => by simp)
end Go.Proofs.Ytdfjdbpklbehoaa.Ev

/-! Plain law of impl.tidy: the one list that rises and bears the same moves. No condition. -/
namespace Go.Proofs.Ytdfjdbpklbehoaa.Ev
open Go
set_option linter.unusedVariables false
set_option linter.unusedSimpArgs false

theorem leM_iff (x y : Move) : leM x y = true ↔ lessM x y = true ∨ x = y := by
  unfold leM lessM
  obtain ⟨a, b⟩ := x
  obtain ⟨c, d⟩ := y
  simp only [decide_eq_true_eq, Move.mk.injEq]
  omega
theorem sortM_le (xs : List Move) : (sortM xs).Pairwise fun a b => leM a b = true := by
  refine List.pairwise_mergeSort (fun a b c h1 h2 => ?_) (fun a b => ?_) xs
  · rw [leM_iff] at *
    rcases h1 with h1 | rfl
    · rcases h2 with h2 | rfl
      · exact .inl (less_trans h1 h2)
      · exact .inl h1
    · exact h2
  · unfold leM
    simp only [Bool.or_eq_true, decide_eq_true_eq]
    omega

theorem getM {zs : List Move} {i : Nat} (h : i < zs.length) : (zs.toArray)[i]! = zs[i] := by simp [getElem!_pos, h]

theorem compact_rises {zs : List Move} (hs : zs.Pairwise fun a b => leM a b = true) : RisesM (Go.Lib.compact zs) := by
  unfold RisesM Go.Lib.compact Go.Lib.compactUpTo
  rw [List.pairwise_map]
  refine List.Pairwise.imp_of_mem ?_ (List.Pairwise.filter _ List.pairwise_lt_range)
  intro i j hi hj hij
  rw [List.mem_filter, List.mem_range] at hi hj
  have hjl := hj.1
  rw [getM hi.1, getM hj.1]
  have hk := hj.2
  unfold Go.Lib.keeps at hk
  have hk := of_decide_eq_true hk
  have hne : zs[j] ≠ zs[j - 1] := by
    rcases hk with h | h
    · omega
    · rwa [getM hj.1, getM (show j - 1 < zs.length by omega)] at h
  have hlast : lessM zs[j - 1] zs[j] = true := by
    rcases (leM_iff _ _).1 (List.pairwise_iff_getElem.1 hs (j - 1) j (by omega) (by omega) (by omega)) with h | h
    · exact h
    · exact absurd h.symm hne
  by_cases e : i = j - 1
  · subst e; exact hlast
  · rcases (leM_iff _ _).1 (List.pairwise_iff_getElem.1 hs i (j - 1) (by omega) (by omega) (by omega)) with h | h
    · exact less_trans h hlast
    · rw [h]; exact hlast
theorem compact_mem (zs : List Move) (v : Move) : v ∈ Go.Lib.compact zs ↔ v ∈ zs := by
  unfold Go.Lib.compact Go.Lib.compactUpTo
  rw [List.mem_map]
  constructor
  · rintro ⟨i, hi, rfl⟩
    rw [List.mem_filter, List.mem_range] at hi
    rw [getM hi.1]; exact List.getElem_mem hi.1
  · intro hv
    obtain ⟨i, hi, rfl⟩ := List.mem_iff_getElem.1 hv
    clear hv
    induction i with
    | zero => exact ⟨0, by rw [List.mem_filter, List.mem_range]; exact ⟨hi, by simp [Go.Lib.keeps]⟩, getM hi⟩
    | succ i ih =>
      by_cases hk : Go.Lib.keeps zs.toArray (i + 1) = true
      · exact ⟨i + 1, by rw [List.mem_filter, List.mem_range]; exact ⟨hi, hk⟩, getM hi⟩
      · have : zs[i + 1] = zs[i] := by
          unfold Go.Lib.keeps at hk
          have hk : ¬ (i + 1 = 0 ∨ zs.toArray[i + 1]! ≠ zs.toArray[i + 1 - 1]!) := fun h => hk (decide_eq_true h)
          have h2 := Classical.not_not.1 (fun h => hk (.inr h))
          rw [getM hi, Nat.add_sub_cancel, getM (show i < zs.length by omega)] at h2
          exact h2
        rw [this]
        exact ih (by omega)
theorem tidyM_rises (xs : List Move) : RisesM (tidyM xs) := compact_rises (sortM_le xs)
theorem tidyM_mem (xs : List Move) (v : Move) : v ∈ tidyM xs ↔ v ∈ xs := (compact_mem _ v).trans (sortM_mem xs v)
theorem fsortM_some {xs : List Move} (h : xs.length ≤ 1099511627776) : fsortM xs = some () := by
  unfold fsortM; rw [show decide (xs.length ≤ lim) = true from decide_eq_true (by rw [lim_eq]; exact h)]; rfl
end Go.Proofs.Ytdfjdbpklbehoaa.Ev

/-! Plain laws of classes: one round of the answer's (spec.l4Next), and when lists are the same. No conditions but those that each states. -/
namespace Go.Proofs.Ytdfjdbpklbehoaa.Ev
open Go
set_option linter.unusedVariables false
set_option linter.unusedSimpArgs false

/-- q names for each place the first place that is alike to it -/
def NextE (E : Nat → Nat → Prop) (n : Nat) (q : List Int) : Prop := q.length = n ∧ ∀ (i : Nat) (hi : i < q.length), ∃ j : Nat, q[i] = (j : Int) ∧ j ≤ i ∧ E j i ∧ ∀ j', j' < j → ¬ E j' i
theorem NextE.uniq {E : Nat → Nat → Prop} {n : Nat} {q q' : List Int} (h : NextE E n q) (h' : NextE E n q') : q = q' := by
  apply List.ext_getElem
  · rw [h.1, h'.1]
  · intro i h1 h2
    obtain ⟨j, a1, a2, a3, a4⟩ := h.2 i h1
    obtain ⟨k, b1, b2, b3, b4⟩ := h'.2 i h2
    have : j = k := by
      rcases Nat.lt_trichotomy j k with h | h | h
      · exact absurd a3 (b4 j h)
      · exact h
      · exact absurd b3 (a4 k h)
    rw [a1, b1, this]
theorem NextE.congr {E F : Nat → Nat → Prop} {n : Nat} {q : List Int} (h : NextE E n q) (he : ∀ i j, j ≤ i → i < n → (E j i ↔ F j i)) : NextE F n q :=
  ⟨h.1, fun i hi => by
    obtain ⟨j, a1, a2, a3, a4⟩ := h.2 i hi
    have hn : i < n := by rw [← h.1]; exact hi
    exact ⟨j, a1, a2, (he i j a2 hn).1 a3, fun j' hj' hf => a4 j' hj' ((he i j' (by omega) hn).2 hf)⟩⟩

/-- a list of classes: each place names one that is not behind it -/
def Low (p : List Int) : Prop := ∀ (i : Nat) (hi : i < p.length), 0 ≤ p[i] ∧ p[i] ≤ (i : Int)
theorem low_zero (n : Nat) : Low (List.replicate n (0 : Int)) := fun i hi => by rw [List.getElem_replicate]; omega
theorem NextE.low {E : Nat → Nat → Prop} {n : Nat} {q : List Int} (h : NextE E n q) : Low q := fun i hi => by
  obtain ⟨j, a1, a2, -⟩ := h.2 i hi
  rw [a1]; omega
/-- the classes grow finer -/
theorem NextE.ge {E : Nat → Nat → Prop} {n : Nat} {p q : List Int} (h : NextE E n q) (hp : p.length = n) (hl : Low p) (hE : ∀ j i, E j i → p.getD j 0 = p.getD i 0) : ∀ (i : Nat) (h1 : i < p.length) (h2 : i < q.length), p[i] ≤ q[i] := fun i h1 h2 => by
  obtain ⟨j, a1, a2, a3, -⟩ := h.2 i h2
  have e := hE j i a3
  have hj : j < p.length := by omega
  rw [getD_lt h1, getD_lt hj] at e
  have := (hl j hj).2
  rw [a1]; omega
def wgt (p : List Int) : Nat := (p.map Int.toNat).sum
theorem wgt_lt : ∀ {p q : List Int}, p.length = q.length → (∀ (i : Nat) (h1 : i < p.length) (h2 : i < q.length), 0 ≤ p[i] ∧ p[i] ≤ q[i]) → p ≠ q → wgt p < wgt q
  | [], [], _, _, h => absurd rfl h
  | [], _ :: _, h, _, _ => by simp at h
  | _ :: _, [], h, _, _ => by simp at h
  | a :: p, b :: q, hl, hle, hne => by
    have h0 := hle 0 (by simp) (by simp)
    have hl' : p.length = q.length := by simpa using hl
    have htl : ∀ (i : Nat) (h1 : i < p.length) (h2 : i < q.length), 0 ≤ p[i] ∧ p[i] ≤ q[i] := fun i h1 h2 => hle (i + 1) (by simp; omega) (by simp; omega)
    simp only [List.getElem_cons_zero] at h0
    unfold wgt
    rw [List.map_cons, List.map_cons, List.sum_cons, List.sum_cons]
    by_cases e : a = b
    · subst e
      have := wgt_lt hl' htl (fun e => hne (by rw [e]))
      unfold wgt at this
      omega
    · by_cases e2 : p = q
      · subst e2; omega
      · have := wgt_lt hl' htl e2
        unfold wgt at this
        omega
theorem wgt_le : ∀ {p : List Int} {B : Nat}, (∀ x ∈ p, x ≤ (B : Int)) → wgt p ≤ p.length * B
  | [], _, _ => by simp [wgt]
  | a :: p, B, h => by
    have h1 := h a (.head _)
    have h2 := wgt_le (p := p) (B := B) fun x hx => h x (.tail _ hx)
    unfold wgt at h2 ⊢
    rw [List.map_cons, List.sum_cons, List.length_cons, Nat.add_mul, Nat.one_mul]
    omega

/-- what a state does, up to classes -/
def Sig (ms : List (List Move)) (p : List Int) (i : Nat) (m : Move) : Prop := ∃ (h : i < ms.length) (k : Nat) (hk : k < (ms[i]).length), m.act = (ms[i])[k].act ∧ m.to = p.getD (ms[i])[k].to.toNat 0
def Akin (ms : List (List Move)) (p : List Int) (j i : Nat) : Prop := p.getD j 0 = p.getD i 0 ∧ ∀ m, Sig ms p i m ↔ Sig ms p j m
theorem Akin.refl (ms : List (List Move)) (p : List Int) (i : Nat) : Akin ms p i i := ⟨rfl, fun _ => Iff.rfl⟩

theorem l4Same_ok (L N : Nat) (a b : List Int) (hL : a.length < L) (hl : a.length ≤ 1048576) : ∃ r, f116 L N a b = some r ∧ (r = true ↔ a = b) := by
  show ∃ r, f116.b L N some a b = some r ∧ _
  unfold f116.b f116.b'
  by_cases he : a.length = b.length
  · have : ((a.length : Int) != (b.length : Int)) = false := by simp [he]
    rw [this, cond_false]
    have key : ∀ (n i : Nat), i ≤ a.length → a.length - i < n → (∀ j (h1 : j < a.length) (h2 : j < b.length), j < i → a[j] = b[j]) →
        ∃ r, f116.l0 L N (f116.p0_e0 L N some) (fun z3 => f116.p0_r L N some z3) n a b (i : Int) = some r ∧ (r = true ↔ a = b) := by
      intro n
      induction n with
      | zero => intro i _ h; omega
      | succ n ih =>
        intro i hi hn hs
        show ∃ r, f116.s0 L N _ _ (f116.l0 L N _ _ n) a b (i : Int) = some r ∧ _
        unfold f116.s0 f116.s0'
        by_cases hlt : i < a.length
        · have hlt' : i < b.length := by omega
          simp only [le0, lt_cast hlt, lt_cast hlt', Bool.and_true, cond_true, Int.toNat_natCast, at_lt hlt, at_lt hlt']
          by_cases h1 : a[i] = b[i]
          · rw [show (a[i] != b[i]) = false by simpa using h1, cond_false, wi_nat (by omega)]
            refine ih (i + 1) (by omega) (by omega) fun j h2 h3 h4 => ?_
            by_cases e : j = i
            · subst e; exact h1
            · exact hs j h2 h3 (by omega)
          · rw [show (a[i] != b[i]) = true by simpa using h1, cond_true]
            refine ⟨false, rfl, ?_⟩
            simp only [Bool.false_eq_true, false_iff]
            intro e
            subst e
            exact h1 rfl
        · simp only [ge_cast hlt, cond_false]
          refine ⟨true, rfl, ?_⟩
          simp only [true_iff]
          exact List.ext_getElem he fun j h1 h2 => hs j h1 h2 (by omega)
    exact key L 0 (by omega) (by omega) (fun _ _ _ h => by omega)
  · have : ((a.length : Int) != (b.length : Int)) = true := by simp; omega
    rw [this, cond_true]
    refine ⟨false, rfl, ?_⟩
    simp only [Bool.false_eq_true, false_iff]
    intro e
    exact he (by rw [e])
theorem equalI_ok (L N : Nat) (a b : List Int) (hL : a.length < L) (hl : a.length ≤ 1048576) : ∃ r, f119 L N a b = some r ∧ (r = true ↔ a = b) := by
  show ∃ r, f119.b L N some a b = some r ∧ _
  unfold f119.b f119.b'
  by_cases he : a.length = b.length
  · have : ((a.length : Int) != (b.length : Int)) = false := by simp [he]
    rw [this, cond_false]
    have key : ∀ (n i : Nat), i ≤ a.length → a.length - i < n → (∀ j (h1 : j < a.length) (h2 : j < b.length), j < i → a[j] = b[j]) →
        ∃ r, f119.l0 L N (f119.p0_e0 L N some) (fun z3 => f119.p0_r L N some z3) n a b (a.length : Int) (i : Int) = some r ∧ (r = true ↔ a = b) := by
      intro n
      induction n with
      | zero => intro i _ h; omega
      | succ n ih =>
        intro i hi hn hs
        show ∃ r, f119.s0 L N _ _ (f119.l0 L N _ _ n) a b (a.length : Int) (i : Int) = some r ∧ _
        unfold f119.s0 f119.s0'
        by_cases hlt : i < a.length
        · have hlt' : i < b.length := by omega
          simp only [le0, lt_cast hlt, lt_cast hlt', Bool.and_true, cond_true, Int.toNat_natCast, at_lt hlt, at_lt hlt']
          by_cases h1 : a[i] = b[i]
          · rw [show (a[i] != b[i]) = false by simpa using h1, cond_false, wi_nat (by omega)]
            refine ih (i + 1) (by omega) (by omega) fun j h2 h3 h4 => ?_
            by_cases e : j = i
            · subst e; exact h1
            · exact hs j h2 h3 (by omega)
          · rw [show (a[i] != b[i]) = true by simpa using h1, cond_true]
            refine ⟨false, rfl, ?_⟩
            simp only [Bool.false_eq_true, false_iff]
            intro e
            subst e
            exact h1 rfl
        · simp only [ge_cast hlt, cond_false]
          refine ⟨true, rfl, ?_⟩
          simp only [true_iff]
          exact List.ext_getElem he fun j h1 h2 => hs j h1 h2 (by omega)
    exact key L 0 (by omega) (by omega) (fun _ _ _ h => by omega)
  · have : ((a.length : Int) != (b.length : Int)) = true := by simp; omega
    rw [this, cond_true]
    refine ⟨false, rfl, ?_⟩
    simp only [Bool.false_eq_true, false_iff]
    intro e
    exact he (by rw [e])
end Go.Proofs.Ytdfjdbpklbehoaa.Ev

/-! Plain laws of classes: impl.refine and impl.rounds with the keys of impl.BranchClasses$1. No conditions but those that each states. -/
namespace Go.Proofs.Ytdfjdbpklbehoaa.Ev
open Go
set_option linter.unusedVariables false
set_option linter.unusedSimpArgs false

theorem equalMB_ok (L N : Nat) (a b : List Move) (hL : a.length < L) (hl : a.length ≤ 1099511627776) : ∃ r, f142 L N a b = some r ∧ (r = true ↔ a = b) := by
  show ∃ r, f142.b L N some a b = some r ∧ _
  unfold f142.b f142.b'
  have eqb : ∀ x y : Move, Move.eqb x y = true ↔ x = y := fun x y => by
    constructor
    · intro h
      simp only [Move.eqb, Bool.and_eq_true, beq_iff_eq] at h
      rw [← mv_eta x, ← mv_eta y, h.1, h.2]
    · rintro rfl; simp [Move.eqb]
  by_cases he : a.length = b.length
  · have : ((a.length : Int) != (b.length : Int)) = false := by simp [he]
    rw [this, cond_false]
    have key : ∀ (n i : Nat), i ≤ a.length → a.length - i < n → (∀ j (h1 : j < a.length) (h2 : j < b.length), j < i → a[j] = b[j]) →
        ∃ r, f142.l0 L N (f142.p0_e0 L N some) (fun z4 => f142.p0_r L N some z4) n a b (a.length : Int) (i : Int) = some r ∧ (r = true ↔ a = b) := by
      intro n
      induction n with
      | zero => intro i _ h; omega
      | succ n ih =>
        intro i hi hn hs
        show ∃ r, f142.s0 L N _ _ (f142.l0 L N _ _ n) a b (a.length : Int) (i : Int) = some r ∧ _
        unfold f142.s0 f142.s0'
        by_cases hlt : i < a.length
        · have hlt' : i < b.length := by omega
          simp only [le0, lt_cast hlt, lt_cast hlt', Bool.and_true, cond_true, Int.toNat_natCast, at_lt hlt, at_lt hlt']
          cases h0 : Move.eqb a[i] b[i] with
          | true =>
            have h1 := (eqb _ _).1 h0
            rw [Bool.not_true, cond_false, wi_nat (by omega)]
            refine ih (i + 1) (by omega) (by omega) fun j h2 h3 h4 => ?_
            by_cases e : j = i
            · subst e; exact h1
            · exact hs j h2 h3 (by omega)
          | false =>
            rw [Bool.not_false, cond_true]
            refine ⟨false, rfl, ?_⟩
            simp only [Bool.false_eq_true, false_iff]
            intro e
            subst e
            rw [(eqb _ _).2 rfl] at h0; cases h0
        · simp only [ge_cast hlt, cond_false]
          refine ⟨true, rfl, ?_⟩
          simp only [true_iff]
          exact List.ext_getElem he fun j h1 h2 => hs j h1 h2 (by omega)
    exact key L 0 (by omega) (by omega) (fun _ _ _ h => by omega)
  · have : ((a.length : Int) != (b.length : Int)) = true := by simp; omega
    rw [this, cond_true]
    refine ⟨false, rfl, ?_⟩
    simp only [Bool.false_eq_true, false_iff]
    intro e
    exact he (by rw [e])

/-- a round, out of what the keys are -/
theorem refineB_ok (L N : Nat) (ms : List (List Move)) (hn60 : ms.length ≤ 60) (hL : 8589934592 ≤ L) (p : List Int) (hp : p.length = ms.length) (key : Nat → List Move) (hkl : ∀ i, (key i).length ≤ 3774873660)
    (hkey : ∀ i, i < ms.length → f118_1 L N (i : Int) ms p = some (key i)) :
    ∃ q, f117_1 L N p ms p = some q ∧ NextE (fun j i => p.getD j 0 = p.getD i 0 ∧ key j = key i) ms.length q := by
  have hlim := lim_eq
  have inner : ∀ {R : Type} (K : List Int → List (List Move) → List Int → Int → Int → List Int → List (List Move) → Option R) (i : Nat) (hi : i < ms.length) (out : List Int) (keys : List (List Move)), out.length = ms.length → keys.length = ms.length → (∀ j, j ≤ i → keys.getD j [] = key j) → ∀ (n j : Nat), j ≤ i → i - j < n → (∀ j', j' < j → ¬ (p.getD j' 0 = p.getD i 0 ∧ key j' = key i)) → out.getD i 0 = (i : Int) →
      ∃ (b : Nat) (out' : List Int), b ≤ i ∧ (p.getD b 0 = p.getD i 0 ∧ key b = key i) ∧ (∀ j', j' < b → ¬ (p.getD j' 0 = p.getD i 0 ∧ key j' = key i)) ∧ out' = out.set i (b : Int) ∧ f117_1.l1 L N K n p ms p (i : Int) (j : Int) (ms.length : Int) (i : Int) out keys = K p ms p (ms.length : Int) (i : Int) out' keys := by
    intro R K i hi out keys ho hk hks n
    induction n with
    | zero => intro j _ h; omega
    | succ n ih =>
      intro j hj hn hno hoi
      show ∃ (b : Nat) (out' : List Int), _ ∧ _ ∧ _ ∧ _ ∧ f117_1.s1 L N _ (f117_1.l1 L N _ n) p ms p (i : Int) (j : Int) (ms.length : Int) (i : Int) out keys = _
      unfold f117_1.s1 f117_1.s1'
      by_cases hlt : j < i
      · have hjp : j < p.length := by omega
        have hip : i < p.length := by omega
        have hjk : j < keys.length := by omega
        have hik : i < keys.length := by omega
        have hio : i < out.length := by omega
        simp only [lt_cast hlt, le0, lt_cast hjp, lt_cast hip, lt_cast hjk, lt_cast hik, Bool.and_true, cond_true, Int.toNat_natCast, atD, hks j (by omega), hks i (by omega)]
        have stay : ¬ (p.getD j 0 = p.getD i 0 ∧ key j = key i) → ∃ (b : Nat) (out' : List Int), b ≤ i ∧ (p.getD b 0 = p.getD i 0 ∧ key b = key i) ∧ (∀ j', j' < b → ¬ (p.getD j' 0 = p.getD i 0 ∧ key j' = key i)) ∧ out' = out.set i (b : Int) ∧ f117_1.l1 L N K n p ms p (i : Int) (wi ((j : Int) + 1)) (ms.length : Int) (i : Int) out keys = K p ms p (ms.length : Int) (i : Int) out' keys := fun hne => by
          rw [wi_nat (by omega)]
          refine ih (j + 1) (by omega) (by omega) (fun j' h => ?_) hoi
          by_cases e : j' = j
          · subst e; exact hne
          · exact hno j' (by omega)
        by_cases h1 : p.getD j 0 = p.getD i 0
        · obtain ⟨r, e1, f1⟩ := equalMB_ok L N (key j) (key i) (by have := hkl j; omega) (by have := hkl j; omega)
          rw [show (p.getD j 0 == p.getD i 0) = true by simpa using h1, cond_true, e1, Option.bind_some]
          unfold f117_1.j0'
          cases r with
          | true =>
            simp only [cond_true, le0, lt_cast hio, Bool.and_true, Int.toNat_natCast]
            exact ⟨j, _, by omega, ⟨h1, f1.1 rfl⟩, hno, rfl, rfl⟩
          | false =>
            rw [cond_false]
            exact stay fun h => absurd (f1.2 h.2) (by simp)
        · rw [show (p.getD j 0 == p.getD i 0) = false by simpa using h1, cond_false]
          unfold f117_1.j0'
          rw [cond_false]
          exact stay fun h => h1 h.1
      · have hji : j = i := by omega
        subst hji
        simp only [ge_cast (Nat.lt_irrefl _), cond_false]
        refine ⟨j, _, Nat.le_refl _, ⟨rfl, rfl⟩, hno, rfl, ?_⟩
        have hio : j < out.length := by omega
        rw [getD_lt hio] at hoi
        rw [← hoi, List.set_getElem_self]
  show ∃ q, f117_1.b L N some p ms p = some q ∧ _
  unfold f117_1.b f117_1.b'
  have h0 : decide ((ms.length : Int) ≤ (lim : Int)) = true := dt (by omega)
  have e0 : ((ms.length : Int)).toNat = ms.length := rfl
  simp only [hp, le0, h0, Bool.and_true, cond_true, e0]
  have key0 : ∀ (n i : Nat) (out : List Int) (keys : List (List Move)), out.length = ms.length → keys.length = ms.length → i ≤ ms.length → ms.length - i < n → (∀ j, j < i → keys.getD j [] = key j) → (∀ i', i' < i → ∃ j : Nat, out.getD i' 0 = (j : Int) ∧ j ≤ i' ∧ (p.getD j 0 = p.getD i' 0 ∧ key j = key i') ∧ ∀ j', j' < j → ¬ (p.getD j' 0 = p.getD i' 0 ∧ key j' = key i')) →
      ∃ q, f117_1.l0 L N (fun z7 => f117_1.p0_e0 L N some z7) n p ms p (ms.length : Int) (i : Int) out keys = some q ∧ NextE (fun j i => p.getD j 0 = p.getD i 0 ∧ key j = key i) ms.length q := by
    intro n
    induction n with
    | zero => intro i out keys _ _ _ h; omega
    | succ n ih =>
      intro i out keys ho hk hi hn hks hout
      show ∃ q, f117_1.s0 L N _ (f117_1.l0 L N _ n) p ms p (ms.length : Int) (i : Int) out keys = some q ∧ _
      unfold f117_1.s0 f117_1.s0'
      by_cases hlt : i < ms.length
      · have hio : i < out.length := by omega
        have hik : i < keys.length := by omega
        simp only [lt_cast hlt, cond_true, hkey i hlt, Option.bind_some, le0, lt_cast hio, lt_cast hik, Bool.and_true, Int.toNat_natCast]
        have hks' : ∀ j, j ≤ i → (keys.set i (key i)).getD j [] = key j := fun j hj => by
          by_cases e : j = i
          · subst e; rw [getD_lt (by simpa using hik), List.getElem_set_self]
          · rw [List.getD, List.getElem?_set_ne (by omega), ← List.getD]; exact hks j (by omega)
        obtain ⟨b, out', q1, q2, q3, q4, e⟩ := inner (fun z18 z19 z20 z21 z22 z23 z24 => f117_1.p1_e2 L N (fun z7 => f117_1.p0_e0 L N some z7) (f117_1.l0 L N (fun z7 => f117_1.p0_e0 L N some z7) n) z18 z19 z20 z21 z22 z23 z24) i hlt (out.set i (i : Int)) (keys.set i (key i)) (by simp [ho]) (by simp [hk]) hks' L 0 (by omega) (by omega) (fun j' h => by omega) (by rw [getD_lt (by simpa using hio), List.getElem_set_self])
        refine (show ∃ q, _ = some q ∧ _ from ?_)
        have e' : f117_1.l1 L N (fun z18 z19 z20 z21 z22 z23 z24 => f117_1.p1_e2 L N (fun z7 => f117_1.p0_e0 L N some z7) (f117_1.l0 L N (fun z7 => f117_1.p0_e0 L N some z7) n) z18 z19 z20 z21 z22 z23 z24) L p ms p (i : Int) (0 : Int) (ms.length : Int) (i : Int) (out.set i (i : Int)) (keys.set i (key i)) = _ := e
        rw [e']
        show ∃ q, f117_1.p1_e2' L N _ _ p ms p (ms.length : Int) (i : Int) out' (keys.set i (key i)) = some q ∧ _
        unfold f117_1.p1_e2'
        rw [wi_nat (by omega)]
        have hset : (out.set i (i : Int)).set i (b : Int) = out.set i (b : Int) := by rw [List.set_set]
        refine ih (i + 1) out' _ (by rw [q4]; simp [ho]) (by simp [hk]) (by omega) (by omega) (fun j hj => hks' j (by omega)) fun i' hi' => ?_
        rw [q4, hset]
        by_cases e : i' = i
        · subst e
          exact ⟨b, by rw [getD_lt (by simpa using hio), List.getElem_set_self], q1, q2, q3⟩
        · obtain ⟨j, r1, r2⟩ := hout i' (by omega)
          exact ⟨j, by rw [List.getD, List.getElem?_set_ne (by omega), ← List.getD]; exact r1, r2⟩
      · simp only [ge_cast hlt, cond_false]
        have hi' : i = ms.length := by omega
        subst hi'
        refine ⟨out, rfl, ho, fun i hi => ?_⟩
        obtain ⟨j, r1, r2⟩ := hout i (by omega)
        rw [getD_lt hi] at r1
        exact ⟨j, r1, r2⟩
  exact key0 L 0 (List.replicate ms.length (0 : Int)) (List.replicate ms.length ([] : List Move)) List.length_replicate List.length_replicate (by omega) (by omega) (fun j h => by omega) (fun i' h => by omega)
end Go.Proofs.Ytdfjdbpklbehoaa.Ev

/-! Plain laws of branching marks: spec.l5Mark and impl.branchMark go the same way. No conditions but those that each states. -/
namespace Go.Proofs.Ytdfjdbpklbehoaa.Ev
open Go
set_option linter.unusedVariables false
set_option linter.unusedSimpArgs false

/-- one move of a state that was reached from s -/
def bStep (p : List Int) (s : Nat) (st : List Int × List Move) (m : Move) : List Int × List Move :=
  if m.act = 0 ∧ p.getD m.to.toNat 0 = p.getD s 0 then (if m.to ∈ st.1 then st else (st.1 ++ [m.to], st.2)) else (st.1, st.2 ++ [Move.mk m.act (p.getD m.to.toNat 0)])
def bRow (p : List Int) (s : Nat) (row : List Move) (st : List Int × List Move) : List Int × List Move := row.foldl (bStep p s) st
def bLoop (ms : List (List Move)) (p : List Int) (s : Nat) : Nat → Nat → List Int × List Move → List Move
  | 0, _, st => st.2
  | n + 1, k, st => if k < st.1.length then bLoop ms p s n (k + 1) (bRow p s (ms.getD (st.1.getD k 0).toNat []) st) else st.2
/-- what is marked from s -/
def bOut (ms : List (List Move)) (p : List Int) (s : Nat) : List Move := bLoop ms p s 62 0 ([(s : Int)], [])

theorem bRow_cons (p : List Int) (s : Nat) (row : List Move) (k : Nat) (hk : k < row.length) (st : List Int × List Move) : bRow p s (row.drop k) st = bRow p s (row.drop (k + 1)) (bStep p s st row[k]) := by
  unfold bRow; rw [List.drop_eq_getElem_cons hk, List.foldl_cons]
theorem bRow_nil (p : List Int) (s : Nat) (row : List Move) (k : Nat) (hk : ¬ k < row.length) (st : List Int × List Move) : bRow p s (row.drop k) st = st := by
  unfold bRow; rw [List.drop_eq_nil_of_le (by omega), List.foldl_nil]

theorem qok_mem {ms : List (List Move)} {seen : List Bool} {q : List Int} (h : QOk ms seen q) {t : Nat} (ht : t < ms.length) : seen.getD t false = decide ((t : Int) ∈ q) := by
  rw [Bool.eq_iff_iff, decide_eq_true_iff]
  constructor
  · intro hT; exact h.2.2.1 t hT
  · intro hq
    obtain ⟨t', h1, h2⟩ := h.2.1 _ hq
    obtain rfl : t = t' := by omega
    exact h2

theorem bspec1 {R : Type} (L N : Nat) (K : Int → List Int → Int → List (List Move) → List Int → List Bool → List Move → Option R) (ms : List (List Move)) (hm : Leads ms) (p : List Int) (hp : p.length = ms.length) (s : Nat) (hs : s < ms.length) (k : Int) (v : Nat) (hv : v < ms.length) :
    ∀ (n i : Nat) (q : List Int) (seen : List Bool) (out : List Move), i ≤ (ms[v]).length → (ms[v]).length - i < n → QOk ms seen q → out.length + ((ms[v]).length - i) ≤ 62914560 →
      ∃ seen', QOk ms seen' (bRow p s ((ms[v]).drop i) (q, out)).1 ∧ (bRow p s ((ms[v]).drop i) (q, out)).2.length ≤ out.length + ((ms[v]).length - i) ∧ q.length ≤ (bRow p s ((ms[v]).drop i) (q, out)).1.length ∧
        f115.l1 L N K n (s : Int) p k ms[v] (i : Int) ms q seen out = K (s : Int) p k ms (bRow p s ((ms[v]).drop i) (q, out)).1 seen' (bRow p s ((ms[v]).drop i) (q, out)).2 := by
  have hlim := lim_eq
  have hn60 := hm.1
  have hrow := (hm.2 v hv).1
  intro n
  induction n with
  | zero => intro i q seen out _ h; omega
  | succ n ih =>
    intro i q seen out hi hn hq ho
    show ∃ seen', _ ∧ _ ∧ _ ∧ f115.s1 L N _ (f115.l1 L N _ n) (s : Int) p k ms[v] (i : Int) ms q seen out = _
    unfold f115.s1 f115.s1'
    by_cases hlt : i < (ms[v]).length
    · obtain ⟨t, ht, htl⟩ := hm.nat hv hlt
      rw [bRow_cons p s ms[v] i hlt]
      generalize hmv : (ms[v])[i] = m at ht
      have htp : t < p.length := by omega
      have hsp : s < p.length := by omega
      have hsl := hq.1
      have hts : t < seen.length := by omega
      have hql := hq.len
      have hst : m.to.toNat = t := by rw [ht, Int.toNat_natCast]
      simp only [lt_cast hlt, le0, Bool.and_true, Bool.true_and, cond_true, Int.toNat_natCast, at_lt hlt, hmv, ht, lt_cast htp, lt_cast hsp, atD]
      have hw : wi ((i : Int) + 1) = ((i + 1 : Nat) : Int) := wi_nat (by omega)
      have lay : ¬ (m.act = 0 ∧ p.getD t 0 = p.getD s 0) → ∃ seen', QOk ms seen' (bRow p s ((ms[v]).drop (i + 1)) (bStep p s (q, out) m)).1 ∧ (bRow p s ((ms[v]).drop (i + 1)) (bStep p s (q, out) m)).2.length ≤ out.length + ((ms[v]).length - i) ∧ q.length ≤ (bRow p s ((ms[v]).drop (i + 1)) (bStep p s (q, out) m)).1.length ∧
          f115.l1 L N K n (s : Int) p k ms[v] ((i + 1 : Nat) : Int) ms q seen (out ++ [Move.mk m.act (p.getD t 0)]) = K (s : Int) p k ms (bRow p s ((ms[v]).drop (i + 1)) (bStep p s (q, out) m)).1 seen' (bRow p s ((ms[v]).drop (i + 1)) (bStep p s (q, out) m)).2 := fun hno => by
        have he : bStep p s (q, out) m = (q, out ++ [Move.mk m.act (p.getD t 0)]) := by unfold bStep; rw [hst, if_neg hno]
        rw [he]
        obtain ⟨seen', a1, a2, a3, a4⟩ := ih (i + 1) q seen (out ++ [Move.mk m.act (p.getD t 0)]) (by omega) (by omega) hq (by simp only [List.length_append, List.length_cons, List.length_nil]; omega)
        refine ⟨seen', a1, ?_, a3, a4⟩
        simp only [List.length_append, List.length_cons, List.length_nil] at a2
        omega
      have hle : decide (out.length + ([(Move.mk m.act (p.getD t 0))] : (List Move)).length ≤ lim) = true := dt (by simp only [List.length_cons, List.length_nil]; omega)
      by_cases ha : m.act = 0
      · rw [show (m.act == 0) = true by simpa using ha, cond_true]
        by_cases hc : p.getD t 0 = p.getD s 0
        · rw [show (p.getD t 0 == p.getD s 0) = true by simpa using hc]
          unfold f115.j2'
          rw [Bool.not_true, cond_false]
          unfold f115.j1'
          simp only [cond_true, le0, lt_cast hts, Bool.and_true, Int.toNat_natCast, atD, qok_mem hq htl]
          unfold f115.j0'
          by_cases hmem : (t : Int) ∈ q
          · have he : bStep p s (q, out) m = (q, out) := by unfold bStep; rw [hst, if_pos ⟨ha, hc⟩, ht, if_pos hmem]
            rw [he, dt hmem, Bool.not_true, cond_false, hw]
            obtain ⟨seen', a1, a2, a3, a4⟩ := ih (i + 1) q seen out (by omega) (by omega) hq (by omega)
            exact ⟨seen', a1, by omega, a3, a4⟩
          · have he : bStep p s (q, out) m = (q ++ [(t : Int)], out) := by unfold bStep; rw [hst, if_pos ⟨ha, hc⟩, ht, if_neg hmem]
            have hle2 : decide (q.length + ([(t : Int)] : (List Int)).length ≤ lim) = true := dt (by simp only [List.length_cons, List.length_nil]; omega)
            rw [he, df hmem, Bool.not_false, cond_true]
            simp only [le0, lt_cast hts, Bool.and_true, cond_true, Int.toNat_natCast, hle2, hw]
            have hf : seen.getD t false = false := by rw [qok_mem hq htl]; exact df hmem
            obtain ⟨seen', a1, a2, a3, a4⟩ := ih (i + 1) (q ++ [(t : Int)]) (seen.set t true) out (by omega) (by omega) (hq.add htl hf) (by omega)
            refine ⟨seen', a1, by omega, ?_, a4⟩
            simp only [List.length_append, List.length_cons, List.length_nil] at a3
            omega
        · rw [show (p.getD t 0 == p.getD s 0) = false by simpa using hc]
          unfold f115.j2'
          simp only [Bool.not_false, cond_true, le0, lt_cast htp, Bool.and_true, Int.toNat_natCast, atD, hle]
          unfold f115.j1'
          simp only [cond_false]
          unfold f115.j0'
          rw [cond_false, hw]
          exact lay fun h => hc h.2
      · rw [show (m.act == 0) = false by simpa using ha, cond_false]
        unfold f115.j2'
        simp only [Bool.not_false, cond_true, le0, lt_cast htp, Bool.and_true, Int.toNat_natCast, atD, hle]
        unfold f115.j1'
        simp only [cond_false]
        unfold f115.j0'
        rw [cond_false, hw]
        exact lay fun h => ha h.1
    · rw [bRow_nil p s ms[v] i hlt]
      simp only [ge_cast hlt, cond_false]
      exact ⟨seen, hq, by simp, Nat.le_refl _, rfl⟩

theorem l5Mark_ok (L N : Nat) (ms : List (List Move)) (hm : Leads ms) (hL : 8589934592 ≤ L) (p : List Int) (hp : p.length = ms.length) (s : Nat) (hs : s < ms.length) :
    ∃ ys, f115 L N ⟨ms⟩ (s : Int) p = some ys ∧ RisesM ys ∧ (∀ m, m ∈ ys ↔ m ∈ bOut ms p s) ∧ ys.length ≤ 3774873600 ∧ (bOut ms p s).length ≤ 62914560 := by
  have hlim := lim_eq
  have hn60 := hm.1
  show ∃ ys, f115.b L N some ⟨ms⟩ (s : Int) p = some ys ∧ _
  unfold f115.b f115.b'
  have h0 : decide ((ms.length : Int) ≤ (lim : Int)) = true := dt (by omega)
  have e0 : ((ms.length : Int)).toNat = ms.length := rfl
  simp only [hp, le0, h0, Bool.and_true, cond_true, e0, List.length_replicate, lt_cast hs, Int.toNat_natCast]
  have key : ∀ (m n k : Nat) (q : List Int) (seen : List Bool) (out : List Move), k ≤ q.length → ms.length + 1 - k < m → ms.length + 1 - k < n → QOk ms seen q → out.length ≤ k * 1048576 →
      ∃ ys, f115.l0 L N (fun z7 => f115.p0_e0 L N some z7) n (s : Int) p (k : Int) ms q seen out = some ys ∧ RisesM ys ∧ (∀ v, v ∈ ys ↔ v ∈ bLoop ms p s m k (q, out)) ∧ ys.length ≤ 3774873600 ∧ (bLoop ms p s m k (q, out)).length ≤ 62914560 := by
    intro m
    induction m with
    | zero => intro n k q seen out _ h; omega
    | succ m ih =>
      intro n k q seen out hk hmk hnk hq ho
      have hql := hq.len
      obtain ⟨n, rfl⟩ : ∃ n', n = n' + 1 := ⟨n - 1, by omega⟩
      show ∃ ys, f115.s0 L N _ (f115.l0 L N _ n) (s : Int) p (k : Int) ms q seen out = some ys ∧ _
      unfold f115.s0 f115.s0'
      by_cases hlt : k < q.length
      · obtain ⟨v, hvq, hTv⟩ := hq.2.1 _ (List.getElem_mem hlt)
        have hvn : v < ms.length := by have := Tr_lt hTv; rw [hq.1] at this; exact this
        have hrow := (hm.2 v hvn).1
        simp only [lt_cast hlt, le0, Bool.and_true, cond_true, Int.toNat_natCast, at_lt hlt, hvq, lt_cast hvn, at_lt hvn]
        obtain ⟨seen', a1, a2, a3, a4⟩ := bspec1 L N (fun z17 z18 z19 z20 z21 z22 z23 => f115.p1_e2 L N (fun z7 => f115.p0_e0 L N some z7) (f115.l0 L N (fun z7 => f115.p0_e0 L N some z7) n) z17 z18 z19 z20 z21 z22 z23) ms hm p hp s hs (k : Int) v hvn L 0 q seen out (by omega) (by omega) hq (by omega)
        rw [List.drop_zero] at a1 a2 a3 a4
        have a4' : f115.l1 L N (fun z17 z18 z19 z20 z21 z22 z23 => f115.p1_e2 L N (fun z7 => f115.p0_e0 L N some z7) (f115.l0 L N (fun z7 => f115.p0_e0 L N some z7) n) z17 z18 z19 z20 z21 z22 z23) L (s : Int) p (k : Int) ms[v] (0 : Int) ms q seen out = _ := a4
        rw [a4']
        show ∃ ys, f115.l0 L N _ n (s : Int) p (wi ((k : Int) + 1)) ms (bRow p s ms[v] (q, out)).1 seen' (bRow p s ms[v] (q, out)).2 = some ys ∧ _
        have hb : bLoop ms p s (m + 1) k (q, out) = bLoop ms p s m (k + 1) (bRow p s ms[v] (q, out)) := by
          show (if k < q.length then _ else _) = _
          rw [if_pos hlt]
          show bLoop ms p s m (k + 1) (bRow p s (ms.getD (q.getD k 0).toNat []) (q, out)) = _
          rw [getD_lt hlt, hvq, Int.toNat_natCast, getD_lt hvn]
        rw [hb, wi_nat (by omega)]
        exact ih n (k + 1) _ seen' _ (by omega) (by omega) (by omega) a1 (by omega)
      · simp only [ge_cast hlt, cond_false]
        have hb : bLoop ms p s (m + 1) k (q, out) = out := by
          show (if k < q.length then _ else _) = _
          rw [if_neg hlt]
        have hol : out.length ≤ 62914560 := by omega
        rw [hb]
        obtain ⟨ys, q1, q2, q3, q4⟩ := l3Sorted_ok L N out (by omega) (by omega)
        show ∃ ys, f115.p0_e0' L N some out = some ys ∧ _
        unfold f115.p0_e0'
        exact ⟨ys, by rw [q1, Option.bind_some], q2, q3, by omega, hol⟩
  have hQ : QOk ms ((List.replicate ms.length false).set s true) [(s : Int)] := by
    have h : QOk ms (List.replicate ms.length false) [] := ⟨by simp, fun v hv => by simp at hv, fun t h => absurd h (Tr_replicate _ t), by rw [cnt_replicate]; rfl, List.nodup_nil⟩
    exact h.add hs (by rw [List.getD, List.getElem?_replicate]; split <;> rfl)
  exact key 62 L 0 _ _ [] (by simp) (by omega) (by omega) hQ (by simp)

theorem mapI_put (x y : Int) (b : Bool) : ∀ mp : List (Int × Bool), (mapFind i64 .bool y (mapPut i64 .bool x b mp) : Option Bool) = if y = x then some b else (mapFind i64 .bool y mp : Option Bool)
  | [] => by
    show (bif (y == x) then some b else none) = _
    by_cases h : y = x
    · rw [if_pos h, show (y == x) = true by simpa using h, cond_true]
    · rw [if_neg h, show (y == x) = false by simpa using h, cond_false]; rfl
  | e :: r => by
    show mapFind i64 .bool y (bif (x == e.1) then (x, b) :: r else e :: mapPut i64 .bool x b r) = if y = x then some b else (bif (y == e.1) then some e.2 else mapFind i64 .bool y r)
    by_cases h1 : x = e.1
    · rw [show (x == e.1) = true by simpa using h1, cond_true]
      show (bif (y == x) then some b else mapFind i64 .bool y r) = _
      by_cases h : y = x
      · rw [if_pos h, show (y == x) = true by simpa using h, cond_true]
      · rw [if_neg h, show (y == x) = false by simpa using h, cond_false, show (y == e.1) = false by rw [← h1]; simpa using h, cond_false]
    · rw [show (x == e.1) = false by simpa using h1, cond_false]
      show (bif (y == e.1) then some e.2 else mapFind i64 .bool y (mapPut i64 .bool x b r)) = _
      rw [mapI_put x y b r]
      by_cases h : y = x
      · subst h
        rw [if_pos rfl, if_pos rfl, show (y == e.1) = false by simpa using h1, cond_false]
      · rw [if_neg h, if_neg h]

/-- the map tells what lies in the queue -/
def MapOk (ms : List (List Move)) (mp : List (Int × Bool)) (q : List Int) : Prop := (∃ seen, QOk ms seen q) ∧ ∀ t : Nat, t < ms.length → ((mapFind i64 .bool (t : Int) mp : Option Bool).getD false) = decide ((t : Int) ∈ q)
theorem MapOk.add {ms : List (List Move)} {mp : List (Int × Bool)} {q : List Int} (h : MapOk ms mp q) {t : Nat} (ht : t < ms.length) (hf : (t : Int) ∉ q) : MapOk ms (mapPut i64 .bool (t : Int) true mp) (q ++ [(t : Int)]) := by
  obtain ⟨⟨seen, hq⟩, h2⟩ := h
  refine ⟨⟨seen.set t true, hq.add ht (by rw [qok_mem hq ht]; exact df hf)⟩, fun u hu => ?_⟩
  rw [mapI_put]
  by_cases e : (u : Int) = (t : Int)
  · rw [if_pos e, Option.getD_some]
    exact (dt (List.mem_append_right _ (List.mem_singleton.2 e))).symm
  · rw [if_neg e, h2 u hu]
    rw [Bool.eq_iff_iff, decide_eq_true_iff, decide_eq_true_iff, List.mem_append, List.mem_singleton]
    exact ⟨.inl, fun h => h.elim id fun h => absurd h e⟩

theorem bimpl1 {R : Type} (L N : Nat) (K : List Int → Int → Int → List (List Move) → List Move → List (Int × Bool) → List Int → Option R) (ms : List (List Move)) (hm : Leads ms) (p : List Int) (hp : p.length = ms.length) (s : Nat) (hs : s < ms.length) (k : Int) (v : Nat) (hv : v < ms.length) :
    ∀ (n i : Nat) (q : List Int) (mp : List (Int × Bool)) (out : List Move), i ≤ (ms[v]).length → (ms[v]).length - i < n → MapOk ms mp q → out.length + ((ms[v]).length - i) ≤ 62914560 →
      ∃ mp', MapOk ms mp' (bRow p s ((ms[v]).drop i) (q, out)).1 ∧ (bRow p s ((ms[v]).drop i) (q, out)).2.length ≤ out.length + ((ms[v]).length - i) ∧ q.length ≤ (bRow p s ((ms[v]).drop i) (q, out)).1.length ∧
        f83.l1 L N K n p (s : Int) k ms[v] ((ms[v]).length : Int) (i : Int) ms out mp q = K p (s : Int) k ms (bRow p s ((ms[v]).drop i) (q, out)).2 mp' (bRow p s ((ms[v]).drop i) (q, out)).1 := by
  have hlim := lim_eq
  have hn60 := hm.1
  have hrow := (hm.2 v hv).1
  intro n
  induction n with
  | zero => intro i q mp out _ h; omega
  | succ n ih =>
    intro i q mp out hi hn hq ho
    show ∃ mp', _ ∧ _ ∧ _ ∧ f83.s1 L N _ (f83.l1 L N _ n) p (s : Int) k ms[v] ((ms[v]).length : Int) (i : Int) ms out mp q = _
    unfold f83.s1 f83.s1'
    by_cases hlt : i < (ms[v]).length
    · obtain ⟨t, ht, htl⟩ := hm.nat hv hlt
      rw [bRow_cons p s ms[v] i hlt]
      generalize hmv : (ms[v])[i] = m at ht
      have htp : t < p.length := by omega
      have hsp : s < p.length := by omega
      have hql : q.length ≤ ms.length := by obtain ⟨⟨seen, h⟩, -⟩ := hq; exact h.len
      have hst : m.to.toNat = t := by rw [ht, Int.toNat_natCast]
      simp only [lt_cast hlt, le0, Bool.and_true, Bool.true_and, cond_true, Int.toNat_natCast, at_lt hlt, hmv, ht, lt_cast htp, lt_cast hsp, atD]
      have hw : wi ((i : Int) + 1) = ((i + 1 : Nat) : Int) := wi_nat (by omega)
      have hle : decide (out.length + ([(Move.mk m.act (p.getD t 0))] : (List Move)).length ≤ lim) = true := dt (by simp only [List.length_cons, List.length_nil]; omega)
      have lay : ¬ (m.act = 0 ∧ p.getD t 0 = p.getD s 0) → ∃ mp', MapOk ms mp' (bRow p s ((ms[v]).drop (i + 1)) (bStep p s (q, out) m)).1 ∧ (bRow p s ((ms[v]).drop (i + 1)) (bStep p s (q, out) m)).2.length ≤ out.length + ((ms[v]).length - i) ∧ q.length ≤ (bRow p s ((ms[v]).drop (i + 1)) (bStep p s (q, out) m)).1.length ∧
          f83.j0' L N K (f83.l1 L N K n) p (s : Int) k ms[v] ((ms[v]).length : Int) (i : Int) true ms m.act (t : Int) out mp q = K p (s : Int) k ms (bRow p s ((ms[v]).drop (i + 1)) (bStep p s (q, out) m)).2 mp' (bRow p s ((ms[v]).drop (i + 1)) (bStep p s (q, out) m)).1 := fun hno => by
        have he : bStep p s (q, out) m = (q, out ++ [Move.mk m.act (p.getD t 0)]) := by unfold bStep; rw [hst, if_neg hno]
        rw [he]
        unfold f83.j0'
        simp only [cond_true, le0, lt_cast htp, Bool.and_true, Int.toNat_natCast, atD, hle, hw]
        obtain ⟨mp', a1, a2, a3, a4⟩ := ih (i + 1) q mp (out ++ [Move.mk m.act (p.getD t 0)]) (by omega) (by omega) hq (by simp only [List.length_append, List.length_cons, List.length_nil]; omega)
        refine ⟨mp', a1, ?_, a3, a4⟩
        simp only [List.length_append, List.length_cons, List.length_nil] at a2
        omega
      by_cases ha : m.act = 0
      · rw [show (m.act != 0) = false by simpa using ha, cond_false]
        by_cases hc : p.getD t 0 = p.getD s 0
        · rw [show (p.getD t 0 != p.getD s 0) = false by simpa using hc]
          unfold f83.j0'
          have hmf : ((mapFind i64 .bool (t : Int) mp : Option Bool).getD (Ty.dflt .bool)) = decide ((t : Int) ∈ q) := hq.2 t htl
          rw [cond_false]
          by_cases hmem : (t : Int) ∈ q
          · have he : bStep p s (q, out) m = (q, out) := by unfold bStep; rw [hst, if_pos ⟨ha, hc⟩, ht, if_pos hmem]
            rw [dt hmem] at hmf
            have hmf' : (!((mapFind i64 .bool (t : Int) mp).getD (Ty.dflt .bool) : Bool)) = false := by
              show (!((mapFind i64 .bool (t : Int) mp : Option Bool).getD (Ty.dflt .bool))) = false
              rw [hmf]; rfl
            rw [he, hmf', cond_false, hw]
            obtain ⟨mp', a1, a2, a3, a4⟩ := ih (i + 1) q mp out (by omega) (by omega) hq (by omega)
            exact ⟨mp', a1, by omega, a3, a4⟩
          · have he : bStep p s (q, out) m = (q ++ [(t : Int)], out) := by unfold bStep; rw [hst, if_pos ⟨ha, hc⟩, ht, if_neg hmem]
            have hle2 : decide (q.length + ([(t : Int)] : (List Int)).length ≤ lim) = true := dt (by simp only [List.length_cons, List.length_nil]; omega)
            rw [df hmem] at hmf
            have hmf' : (!((mapFind i64 .bool (t : Int) mp).getD (Ty.dflt .bool) : Bool)) = true := by
              show (!((mapFind i64 .bool (t : Int) mp : Option Bool).getD (Ty.dflt .bool))) = true
              rw [hmf]; rfl
            rw [he, hmf', cond_true, hle2, cond_true, hw]
            obtain ⟨mp', a1, a2, a3, a4⟩ := ih (i + 1) (q ++ [(t : Int)]) (mapPut i64 .bool (t : Int) true mp) out (by omega) (by omega) (hq.add htl hmem) (by omega)
            refine ⟨mp', a1, by omega, ?_, a4⟩
            simp only [List.length_append, List.length_cons, List.length_nil] at a3
            omega
        · rw [show (p.getD t 0 != p.getD s 0) = true by simpa using hc]
          exact lay fun h => hc h.2
      · rw [show (m.act != 0) = true by simpa using ha, cond_true]
        exact lay fun h => ha h.1
    · rw [bRow_nil p s ms[v] i hlt]
      simp only [ge_cast hlt, cond_false]
      exact ⟨mp, hq, by simp, Nat.le_refl _, rfl⟩

theorem branchMark_ok (L N : Nat) (ms : List (List Move)) (hm : Leads ms) (hL : 8589934592 ≤ L) (p : List Int) (hp : p.length = ms.length) (s : Nat) (hs : s < ms.length) :
    f83 L N ⟨ms⟩ p (s : Int) = some (tidyM (bOut ms p s)) := by
  have hlim := lim_eq
  have hn60 := hm.1
  show f83.b L N some ⟨ms⟩ p (s : Int) = _
  unfold f83.b f83.b'
  have key : ∀ (m n k : Nat) (q : List Int) (mp : List (Int × Bool)) (out : List Move), k ≤ q.length → ms.length + 1 - k < m → ms.length + 1 - k < n → MapOk ms mp q → out.length ≤ k * 1048576 →
      f83.l0 L N (fun z7 => f83.p0_e0 L N some z7) n p (s : Int) (k : Int) ms out mp q = some (tidyM (bLoop ms p s m k (q, out))) := by
    intro m
    induction m with
    | zero => intro n k q mp out _ h; omega
    | succ m ih =>
      intro n k q mp out hk hmk hnk hq ho
      obtain ⟨⟨seen, hqs⟩, -⟩ := id hq
      have hql := hqs.len
      obtain ⟨n, rfl⟩ : ∃ n', n = n' + 1 := ⟨n - 1, by omega⟩
      show f83.s0 L N _ (f83.l0 L N _ n) p (s : Int) (k : Int) ms out mp q = _
      unfold f83.s0 f83.s0'
      by_cases hlt : k < q.length
      · obtain ⟨v, hvq, hTv⟩ := hqs.2.1 _ (List.getElem_mem hlt)
        have hvn : v < ms.length := by have := Tr_lt hTv; rw [hqs.1] at this; exact this
        have hrow := (hm.2 v hvn).1
        simp only [lt_cast hlt, le0, Bool.and_true, cond_true, Int.toNat_natCast, at_lt hlt, hvq, lt_cast hvn, at_lt hvn]
        obtain ⟨mp', a1, a2, a3, a4⟩ := bimpl1 L N (fun z18 z19 z20 z21 z22 z23 z24 => f83.p1_e2 L N (fun z7 => f83.p0_e0 L N some z7) (f83.l0 L N (fun z7 => f83.p0_e0 L N some z7) n) z18 z19 z20 z21 z22 z23 z24) ms hm p hp s hs (k : Int) v hvn L 0 q mp out (by omega) (by omega) hq (by omega)
        rw [List.drop_zero] at a1 a2 a3 a4
        refine (show _ = _ from a4).trans ?_
        show f83.l0 L N _ n p (s : Int) (wi ((k : Int) + 1)) ms (bRow p s ms[v] (q, out)).2 mp' (bRow p s ms[v] (q, out)).1 = _
        have hb : bLoop ms p s (m + 1) k (q, out) = bLoop ms p s m (k + 1) (bRow p s ms[v] (q, out)) := by
          show (if k < q.length then _ else _) = _
          rw [if_pos hlt]
          show bLoop ms p s m (k + 1) (bRow p s (ms.getD (q.getD k 0).toNat []) (q, out)) = _
          rw [getD_lt hlt, hvq, Int.toNat_natCast, getD_lt hvn]
        rw [hb, wi_nat (by omega)]
        exact ih n (k + 1) _ mp' _ (by omega) (by omega) (by omega) a1 (by omega)
      · simp only [ge_cast hlt, cond_false]
        have hb : bLoop ms p s (m + 1) k (q, out) = out := by
          show (if k < q.length then _ else _) = _
          rw [if_neg hlt]
        rw [hb]
        show f83.p0_e0' L N some out = _
        unfold f83.p0_e0'
        rw [fsortM_some (by omega), Option.bind_some]
  have hM : MapOk ms (mapPut i64 .bool (s : Int) true ([] : List (Int × Bool))) [(s : Int)] := by
    have h : QOk ms (List.replicate ms.length false) [] := ⟨by simp, fun v hv => by simp at hv, fun t h => absurd h (Tr_replicate _ t), by rw [cnt_replicate]; rfl, List.nodup_nil⟩
    have h2 : MapOk ms [] [] := ⟨⟨_, h⟩, fun t _ => rfl⟩
    exact h2.add hs (by simp)
  exact key 62 L 0 _ _ [] (by simp) (by omega) (by omega) hM (by simp)
end Go.Proofs.Ytdfjdbpklbehoaa.Ev

/-! Plain law: the branching classes of both sides; the statement. No conditions but those that each states. -/
namespace Go.Proofs.Ytdfjdbpklbehoaa.Ev
open Go
set_option linter.unusedVariables false
set_option linter.unusedSimpArgs false

def BAkin (ms : List (List Move)) (p : List Int) (j i : Nat) : Prop := p.getD j 0 = p.getD i 0 ∧ tidyM (bOut ms p j) = tidyM (bOut ms p i)

theorem sameMoves_ok (L N : Nat) (a b : List Move) (hL : a.length < L) (hl : a.length ≤ 1099511627776) : ∃ r, f114 L N a b = some r ∧ (r = true ↔ a = b) := by
  show ∃ r, f114.b L N some a b = some r ∧ _
  unfold f114.b f114.b'
  have eqb : ∀ x y : Move, Move.eqb x y = true ↔ x = y := fun x y => by
    constructor
    · intro h
      simp only [Move.eqb, Bool.and_eq_true, beq_iff_eq] at h
      rw [← mv_eta x, ← mv_eta y, h.1, h.2]
    · rintro rfl; simp [Move.eqb]
  by_cases he : a.length = b.length
  · have : ((a.length : Int) != (b.length : Int)) = false := by simp [he]
    rw [this, cond_false]
    have key : ∀ (n i : Nat), i ≤ a.length → a.length - i < n → (∀ j (h1 : j < a.length) (h2 : j < b.length), j < i → a[j] = b[j]) →
        ∃ r, f114.l0 L N (f114.p0_e0 L N some) (fun z3 => f114.p0_r L N some z3) n a b (i : Int) = some r ∧ (r = true ↔ a = b) := by
      intro n
      induction n with
      | zero => intro i _ h; omega
      | succ n ih =>
        intro i hi hn hs
        show ∃ r, f114.s0 L N _ _ (f114.l0 L N _ _ n) a b (i : Int) = some r ∧ _
        unfold f114.s0 f114.s0'
        by_cases hlt : i < a.length
        · have hlt' : i < b.length := by omega
          simp only [le0, lt_cast hlt, lt_cast hlt', Bool.and_true, cond_true, Int.toNat_natCast, at_lt hlt, at_lt hlt']
          cases h0 : Move.eqb a[i] b[i] with
          | true =>
            have h1 := (eqb _ _).1 h0
            rw [Bool.not_true, cond_false, wi_nat (by omega)]
            refine ih (i + 1) (by omega) (by omega) fun j h2 h3 h4 => ?_
            by_cases e : j = i
            · subst e; exact h1
            · exact hs j h2 h3 (by omega)
          | false =>
            rw [Bool.not_false, cond_true]
            refine ⟨false, rfl, ?_⟩
            simp only [Bool.false_eq_true, false_iff]
            intro e
            subst e
            rw [(eqb _ _).2 rfl] at h0; cases h0
        · simp only [ge_cast hlt, cond_false]
          refine ⟨true, rfl, ?_⟩
          simp only [true_iff]
          exact List.ext_getElem he fun j h1 h2 => hs j h1 h2 (by omega)
    exact key L 0 (by omega) (by omega) (fun _ _ _ h => by omega)
  · have : ((a.length : Int) != (b.length : Int)) = true := by simp; omega
    rw [this, cond_true]
    refine ⟨false, rfl, ?_⟩
    simp only [Bool.false_eq_true, false_iff]
    intro e
    exact he (by rw [e])

/-- the answer's test of two states -/
theorem sameMark_ok (L N : Nat) (ms : List (List Move)) (hm : Leads ms) (hL : 8589934592 ≤ L) (p : List Int) (hp : p.length = ms.length) (i j : Nat) (hi : i < ms.length) (hj : j < ms.length) :
    ∃ a b r, f115 L N ⟨ms⟩ (i : Int) p = some a ∧ f115 L N ⟨ms⟩ (j : Int) p = some b ∧ f114 L N a b = some r ∧ (r = true ↔ tidyM (bOut ms p j) = tidyM (bOut ms p i)) := by
  obtain ⟨a, a1, a2, a3, a4, -⟩ := l5Mark_ok L N ms hm hL p hp i hi
  obtain ⟨b, b1, b2, b3, b4, -⟩ := l5Mark_ok L N ms hm hL p hp j hj
  obtain ⟨r, r1, r2⟩ := sameMoves_ok L N a b (by omega) (by omega)
  have ea : a = tidyM (bOut ms p i) := risesM_ext a2 (tidyM_rises _) fun m => (a3 m).trans (tidyM_mem _ m).symm
  have eb : b = tidyM (bOut ms p j) := risesM_ext b2 (tidyM_rises _) fun m => (b3 m).trans (tidyM_mem _ m).symm
  exact ⟨a, b, r, a1, b1, r1, by rw [r2, ea, eb]; exact eq_comm⟩

theorem keyB_ok (L N : Nat) (ms : List (List Move)) (hm : Leads ms) (hL : 8589934592 ≤ L) (p : List Int) (hp : p.length = ms.length) (i : Nat) (hi : i < ms.length) : f118_1 L N (i : Int) ms p = some (tidyM (bOut ms p i)) := by
  have h := branchMark_ok L N ms hm hL p hp i hi
  have h1 : f82_1 L N p (i : Int) ms = some (tidyM (bOut ms p i)) := by
    show f82_1.b' L N some p (i : Int) ms = _
    unfold f82_1.b'
    rw [h, Option.bind_some]
  show f118_1.b' L N some (i : Int) ms p = _
  unfold f118_1.b'
  rw [h1, Option.bind_some]

theorem refineBAkin (L N : Nat) (ms : List (List Move)) (hm : Leads ms) (hL : 8589934592 ≤ L) (p : List Int) (hp : p.length = ms.length) :
    ∃ q, f117_1 L N p ms p = some q ∧ NextE (BAkin ms p) ms.length q := by
  have hn60 := hm.1
  obtain ⟨q, h1, h2⟩ := refineB_ok L N ms hm.1 hL p hp (fun i => if i < ms.length then tidyM (bOut ms p i) else []) (fun i => by
    by_cases h : i < ms.length
    · simp only [h, if_true]
      obtain ⟨_, -, -, -, -, h5⟩ := l5Mark_ok L N ms hm hL p hp i h
      have := tidyM_le (bOut ms p i)
      omega
    · simp only [h, if_false]; simp) (fun i hi => by simp only [hi, if_true]; exact keyB_ok L N ms hm hL p hp i hi)
  refine ⟨q, h1, h2.congr fun i j hj hi => ?_⟩
  have hj' : j < ms.length := by omega
  simp only [hi, hj', if_true]
  exact Iff.rfl

/-- a round of the answer's -/
theorem bnext_ok {R : Type} (L N : Nat) (K : List (List Move) → List Int → List Int → Option R) (ms : List (List Move)) (hm : Leads ms) (hL : 8589934592 ≤ L) (p : List Int) (hp : p.length = ms.length) :
    ∃ q, NextE (BAkin ms p) ms.length q ∧ f80.l1 L N K L (0 : Int) ms p [] = K ms p q := by
  have hlim := lim_eq
  have hn60 := hm.1
  have inner : ∀ (K : Int → Int → List (List Move) → List Int → List Int → Option R) (i : Nat) (hi : i < ms.length) (out : List Int) (n c best : Nat) (z : Int), z = (c : Int) - 1 → c < n → c ≤ best → best ≤ i → BAkin ms p best i → (∀ j', c ≤ j' → j' < best → ¬ BAkin ms p j' i) →
      ∃ b' : Nat, b' ≤ i ∧ BAkin ms p b' i ∧ (∀ j', j' < b' → ¬ BAkin ms p j' i) ∧ f80.l2 L N K n (i : Int) (best : Int) z ms p out = K (i : Int) (b' : Int) ms p out := by
    intro K i hi out n
    induction n with
    | zero => intro c best z _ h; omega
    | succ n ih =>
      intro c best z hz hn hcb hbi hE hno
      show ∃ b' : Nat, _ ∧ _ ∧ _ ∧ f80.s2 L N _ (f80.l2 L N _ n) (i : Int) (best : Int) z ms p out = _
      unfold f80.s2 f80.s2'
      cases c with
      | zero =>
        rw [show decide (z ≥ 0) = false from decide_eq_false (by omega), cond_false]
        exact ⟨best, hbi, hE, fun j' h => hno j' (by omega) h, rfl⟩
      | succ c =>
        have hz' : z = (c : Int) := by omega
        subst hz'
        have hc : c < p.length := by omega
        have hip : i < p.length := by omega
        have hw : wi ((c : Int) - 1) = (c : Int) - 1 := wi_id (by omega) (by omega)
        rw [show decide ((c : Int) ≥ 0) = true from decide_eq_true (by omega), cond_true]
        simp only [le0, lt_cast hc, lt_cast hip, Bool.and_true, cond_true, Int.toNat_natCast, atD, hw]
        have stay : ¬ BAkin ms p c i → ∃ b' : Nat, b' ≤ i ∧ BAkin ms p b' i ∧ (∀ j', j' < b' → ¬ BAkin ms p j' i) ∧ f80.l2 L N K n (i : Int) (best : Int) ((c : Int) - 1) ms p out = K (i : Int) (b' : Int) ms p out := fun hne =>
          ih c best ((c : Int) - 1) rfl (by omega) (by omega) hbi hE fun j' h1 h2 => by
            by_cases e : j' = c
            · subst e; exact hne
            · exact hno j' (by omega) h2
        by_cases h1 : p.getD c 0 = p.getD i 0
        · obtain ⟨a, b, r, e1, e2, e3, f⟩ := sameMark_ok L N ms hm hL p hp i c hi (by omega)
          rw [show (p.getD c 0 == p.getD i 0) = true by simpa using h1, cond_true]
          simp only [e1, e2, e3, Option.bind_some]
          cases r with
          | false =>
            rw [cond_false]
            exact stay fun h => absurd (f.2 h.2) (by simp)
          | true =>
            rw [cond_true]
            exact ih c c ((c : Int) - 1) rfl (by omega) (Nat.le_refl _) (by omega) ⟨h1, f.1 rfl⟩ fun j' h1 h2 => by omega
        · rw [show (p.getD c 0 == p.getD i 0) = false by simpa using h1, cond_false]
          exact stay fun h => h1 h.1
  have key : ∀ (n i : Nat) (out : List Int), out.length = i → i ≤ ms.length → ms.length - i < n → (∀ (i' : Nat) (hi : i' < out.length), ∃ j : Nat, out[i'] = (j : Int) ∧ j ≤ i' ∧ BAkin ms p j i' ∧ ∀ j', j' < j → ¬ BAkin ms p j' i') →
      ∃ q, NextE (BAkin ms p) ms.length q ∧ f80.l1 L N K n (i : Int) ms p out = K ms p q := by
    intro n
    induction n with
    | zero => intro i out _ _ h; omega
    | succ n ih =>
      intro i out hl hi hn hout
      show ∃ q, _ ∧ f80.s1 L N _ (f80.l1 L N _ n) (i : Int) ms p out = _
      unfold f80.s1 f80.s1'
      by_cases hlt : i < ms.length
      · have hip : i < p.length := by omega
        have hw : wi ((i : Int) - 1) = (i : Int) - 1 := wi_id (by omega) (by omega)
        simp only [lt_cast hip, cond_true, hw]
        obtain ⟨b', q1, q2, q3, e⟩ := inner (fun z15 z16 z17 z18 z19 => f80.p2_e4 L N K (f80.l1 L N K n) z15 z16 z17 z18 z19) i hlt out L i i ((i : Int) - 1) rfl (by omega) (Nat.le_refl _) (Nat.le_refl _) ⟨rfl, rfl⟩ (fun j' h1 h2 => by omega)
        rw [e]
        show ∃ q, _ ∧ f80.p2_e4' L N K _ (i : Int) (b' : Int) ms p out = _
        unfold f80.p2_e4'
        have hle : decide (out.length + ([(b' : Int)] : List Int).length ≤ lim) = true := dt (by simp only [List.length_cons, List.length_nil]; omega)
        rw [hle, cond_true, wi_nat (by omega)]
        refine ih (i + 1) _ (by simp [hl]) (by omega) (by omega) fun i' hi' => ?_
        by_cases h : i' < out.length
        · rw [List.getElem_append_left h]; exact hout i' h
        · have : i' = i := by simp at hi'; omega
          subst this
          refine ⟨b', ?_, q1, q2, q3⟩
          rw [List.getElem_append_right (by omega)]
          simp
      · have hip : ¬ i < p.length := by omega
        simp only [ge_cast hip, cond_false]
        exact ⟨out, ⟨by omega, hout⟩, rfl⟩
  exact key L 0 [] rfl (by omega) (by omega) (fun _ h => by simp at h)

/-- the last of a list -/
theorem last_castB {α : Type} (pre : List α) (p d : α) (h : pre.length ≤ 1048576) : wi (((pre ++ [p]).length : Int) - 1) = (pre.length : Int) ∧ pre.length < (pre ++ [p]).length ∧ listAt (pre ++ [p]) d pre.length = p := by
  refine ⟨?_, by simp, ?_⟩
  · rw [List.length_append, List.length_cons, List.length_nil, wi_id (by omega) (by omega)]; omega
  · rw [at_lt (by simp)]; simp

theorem roundsB (L N : Nat) (ms : List (List Move)) (hm : Leads ms) (hL : 8589934592 ≤ L) : ∀ (n : Nat) (pre : List (List Int)) (p : List Int), p.length = ms.length → Low p → pre.length ≤ wgt p → 3600 - wgt p < n →
    ∃ pre' q, f80.l0 L N (fun z37 => f80.p0_r L N some z37) n ms p = some q ∧ f81_1.l0 L N (fun z4 => f81_1.p0_r L N some z4) n ms (pre ++ [p]) = some (pre' ++ [q]) ∧ q.length = ms.length ∧ pre'.length ≤ 3600 := by
  have hlim := lim_eq
  have hn60 := hm.1
  have hw : ∀ p : List Int, p.length = ms.length → Low p → wgt p ≤ 3600 := fun p hp hl => by
    have h1 := wgt_le (p := p) (B := 60) fun x hx => by
      obtain ⟨i, hi, rfl⟩ := List.mem_iff_getElem.1 hx
      have := hl i hi; omega
    omega
  intro n
  induction n with
  | zero => intro pre p _ _ _ h; omega
  | succ n ih =>
    intro pre p hp hl hpre hn
    have hwp := hw p hp hl
    obtain ⟨e1, e2, e3⟩ := last_castB pre p [] (by omega)
    obtain ⟨q1, a2, a1⟩ := bnext_ok L N (fun z6 z7 z8 => f80.p1_e2 L N (fun z37 => f80.p0_r L N some z37) (f80.l0 L N (fun z37 => f80.p0_r L N some z37) n) z6 z7 z8) ms hm hL p hp
    obtain ⟨q2, b1, b2⟩ := refineBAkin L N ms hm hL p hp
    obtain rfl := a2.uniq b2
    have hq : q1.length = ms.length := a2.1
    obtain ⟨r1, c1, c2⟩ := l4Same_ok L N q1 p (by omega) (by omega)
    obtain ⟨r2, d1, d2⟩ := equalI_ok L N q1 p (by omega) (by omega)
    have hr : r1 = r2 := by rw [Bool.eq_iff_iff, c2, d2]
    subst hr
    have hle : decide ((pre ++ [p]).length + ([q1] : List (List Int)).length ≤ lim) = true := dt (by simp only [List.length_append, List.length_cons, List.length_nil]; omega)
    have s1 : f80.l0 L N (fun z37 => f80.p0_r L N some z37) (n + 1) ms p = bif r1 then some p else f80.l0 L N (fun z37 => f80.p0_r L N some z37) n ms q1 := by
      show f80.l1 L N _ L (0 : Int) ms p [] = _
      refine a1.trans ?_
      show f80.p1_e2' L N _ _ ms p q1 = _
      unfold f80.p1_e2'
      rw [c1, Option.bind_some]
      rfl
    have s2 : f81_1.l0 L N (fun z4 => f81_1.p0_r L N some z4) (n + 1) ms (pre ++ [p]) = bif r1 then some (pre ++ [p]) else f81_1.l0 L N (fun z4 => f81_1.p0_r L N some z4) n ms (pre ++ [p] ++ [q1]) := by
      show f81_1.s0 L N _ (f81_1.l0 L N _ n) ms (pre ++ [p]) = _
      unfold f81_1.s0 f81_1.s0'
      simp only [e1, le0, lt_cast e2, Bool.and_true, cond_true, Int.toNat_natCast, e3, b1, d1, Option.bind_some, hle]
      rfl
    rw [s1, s2]
    cases r1 with
    | true => exact ⟨pre, p, rfl, rfl, hp, by omega⟩
    | false =>
      have hne : p ≠ q1 := fun e => absurd (c2.2 e.symm) (by simp)
      have hlt := wgt_lt (by omega) (fun i h1 h2 => ⟨(hl i h1).1, a2.ge hp hl (fun j i h => h.1) i h1 h2⟩) hne
      have hwq := hw q1 hq a2.low
      exact ih (pre ++ [p]) q1 hq a2.low (by simp only [List.length_append, List.length_cons, List.length_nil]; omega) (by omega)

theorem branchClasses_eq (L N : Nat) (g : Graph) (hg : g.moves.length + gsize g.moves ≤ 1048576) (hL : 8589934592 ≤ L) :
    ∃ q, f40 L N g = some q ∧ f41 L N g = some q ∧ q.length ≤ 60 := by
  have hge : Graph.mk g.moves = g := by cases g; rfl
  have hlim := lim_eq
  have h1 := gok1_ok L N g (by omega) hg
  have h2 := gok2_ok L N g (by omega) hg
  cases hok : graphOk g with
  | false =>
    refine ⟨[], ?_, ?_, by simp⟩
    · show f40.b' L N some g = _
      unfold f40.b'
      rw [hge, h2, Option.bind_some, hok, Bool.not_false, cond_true]
    · show f41.b' L N some g = _
      unfold f41.b'
      rw [hge, h1, Option.bind_some, hok, Bool.not_false, cond_true]
  | true =>
    have hm := leads_of hok hg
    have hn := hm.1
    have h0 : decide ((g.moves.length : Int) ≤ (lim : Int)) = true := dt (by omega)
    have e0 : ((g.moves.length : Int)).toNat = g.moves.length := rfl
    obtain ⟨pre, q, r1, r2, r3, r4⟩ := roundsB L N g.moves hm hL L [] (List.replicate g.moves.length 0) (by simp) (low_zero _) (by simp) (by omega)
    obtain ⟨e1, e2, e3⟩ := last_castB pre q [] (by omega)
    refine ⟨q, ?_, ?_, by omega⟩
    · have hr : f80 L N g = some q := by
        show f80.b L N some g = _
        unfold f80.b f80.b'
        simp only [le0, h0, Bool.and_true, cond_true, e0]
        exact r1
      show f40.b' L N some g = _
      unfold f40.b'
      rw [hge, h2, Option.bind_some, hok, Bool.not_true, cond_false, hr, Option.bind_some]
    · have hr : f81_1 L N (g.moves.length : Int) g.moves = some (pre ++ [q]) := by
        show f81_1.b L N some (g.moves.length : Int) g.moves = _
        unfold f81_1.b f81_1.b'
        simp only [le0, h0, Bool.and_true, cond_true, e0]
        exact r2
      show f41.b' L N some g = _
      unfold f41.b'
      have hfc : fclone q = some () := by unfold fclone; rw [dt (by omega)]; rfl
      rw [hge, h1, Option.bind_some, hok, Bool.not_true, cond_false, hr]
      simp only [Option.bind_some, e1, le0, lt_cast e2, Bool.and_true, cond_true, Int.toNat_natCast, e3, hfc]

theorem eqIntS_same (L N : Nat) (x : List Int) (hL : x.length < L) (hl : x.length ≤ lim) : f21 L N x x = some true := by
  have hm := lim_eq
  show f21.b L N some x x = _
  unfold f21.b f21.b'
  simp only [bne_self_eq_false, cond_false]
  refine (all_loop (l := fun n i => f21.l0 L N (f21.p0_e0 L N some) (fun z4 => f21.p0_r L N some z4) n x x i) (len := x.length) (q := fun _ => true) (rt := some true) (rf := some false) (fun n i hi => ?_) (fun n => ?_) L 0 (by omega) (by omega)).trans (by rw [allN_true]; rfl)
  · show f21.s0 L N _ _ (f21.l0 L N _ _ n) x x i = _
    unfold f21.s0 f21.s0'
    simp only [lt_cast hi, le0, cond_true, Bool.and_true, Int.toNat_natCast, at_lt hi, bne_self_eq_false, cond_false, wi_nat (show i < 9223372036854775807 by omega)]
  · show f21.s0 L N _ _ (f21.l0 L N _ _ n) x x x.length = _
    unfold f21.s0 f21.s0'
    simp only [ge_cast (Nat.lt_irrefl _), cond_false]
    rfl


theorem exactBranchClasses (g : Graph) (hg : DatOk (.st 2) g) : ∃ L N, f7 L N g = some true := by
  have hge : Graph.mk g.moves = g := by cases g; rfl
  generalize hLL : 8589934592 = L
  refine ⟨L, 0, ?_⟩
  have hlim := lim_eq
  show f7.b' L 0 some g = _
  unfold f7.b'
  rw [hge]
  obtain ⟨r, hr, hc⟩ := szGraph_ok L 0 g hg (by omega)
  rw [hr]
  simp only [Option.bind_some]
  by_cases hn : r < 0
  · rw [dt hn, cond_true]
  · rw [df hn, cond_false]
    have hsz : g.moves.length + gsize g.moves ≤ 1048576 := by omega
    obtain ⟨q, h1, h2, h3⟩ := branchClasses_eq L 0 g hsz (by omega)
    obtain ⟨j, ys, m1, m2, m3, m4, m5, m6⟩ := markMoveSS_eq L 0 g.moves 1 (by omega) (fun r hr => by have := gsize_row r hr; omega) (by omega) (by omega) (by omega)
    have m8 := markIntS_ok L 0 q 1 (by omega) (by omega) (by omega) (by omega)
    have m9 := heldIntS_ok L 0 1 q.length (by omega) (by omega) (by omega) (by omega)
    simp only [toGraph_ok L 0 g (by omega) hsz, hge, h1, h2, Option.bind_some, eqGraph_ok L 0 g (by omega) hsz, eqIntS_same L 0 q (by omega) (by omega), Bool.not_true, cond_false, m1]
    rw [df (show ¬ j < 0 by omega)]
    simp only [cond_false]
    unfold f7.j0'
    simp only [m8, m9, toGraph_ok L 0 g (by omega) hsz, hge, h2, Option.bind_some, eqIntS_same L 0 q (by omega) (by omega), bne_self_eq_false, Bool.not_true, cond_false]
    rw [df (show ¬ (1 : Int) + (q.length : Int) < 0 by omega)]
    simp only [cond_false]
end Go.Proofs.Ytdfjdbpklbehoaa.Ev
