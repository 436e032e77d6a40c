/- Plain laws of graphs: sizes, copies, likeness, which are graphs. No conditions but those that each states. -/
import Derived.Test.YtdfjdbpklbehoaaG10b
import Derived.Test.YtdfjdbpklbehoaaEvZ
namespace Go.Proofs.Ytdfjdbpklbehoaa.Ev
open Go
set_option linter.unusedVariables false
set_option linter.unusedSimpArgs false

theorem act1_ok (L N : Nat) (n : Int) : f72 L N n = some (decide (-4 ≤ n ∧ n ≤ 4)) := by
  show f72.b L N some n = _
  unfold f72.b f72.b'
  by_cases h : n ≥ -4
  · rw [dt h, cond_true]; congr 1; by_cases h2 : n ≤ 4
    · rw [dt h2, dt (by omega)]
    · rw [df h2, df (by omega)]
  · rw [df h, cond_false, df (by omega)]
theorem in_ok (L N : Nat) (n a b : Int) : f96 L N n a b = some (decide (a ≤ n ∧ n ≤ b)) := by
  show f96.b L N some n a b = _
  unfold f96.b f96.b'
  by_cases h : n ≥ a
  · rw [dt h, cond_true]; congr 1; by_cases h2 : n ≤ b
    · rw [dt h2, dt (by omega)]
    · rw [df h2, df (by omega)]
  · rw [df h, cond_false, df (by omega)]
theorem act2_ok (L N : Nat) (n : Int) : f97 L N n = some (decide (-4 ≤ n ∧ n ≤ 4)) := by
  show f97.b L N some n = _
  unfold f97.b f97.b'
  rw [in_ok]; rfl

/-! ### Sizes -/
/-- what a graph takes of a budget -/
def gsize (ms : List (List Move)) : Nat := (ms.map List.length).sum
theorem szMoveS_ok (L N : Nat) (x : List Move) (left : Int) (hx : x.length ≤ maxLen) (h0 : 0 ≤ left) (h1 : left ≤ 1048576) : f95 L N x left = some (if (x.length : Int) ≤ left then left - x.length else -1) := by
  show f95.b L N some x left = _
  unfold f95.b f95.b'
  have hm := maxLen_eq
  rw [wi_id (by omega) (by omega)]
  by_cases h : (x.length : Int) ≤ left
  · rw [df (by omega), cond_false, if_pos h]
  · rw [dt (by omega), cond_true, if_neg h]
theorem szMoveSS_ok (L N : Nat) (x : List (List Move)) (left : Int) (hx : x.length ≤ maxLen) (hr : ∀ r ∈ x, r.length ≤ maxLen) (hL : 1048576 < L) (h0 : 0 ≤ left) (h1 : left ≤ 1048576) :
    f56 L N x left = some (if ((x.length + gsize x : Nat) : Int) ≤ left then left - (x.length + gsize x : Nat) else -1) := by
  have hm := maxLen_eq
  show f56.b L N some x left = _
  unfold f56.b f56.b'
  rw [wi_id (by omega) (by omega)]
  by_cases h : left - (x.length : Int) < 0
  · rw [dt h, cond_true, if_neg (by omega)]
  · rw [df h, cond_false]
    have key : ∀ (n i : Nat) (l : Int), x.length - i < n → i ≤ x.length → 0 ≤ l → l ≤ 1048576 →
        f56.l0 L N (fun z3 => f56.p0_e0 L N some z3) (fun z5 z6 => f56.p0_r L N some z5 z6) n x l (i : Int) = some (if ((gsize (x.drop i) : Nat) : Int) ≤ l then l - (gsize (x.drop i) : Nat) else -1) := by
      intro n
      induction n with
      | zero => intro i l h; omega
      | succ n ih =>
        intro i l h2 hi l0 l1
        show f56.s0 L N _ _ (f56.l0 L N _ _ n) x l i = _
        unfold f56.s0 f56.s0'
        by_cases hlt : i < x.length
        · simp only [lt_cast hlt, le0, cond_true, Bool.and_true, Int.toNat_natCast, at_lt hlt]
          rw [szMoveS_ok L N x[i] l (hr _ (List.getElem_mem hlt)) l0 l1]
          have hd : gsize (x.drop i) = x[i].length + gsize (x.drop (i + 1)) := by
            rw [List.drop_eq_getElem_cons hlt]; simp only [gsize, List.map_cons, List.sum_cons]
          simp only [Option.bind_some]
          by_cases hc : (x[i].length : Int) ≤ l
          · rw [if_pos hc, df (by omega), cond_false, wi_nat (by omega), ih (i + 1) _ (by omega) (by omega) (by omega) (by omega), hd]
            congr 1
            split <;> split <;> omega
          · rw [if_neg hc, dt (by omega), cond_true, if_neg (by omega)]
            rfl
        · simp only [ge_cast hlt, cond_false]
          have hi' : i = x.length := by omega
          subst hi'
          rw [List.drop_length]
          have : ((gsize ([] : List (List Move)) : Nat) : Int) = 0 := rfl
          rw [this, if_pos l0, Int.sub_zero]
          rfl
    refine (key L 0 _ (by omega) (by omega) (by omega) (by omega)).trans ?_
    rw [List.drop_zero]
    congr 1
    split <;> split <;> omega
theorem szGraph_ok (L N : Nat) (g : Graph) (hg : DatOk (.st 2) g) (hL : 1048576 < L) :
    ∃ r : Int, f15 L N g 1048576 = some r ∧ (r < 0 ∨ (g.moves.length + gsize g.moves ≤ 1048576 ∧ 0 ≤ r ∧ r ≤ 1048576)) := by
  obtain ⟨h1, h2⟩ := graph_ok hg
  show ∃ r, f15.b L N some g 1048576 = some r ∧ _
  unfold f15.b f15.b'
  rw [szMoveSS_ok L N g.moves 1048576 h1 (fun r hr => (h2 r hr).1) hL (by omega) (by omega)]
  simp only [Option.bind_some]
  by_cases hc : ((g.moves.length + gsize g.moves : Nat) : Int) ≤ 1048576
  · rw [if_pos hc, df (by omega), cond_false]
    exact ⟨_, rfl, .inr (by omega)⟩
  · rw [if_neg hc, dt (by omega), cond_true]
    exact ⟨_, rfl, .inl (by omega)⟩
theorem gsize_row {ms : List (List Move)} : ∀ r ∈ ms, r.length ≤ gsize ms := by
  intro r hr
  unfold gsize
  induction ms with
  | nil => cases hr
  | cons a ms ih =>
    rw [List.map_cons, List.sum_cons]
    rcases List.mem_cons.1 hr with rfl | hr
    · omega
    · have := ih hr; omega

/-! ### Copies -/
theorem toMove_ok (L N : Nat) (m : Move) : f128 L N m = some m := rfl
theorem toMoveS_ok (L N : Nat) (x : List Move) (hL : x.length < L) (hl : x.length ≤ lim) : f100 L N x = some x := by
  have hm := lim_eq
  show f100.b L N some x = _
  unfold f100.b f100.b'
  refine (bif_t2 (by omega) (by omega)).trans ?_
  refine copy_loop (l := fun n i ys => f100.l0 L N (fun z3 => f100.p0_e0 L N some z3) n x i ys) (fun n i hi ys hy => ?_) (fun n ys => ?_) L 0 _ (by omega) (by omega) (by simp) (by simp)
  · show f100.s0 L N _ (f100.l0 L N _ n) x i ys = _
    unfold f100.s0 f100.s0'
    simp only [lt_cast hi, le0, cond_true, Bool.and_true, Int.toNat_natCast, at_lt hi, toMove_ok, Option.bind_some, lt_cast (show i < ys.length by omega), wi_nat (show i < 9223372036854775807 by omega)]
  · show f100.s0 L N _ (f100.l0 L N _ n) x x.length ys = _
    unfold f100.s0 f100.s0'
    simp only [ge_cast (Nat.lt_irrefl _), cond_false]
    rfl
theorem toMoveSS_ok (L N : Nat) (x : List (List Move)) (hL : x.length < L) (hl : x.length ≤ lim) (hr : ∀ r ∈ x, r.length < L ∧ r.length ≤ lim) : f61 L N x = some x := by
  have hm := lim_eq
  show f61.b L N some x = _
  unfold f61.b f61.b'
  refine (bif_t2 (by omega) (by omega)).trans ?_
  refine copy_loop (l := fun n i ys => f61.l0 L N (fun z3 => f61.p0_e0 L N some z3) n x i ys) (fun n i hi ys hy => ?_) (fun n ys => ?_) L 0 _ (by omega) (by omega) (by simp) (by simp)
  · show f61.s0 L N _ (f61.l0 L N _ n) x i ys = _
    unfold f61.s0 f61.s0'
    have h1 := hr _ (List.getElem_mem hi)
    simp only [lt_cast hi, le0, cond_true, Bool.and_true, Int.toNat_natCast, at_lt hi, toMoveS_ok L N x[i] h1.1 h1.2, Option.bind_some, lt_cast (show i < ys.length by omega), wi_nat (show i < 9223372036854775807 by omega)]
  · show f61.s0 L N _ (f61.l0 L N _ n) x x.length ys = _
    unfold f61.s0 f61.s0'
    simp only [ge_cast (Nat.lt_irrefl _), cond_false]
    rfl
theorem toGraph_ok (L N : Nat) (g : Graph) (hL : 1048576 < L) (hs : g.moves.length + gsize g.moves ≤ 1048576) : f18 L N g = some g.moves := by
  have hm := lim_eq
  show f18.b L N some g = _
  unfold f18.b f18.b'
  rw [toMoveSS_ok L N g.moves (by omega) (by omega) (fun r hr => by have := gsize_row r hr; omega)]
  rfl

/-! ### Likeness -/
theorem eqMove_ok (L N : Nat) (m : Move) : f129 L N m m = some true := by
  show f129.b L N some m m = _
  unfold f129.b f129.b'
  simp only [bne_self_eq_false, cond_false]
theorem allN_true (k i : Nat) : allN (fun _ => true) k i = true := by
  induction k generalizing i with
  | zero => rfl
  | succ k ih => exact ih (i + 1)
theorem eqMoveS_ok (L N : Nat) (x : List Move) (hL : x.length < L) (hl : x.length ≤ lim) : f101 L N x x = some true := by
  have hm := lim_eq
  show f101.b L N some x x = _
  unfold f101.b f101.b'
  simp only [bne_self_eq_false, cond_false]
  refine (all_loop (l := fun n i => f101.l0 L N (f101.p0_e0 L N some) (fun z4 => f101.p0_r L N some z4) n x x i) (len := x.length) (q := fun _ => true) (rt := some true) (rf := some false) (fun n i hi => ?_) (fun n => ?_) L 0 (by omega) (by omega)).trans (by rw [allN_true]; rfl)
  · show f101.s0 L N _ _ (f101.l0 L N _ _ n) x x i = _
    unfold f101.s0 f101.s0'
    simp only [lt_cast hi, le0, cond_true, Bool.and_true, Int.toNat_natCast, at_lt hi, eqMove_ok, Option.bind_some, Bool.not_true, cond_false, wi_nat (show i < 9223372036854775807 by omega)]
  · show f101.s0 L N _ _ (f101.l0 L N _ _ n) x x x.length = _
    unfold f101.s0 f101.s0'
    simp only [ge_cast (Nat.lt_irrefl _), cond_false]
    rfl
theorem eqGraph_ok (L N : Nat) (g : Graph) (hL : 1048576 < L) (hs : g.moves.length + gsize g.moves ≤ 1048576) : f22 L N g g = some true := by
  have hm := lim_eq
  have key : f64 L N g.moves g.moves = some true := by
    generalize hx : g.moves = x
    rw [hx] at hs
    show f64.b L N some x x = _
    unfold f64.b f64.b'
    simp only [bne_self_eq_false, cond_false]
    refine (all_loop (l := fun n i => f64.l0 L N (f64.p0_e0 L N some) (fun z4 => f64.p0_r L N some z4) n x x i) (len := x.length) (q := fun _ => true) (rt := some true) (rf := some false) (fun n i hi => ?_) (fun n => ?_) L 0 (by omega) (by omega)).trans (by rw [allN_true]; rfl)
    · show f64.s0 L N _ _ (f64.l0 L N _ _ n) x x i = _
      unfold f64.s0 f64.s0'
      have := gsize_row _ (List.getElem_mem hi)
      simp only [lt_cast hi, le0, cond_true, Bool.and_true, Int.toNat_natCast, at_lt hi, eqMoveS_ok L N x[i] (by omega) (by omega), Option.bind_some, Bool.not_true, cond_false, wi_nat (show i < 9223372036854775807 by omega)]
    · show f64.s0 L N _ _ (f64.l0 L N _ _ n) x x x.length = _
      unfold f64.s0 f64.s0'
      simp only [ge_cast (Nat.lt_irrefl _), cond_false]
      rfl
  show f22.b L N some g g = _
  unfold f22.b f22.b'
  rw [key]; rfl

/-! ### Which are graphs -/
def lessM (a b : Move) : Bool := decide (a.act < b.act ∨ (a.act = b.act ∧ a.to < b.to))
def mvOk (n : Nat) (m : Move) : Bool := decide (-4 ≤ m.act ∧ m.act ≤ 4) && decide (0 ≤ m.to ∧ m.to < (n : Int))
/-- the move at a place is one, and stands behind the one ahead -/
def atOk (n : Nat) (r : List Move) (k : Nat) : Bool := mvOk n (r.getD k ⟨0, 0⟩) && (decide (k = 0) || lessM (r.getD (k - 1) ⟨0, 0⟩) (r.getD k ⟨0, 0⟩))
def rowOk (n : Nat) (r : List Move) : Bool := allN (atOk n r) r.length 0
def graphOk (g : Graph) : Bool := decide (1 ≤ g.moves.length ∧ g.moves.length ≤ 60) && allN (fun i => rowOk g.moves.length (g.moves.getD i [])) g.moves.length 0
theorem atD {α : Type} (x : List α) (d : α) (i : Nat) : listAt x d i = x.getD i d := rfl
theorem less2_ok (L N : Nat) (a b : Move) : f98 L N a b = some (lessM a b) := by
  show f98.b L N some a b = _
  unfold f98.b f98.b' lessM
  by_cases h : a.act < b.act
  · rw [dt h, cond_true, dt (by omega)]
  · rw [df h, cond_false]
    by_cases h2 : a.act = b.act
    · have : (a.act == b.act) = true := by simpa using h2
      rw [this, cond_true]
      by_cases h3 : a.to < b.to
      · rw [dt h3, dt (by omega)]
      · rw [df h3, df (by omega)]
    · have : (a.act == b.act) = false := by simpa using h2
      rw [this, cond_false, df (by omega)]
theorem cmp_ok (L N : Nat) (a b : Int) : f108 L N a b = some (if a < b then -1 else if a > b then 1 else 0) := by
  show f108.b L N some a b = _
  unfold f108.b f108.b'
  have h0 : ∀ a, f136 L N a = some false := fun a => by
    show f136.b L N some a = _
    unfold f136.b f136.b'
    simp
  simp only [h0, Option.bind_some, cond_false]
  by_cases h : a < b
  · rw [dt h, cond_true, if_pos h]
  · rw [df h, cond_false, if_neg h]
    by_cases h2 : a > b
    · rw [dt h2, cond_true, if_pos h2]
    · rw [df h2, cond_false, if_neg h2]
theorem byMove_ok (L N : Nat) (a b : Move) : ∃ r : Int, f73 L N a b = some r ∧ decide (r ≥ 0) = !lessM a b := by
  show ∃ r, f73.b L N some a b = some r ∧ _
  unfold f73.b f73.b' lessM
  simp only [cmp_ok, Option.bind_some]
  by_cases h : a.act < b.act
  · rw [if_pos h]
    exact ⟨-1, rfl, by rw [dt (show a.act < b.act ∨ _ from .inl h)]; rfl⟩
  · rw [if_neg h]
    by_cases h2 : a.act > b.act
    · rw [if_pos h2]
      exact ⟨1, rfl, by rw [df (show ¬ (a.act < b.act ∨ a.act = b.act ∧ a.to < b.to) by omega)]; rfl⟩
    · rw [if_neg h2]
      refine ⟨_, rfl, ?_⟩
      by_cases h3 : a.to < b.to
      · rw [if_pos h3, dt (show a.act < b.act ∨ a.act = b.act ∧ a.to < b.to by omega)]; rfl
      · rw [if_neg h3, df (show ¬ (a.act < b.act ∨ a.act = b.act ∧ a.to < b.to) by omega)]
        by_cases h4 : a.to > b.to
        · rw [if_pos h4]; rfl
        · rw [if_neg h4]; rfl
end Go.Proofs.Ytdfjdbpklbehoaa.Ev
