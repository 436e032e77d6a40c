/- Plain laws, in one text. -/
import Derived.Test.YtdfjdbpklbehoaaGD14b
import Derived.Test.YtdfjdbpklbehoaaEvZ
import Derived.Test.YtdfjdbpklbehoaaEvSort
namespace Go.Proofs.Ytdfjdbpklbehoaa.Ev
open Go
set_option linter.unusedVariables false
set_option linter.unusedSimpArgs false
theorem act1_ok (L N : Nat) (n : Int) : f72 L N n = some (decide (-4 ≤ n ∧ n ≤ 4)) := by
  show f72.b L N some n = _
  unfold f72.b f72.b'
  by_cases h : n ≥ -4
  · rw [dt h, cond_true]; congr 1; by_cases h2 : n ≤ 4
    · rw [dt h2, dt (by omega)]
    · rw [df h2, df (by omega)]
  · rw [df h, cond_false, df (by omega)]
theorem in_ok (L N : Nat) (n a b : Int) : f96 L N n a b = some (decide (a ≤ n ∧ n ≤ b)) := by
  show f96.b L N some n a b = _
  unfold f96.b f96.b'
  by_cases h : n ≥ a
  · rw [dt h, cond_true]; congr 1; by_cases h2 : n ≤ b
    · rw [dt h2, dt (by omega)]
    · rw [df h2, df (by omega)]
  · rw [df h, cond_false, df (by omega)]
theorem act2_ok (L N : Nat) (n : Int) : f97 L N n = some (decide (-4 ≤ n ∧ n ≤ 4)) := by
  show f97.b L N some n = _
  unfold f97.b f97.b'
  rw [in_ok]; rfl
def gsize (ms : List (List Move)) : Nat := (ms.map List.length).sum
theorem gsize_row {ms : List (List Move)} : ∀ r ∈ ms, r.length ≤ gsize ms := by
  intro r hr
  unfold gsize
  induction ms with
  | nil => cases hr
  | cons a ms ih =>
    rw [List.map_cons, List.sum_cons]
    rcases List.mem_cons.1 hr with rfl | hr
    · omega
    · have := ih hr; omega
theorem allN_true (k i : Nat) : allN (fun _ => true) k i = true := by
  induction k generalizing i with
  | zero => rfl
  | succ k ih => exact ih (i + 1)
def lessM (a b : Move) : Bool := decide (a.act < b.act ∨ (a.act = b.act ∧ a.to < b.to))
def mvOk (n : Nat) (m : Move) : Bool := decide (-4 ≤ m.act ∧ m.act ≤ 4) && decide (0 ≤ m.to ∧ m.to < (n : Int))
def atOk (n : Nat) (r : List Move) (k : Nat) : Bool := mvOk n (r.getD k ⟨0, 0⟩) && (decide (k = 0) || lessM (r.getD (k - 1) ⟨0, 0⟩) (r.getD k ⟨0, 0⟩))
def rowOk (n : Nat) (r : List Move) : Bool := allN (atOk n r) r.length 0
def graphOk (g : Graph) : Bool := decide (1 ≤ g.moves.length ∧ g.moves.length ≤ 60) && allN (fun i => rowOk g.moves.length (g.moves.getD i [])) g.moves.length 0
theorem atD {α : Type} (x : List α) (d : α) (i : Nat) : listAt x d i = x.getD i d := rfl
theorem less2_ok (L N : Nat) (a b : Move) : f98 L N a b = some (lessM a b) := by
  show f98.b L N some a b = _
  unfold f98.b f98.b' lessM
  by_cases h : a.act < b.act
  · rw [dt h, cond_true, dt (by omega)]
  · rw [df h, cond_false]
    by_cases h2 : a.act = b.act
    · have : (a.act == b.act) = true := by simpa using h2
      rw [this, cond_true]
      by_cases h3 : a.to < b.to
      · rw [dt h3, dt (by omega)]
      · rw [df h3, df (by omega)]
    · have : (a.act == b.act) = false := by simpa using h2
      rw [this, cond_false, df (by omega)]
theorem cmp_ok (L N : Nat) (a b : Int) : f108 L N a b = some (if a < b then -1 else if a > b then 1 else 0) := by
  show f108.b L N some a b = _
  unfold f108.b f108.b'
  have h0 : ∀ a, f136 L N a = some false := fun a => by
    show f136.b L N some a = _
    unfold f136.b f136.b'
    simp
  simp only [h0, Option.bind_some, cond_false]
  by_cases h : a < b
  · rw [dt h, cond_true, if_pos h]
  · rw [df h, cond_false, if_neg h]
    by_cases h2 : a > b
    · rw [dt h2, cond_true, if_pos h2]
    · rw [df h2, cond_false, if_neg h2]
theorem byMove_ok (L N : Nat) (a b : Move) : ∃ r : Int, f73 L N a b = some r ∧ decide (r ≥ 0) = !lessM a b := by
  show ∃ r, f73.b L N some a b = some r ∧ _
  unfold f73.b f73.b' lessM
  simp only [cmp_ok, Option.bind_some]
  by_cases h : a.act < b.act
  · rw [if_pos h]
    exact ⟨-1, rfl, by rw [dt (show a.act < b.act ∨ _ from .inl h)]; rfl⟩
  · rw [if_neg h]
    by_cases h2 : a.act > b.act
    · rw [if_pos h2]
      exact ⟨1, rfl, by rw [df (show ¬ (a.act < b.act ∨ a.act = b.act ∧ a.to < b.to) by omega)]; rfl⟩
    · rw [if_neg h2]
      refine ⟨_, rfl, ?_⟩
      by_cases h3 : a.to < b.to
      · rw [if_pos h3, dt (show a.act < b.act ∨ a.act = b.act ∧ a.to < b.to by omega)]; rfl
      · rw [if_neg h3, df (show ¬ (a.act < b.act ∨ a.act = b.act ∧ a.to < b.to) by omega)]
        by_cases h4 : a.to > b.to
        · rw [if_pos h4]; rfl
        · rw [if_neg h4]; rfl
end Go.Proofs.Ytdfjdbpklbehoaa.Ev
namespace Go.Proofs.Ytdfjdbpklbehoaa.Ev
open Go
set_option linter.unusedVariables false
set_option linter.unusedSimpArgs false
theorem getD_lt {α : Type} {x : List α} {d : α} {i : Nat} (h : i < x.length) : x.getD i d = x[i] := by
  rw [List.getD_eq_getElem?_getD, List.getElem?_eq_getElem h]; rfl
theorem pred_cast {k : Nat} (h : 0 < k) (h2 : k < 9223372036854775807) : wi ((k : Int) - 1) = ((k - 1 : Nat) : Int) := by
  rw [wi_id (by omega) (by omega)]; omega
theorem mv_eta (m : Move) : Move.mk m.act m.to = m := by cases m; rfl
theorem gok2_ok (L N : Nat) (g : Graph) (hL : 1048576 < L) (hs : g.moves.length + gsize g.moves ≤ 1048576) : f58 L N g = some (graphOk g) := by
  show f58.b L N some g = _
  unfold f58.b f58.b' graphOk
  generalize hms : g.moves = ms
  rw [hms] at hs
  rw [in_ok]
  simp only [Option.bind_some]
  by_cases hr : 1 ≤ (ms.length : Int) ∧ (ms.length : Int) ≤ 60
  · rw [dt hr, dt (show 1 ≤ ms.length ∧ ms.length ≤ 60 by omega)]
    simp only [Bool.not_true, cond_false, Bool.true_and]
    refine (all_loop (l := fun n i => f58.l0 L N (f58.p0_e0 L N some) (fun z => f58.p0_r L N some z) n i ms) (len := ms.length) (q := fun i => rowOk ms.length (ms.getD i [])) (rt := some true) (rf := some false) (fun n i hi => ?_) (fun n => ?_) L 0 (by omega) (by omega)).trans ?_
    · show f58.s0 L N _ _ (f58.l0 L N _ _ n) i ms = _
      unfold f58.s0 f58.s0'
      simp only [lt_cast hi, cond_true, getD_lt hi]
      have hrow := gsize_row _ (List.getElem_mem hi)
      refine (all_loop (l := fun n k => f58.l1 L N (fun z6 z7 => f58.p1_e2 L N (f58.p0_e0 L N some) (fun z => f58.p0_r L N some z) (f58.l0 L N (f58.p0_e0 L N some) (fun z => f58.p0_r L N some z) _) z6 z7) (fun z15 z16 z17 => f58.p1_r L N (f58.p0_e0 L N some) (fun z => f58.p0_r L N some z) (f58.l0 L N (f58.p0_e0 L N some) (fun z => f58.p0_r L N some z) _) z15 z16 z17) n i k ms) (len := (ms[i]).length) (q := atOk ms.length ms[i]) (rt := f58.l0 L N (f58.p0_e0 L N some) (fun z => f58.p0_r L N some z) n ((i + 1 : Nat) : Int) ms) (rf := some false) (fun n' k hk => ?_) (fun n' => ?_) L 0 (by omega) (by omega)).trans (by rw [Nat.sub_zero]; rfl)
      · show f58.s1 L N _ _ (f58.l1 L N _ _ n') i k ms = _
        unfold f58.s1 f58.s1'
        have hw : wi ((ms.length : Int) - 1) = (ms.length : Int) - 1 := wi_id (by omega) (by omega)
        simp only [lt_cast hi, le0, cond_true, Bool.and_true, Bool.true_and, Int.toNat_natCast, at_lt hi, lt_cast hk, at_lt hk, act2_ok, in_ok, Option.bind_some, less2_ok, hw, mv_eta, wi_nat (show k < 9223372036854775807 by omega)]
        unfold atOk mvOk
        rw [getD_lt hk]
        by_cases hA : -4 ≤ (ms[i])[k].act ∧ (ms[i])[k].act ≤ 4
        · by_cases hB : 0 ≤ (ms[i])[k].to ∧ (ms[i])[k].to < (ms.length : Int)
          · rw [dt hA, dt hB, dt (show 0 ≤ (ms[i])[k].to ∧ (ms[i])[k].to ≤ (ms.length : Int) - 1 by omega)]
            simp only [Bool.not_true, cond_false, Bool.true_and]
            by_cases hk0 : k = 0
            · subst hk0
              rfl
            · have hp : k - 1 < (ms[i]).length := by omega
              rw [dt (show (k : Int) > 0 by omega), cond_true, pred_cast (by omega) (by omega)]
              simp only [le0, lt_cast hp, Bool.and_true, cond_true, Int.toNat_natCast, at_lt hp, Option.bind_some, df hk0, Bool.false_or, getD_lt hp]
              cases lessM (ms[i])[k - 1] (ms[i])[k] <;> rfl
          · rw [dt hA, df hB, df (show ¬ (0 ≤ (ms[i])[k].to ∧ (ms[i])[k].to ≤ (ms.length : Int) - 1) by omega)]
            rfl
        · rw [df hA]
          rfl
      · show f58.s1 L N _ _ (f58.l1 L N _ _ n') i (ms[i]).length ms = _
        unfold f58.s1 f58.s1'
        simp only [lt_cast hi, le0, cond_true, Bool.and_true, Bool.true_and, Int.toNat_natCast, at_lt hi, ge_cast (Nat.lt_irrefl _), cond_false]
        show f58.l0 L N _ _ n (wi ((i : Int) + 1)) ms = _
        rw [wi_nat (by omega)]
    · show f58.s0 L N _ _ (f58.l0 L N _ _ n) ms.length ms = _
      unfold f58.s0 f58.s0'
      simp only [ge_cast (Nat.lt_irrefl _), cond_false]
      rfl
    · rw [Nat.sub_zero]
      cases allN (fun i => rowOk ms.length (ms.getD i [])) ms.length 0 <;> rfl
  · rw [df hr, df (show ¬ (1 ≤ ms.length ∧ ms.length ≤ 60) by omega)]
    rfl
theorem gok1_ok (L N : Nat) (g : Graph) (hL : 1048576 < L) (hs : g.moves.length + gsize g.moves ≤ 1048576) : f32 L N g = some (graphOk g) := by
  show f32.b L N some g = _
  unfold f32.b f32.b' graphOk
  generalize hms : g.moves = ms
  rw [hms] at hs
  by_cases h1 : (ms.length : Int) < 1
  · rw [dt h1, cond_true, df (show ¬ (1 ≤ ms.length ∧ ms.length ≤ 60) by omega)]; rfl
  · rw [df h1, cond_false]
    by_cases h2 : (ms.length : Int) > 60
    · rw [dt h2, cond_true, df (show ¬ (1 ≤ ms.length ∧ ms.length ≤ 60) by omega)]; rfl
    · rw [df h2, cond_false, dt (show 1 ≤ ms.length ∧ ms.length ≤ 60 by omega)]
      simp only [Bool.true_and]
      unfold f32.j0'
      refine (all_loop (l := fun n i => f32.l0 L N (f32.p0_e0 L N some) (fun z => f32.p0_r L N some z) n ms (ms.length : Int) i ms) (len := ms.length) (q := fun i => rowOk ms.length (ms.getD i [])) (rt := some true) (rf := some false) (fun n i hi => ?_) (fun n => ?_) L 0 (by omega) (by omega)).trans ?_
      · show f32.s0 L N _ _ (f32.l0 L N _ _ n) ms (ms.length : Int) i ms = _
        unfold f32.s0 f32.s0'
        simp only [lt_cast hi, le0, Bool.and_true, cond_true, Int.toNat_natCast, at_lt hi, getD_lt hi]
        have hrow := gsize_row _ (List.getElem_mem hi)
        refine (all_loop (l := fun n k => f32.l1 L N (fun z15 z16 z17 z18 => f32.p1_e2 L N (f32.p0_e0 L N some) (fun z => f32.p0_r L N some z) (f32.l0 L N (f32.p0_e0 L N some) (fun z => f32.p0_r L N some z) _) z15 z16 z17 z18) (fun z30 z31 z32 z33 z34 => f32.p1_r L N (f32.p0_e0 L N some) (fun z => f32.p0_r L N some z) (f32.l0 L N (f32.p0_e0 L N some) (fun z => f32.p0_r L N some z) _) z30 z31 z32 z33 z34) n ms[i] ms (ms.length : Int) i ms[i] ((ms[i]).length : Int) k ms) (len := (ms[i]).length) (q := atOk ms.length ms[i]) (rt := f32.l0 L N (f32.p0_e0 L N some) (fun z => f32.p0_r L N some z) n ms (ms.length : Int) ((i + 1 : Nat) : Int) ms) (rf := some false) (fun n' k hk => ?_) (fun n' => ?_) L 0 (by omega) (by omega)).trans (by rw [Nat.sub_zero]; rfl)
        · show f32.s1 L N _ _ (f32.l1 L N _ _ n') ms[i] ms (ms.length : Int) i ms[i] ((ms[i]).length : Int) k ms = _
          unfold f32.s1 f32.s1'
          simp only [le0, cond_true, Bool.and_true, Bool.true_and, Int.toNat_natCast, lt_cast hk, at_lt hk, act1_ok, Option.bind_some, mv_eta, wi_nat (show k < 9223372036854775807 by omega)]
          unfold atOk mvOk
          rw [getD_lt hk]
          by_cases hA : -4 ≤ (ms[i])[k].act ∧ (ms[i])[k].act ≤ 4
          · rw [dt hA]
            simp only [Bool.not_true, cond_false, Bool.true_and]
            by_cases hB0 : (ms[i])[k].to < 0
            · rw [dt hB0, df (show ¬ (0 ≤ (ms[i])[k].to ∧ (ms[i])[k].to < (ms.length : Int)) by omega)]; rfl
            · rw [df hB0, cond_false]
              by_cases hB1 : (ms[i])[k].to ≥ (ms.length : Int)
              · rw [dt hB1, df (show ¬ (0 ≤ (ms[i])[k].to ∧ (ms[i])[k].to < (ms.length : Int)) by omega)]; rfl
              · rw [df hB1, cond_false, dt (show 0 ≤ (ms[i])[k].to ∧ (ms[i])[k].to < (ms.length : Int) by omega)]
                by_cases hk0 : k = 0
                · subst hk0
                  rfl
                · have hp : k - 1 < (ms[i]).length := by omega
                  rw [dt (show (k : Int) > 0 by omega), cond_true, pred_cast (by omega) (by omega)]
                  obtain ⟨r, hr, hd⟩ := byMove_ok L N (ms[i])[k - 1] (ms[i])[k]
                  simp only [le0, lt_cast hp, Bool.and_true, cond_true, Int.toNat_natCast, at_lt hp, hr, Option.bind_some, hd, df hk0, Bool.false_or, Bool.true_and, getD_lt hp]
                  cases lessM (ms[i])[k - 1] (ms[i])[k] <;> rfl
          · rw [df hA]
            rfl
        · show f32.s1 L N _ _ (f32.l1 L N _ _ n') ms[i] ms (ms.length : Int) i ms[i] ((ms[i]).length : Int) (ms[i]).length ms = _
          unfold f32.s1 f32.s1'
          simp only [ge_cast (Nat.lt_irrefl _), cond_false]
          show f32.l0 L N _ _ n ms (ms.length : Int) (wi ((i : Int) + 1)) ms = _
          rw [wi_nat (by omega)]
      · show f32.s0 L N _ _ (f32.l0 L N _ _ n) ms (ms.length : Int) ms.length ms = _
        unfold f32.s0 f32.s0'
        simp only [ge_cast (Nat.lt_irrefl _), cond_false]
        rfl
      · rw [Nat.sub_zero]
        cases allN (fun i => rowOk ms.length (ms.getD i [])) ms.length 0 <;> rfl
theorem graphOk_mv {g : Graph} (h : graphOk g = true) : 1 ≤ g.moves.length ∧ g.moves.length ≤ 60 ∧ ∀ (i : Nat) (hi : i < g.moves.length) (k : Nat) (hk : k < (g.moves[i]).length), -4 ≤ (g.moves[i])[k].act ∧ (g.moves[i])[k].act ≤ 4 ∧ 0 ≤ (g.moves[i])[k].to ∧ (g.moves[i])[k].to < (g.moves.length : Int) := by
  unfold graphOk at h
  simp only [Bool.and_eq_true, decide_eq_true_eq] at h
  refine ⟨h.1.1, h.1.2, fun i hi k hk => ?_⟩
  have h1 := allN_get _ 0 h.2 i (by omega) (by omega)
  simp only [getD_lt hi] at h1
  have h2 := allN_get _ 0 h1 k (by omega) (by omega)
  unfold atOk mvOk at h2
  rw [getD_lt hk] at h2
  simp only [Bool.and_eq_true, decide_eq_true_eq] at h2
  exact ⟨h2.1.1.1, h2.1.1.2, h2.1.2.1, h2.1.2.2⟩
end Go.Proofs.Ytdfjdbpklbehoaa.Ev
namespace Go.Proofs.Ytdfjdbpklbehoaa.Ev
open Go
set_option linter.unusedVariables false
set_option linter.unusedSimpArgs false
end Go.Proofs.Ytdfjdbpklbehoaa.Ev
namespace Go.Proofs.Ytdfjdbpklbehoaa.Ev
open Go
set_option linter.unusedVariables false
set_option linter.unusedSimpArgs false
def upM (k : Int) (n : Nat) : List Move := (List.range n).map fun (i : Nat) => Move.mk (k + 2 * (i : Int)) (k + 2 * (i : Int) + 1)
theorem upM_len (k : Int) (n : Nat) : (upM k n).length = n := by simp [upM]
def Mk : Int → List (List Move) → Int → Prop
  | k, [], j => j = k
  | k, r :: rs, j => r = upM k r.length ∧ Mk (k + 2 * (r.length : Int)) rs j
theorem Mk.le : ∀ {k j : Int} {rs : List (List Move)}, Mk k rs j → k ≤ j
  | k, j, [], h => by have h : j = k := h; omega
  | k, j, r :: rs, h => by have := Mk.le h.2; omega
theorem Mk.snoc : ∀ {k j : Int} {rs : List (List Move)} (n : Nat), Mk k rs j → Mk k (rs ++ [upM j n]) (j + 2 * (n : Int))
  | k, j, [], n, h => by
    have h : j = k := h
    subst h
    exact ⟨by rw [upM_len], by rw [upM_len]; exact rfl⟩
  | k, j, r :: rs, n, h => ⟨h.1, Mk.snoc n h.2⟩
end Go.Proofs.Ytdfjdbpklbehoaa.Ev
namespace Go.Proofs.Ytdfjdbpklbehoaa.Ev
open Go
set_option linter.unusedVariables false
set_option linter.unusedSimpArgs false
def Rises (l : List Int) : Prop := l.Pairwise (· < ·)
def Tr (l : List Bool) (t : Nat) : Prop := l.getD t false = true
theorem Tr_lt {l : List Bool} {t : Nat} (h : Tr l t) : t < l.length := by
  unfold Tr at h
  rw [List.getD_eq_getElem?_getD] at h
  by_cases hl : t < l.length
  · exact hl
  · rw [List.getElem?_eq_none (by omega)] at h; cases h
theorem Tr_set {l : List Bool} {j t : Nat} (hj : j < l.length) : Tr (l.set j true) t ↔ t = j ∨ Tr l t := by
  unfold Tr
  rw [List.getD_eq_getElem?_getD, List.getD_eq_getElem?_getD]
  by_cases h : t = j
  · subst h; rw [List.getElem?_set_self hj]; simp
  · rw [List.getElem?_set_ne (Ne.symm h)]; simp [h]
theorem Tr_replicate (n t : Nat) : ¬ Tr (List.replicate n false) t := by
  unfold Tr
  rw [List.getD_eq_getElem?_getD, List.getElem?_replicate]
  split <;> simp
def cnt : List Bool → Nat
  | [] => 0
  | b :: r => (bif b then 1 else 0) + cnt r
theorem cnt_le : ∀ l : List Bool, cnt l ≤ l.length
  | [] => Nat.le_refl _
  | b :: r => by have := cnt_le r; cases b <;> simp [cnt] <;> omega
theorem cnt_set : ∀ (l : List Bool) (j : Nat), j < l.length → l.getD j false = false → cnt (l.set j true) = cnt l + 1
  | b :: r, 0, _, h => by
    have hb : b = false := h
    subst hb
    simp [cnt]; omega
  | b :: r, j + 1, hj, h => by
    have := cnt_set r j (by simpa using hj) (by simpa using h)
    simp only [List.set_cons_succ, cnt, this]; omega
theorem cnt_replicate (n : Nat) : cnt (List.replicate n false) = 0 := by
  induction n with
  | zero => rfl
  | succ n ih => rw [List.replicate_succ]; simp [cnt, ih]
inductive Slip (ms : List (List Move)) (X : Nat → Prop) : Nat → Prop
  | base (t : Nat) (h : X t) : Slip ms X t
  | step (s t : Nat) (hs : Slip ms X s) (hl : s < ms.length) (k : Nat) (hk : k < (ms[s]).length) (ha : (ms[s])[k].act = 0) (ht : (ms[s])[k].to = (t : Int)) : Slip ms X t
theorem Slip.mono {ms : List (List Move)} {X Y : Nat → Prop} (h : ∀ t, X t → Y t) {t : Nat} (r : Slip ms X t) : Slip ms Y t := by
  induction r with
  | base t hx => exact .base t (h t hx)
  | step s t _ hl k hk ha ht ih => exact .step s t ih hl k hk ha ht
theorem Slip.iff {ms : List (List Move)} {X Y : Nat → Prop} (h : ∀ t, X t ↔ Y t) (t : Nat) : Slip ms X t ↔ Slip ms Y t := ⟨fun r => r.mono fun t hx => (h t).1 hx, fun r => r.mono fun t hx => (h t).2 hx⟩
def Leads (ms : List (List Move)) : Prop := ms.length ≤ 60 ∧ ∀ (i : Nat) (hi : i < ms.length), (ms[i]).length ≤ 1048576 ∧ ∀ (k : Nat) (hk : k < (ms[i]).length), 0 ≤ (ms[i])[k].to ∧ (ms[i])[k].to < (ms.length : Int)
theorem leads_of {g : Graph} (h : graphOk g = true) (hs : g.moves.length + gsize g.moves ≤ 1048576) : Leads g.moves := by
  obtain ⟨h1, h2, h3⟩ := graphOk_mv h
  refine ⟨h2, fun i hi => ⟨?_, fun k hk => ?_⟩⟩
  · have := gsize_row _ (List.getElem_mem hi); omega
  · have := h3 i hi k hk; exact ⟨this.2.2.1, this.2.2.2⟩
theorem Leads.nat {ms : List (List Move)} (h : Leads ms) {i : Nat} (hi : i < ms.length) {k : Nat} (hk : k < (ms[i]).length) : ∃ t : Nat, (ms[i])[k].to = (t : Int) ∧ t < ms.length := by
  obtain ⟨h1, h2⟩ := (h.2 i hi).2 k hk
  obtain ⟨t, ht⟩ := Int.eq_ofNat_of_zero_le h1
  exact ⟨t, ht, by omega⟩
end Go.Proofs.Ytdfjdbpklbehoaa.Ev
namespace Go.Proofs.Ytdfjdbpklbehoaa.Ev
open Go
set_option linter.unusedVariables false
set_option linter.unusedSimpArgs false
def QOk (ms : List (List Move)) (seen : List Bool) (q : List Int) : Prop := seen.length = ms.length ∧ (∀ v ∈ q, ∃ t : Nat, v = (t : Int) ∧ Tr seen t) ∧ (∀ t : Nat, Tr seen t → (t : Int) ∈ q) ∧ q.length = cnt seen ∧ q.Nodup
theorem QOk.add {ms : List (List Move)} {seen : List Bool} {q : List Int} (h : QOk ms seen q) {t : Nat} (ht : t < ms.length) (hf : seen.getD t false = false) : QOk ms (seen.set t true) (q ++ [(t : Int)]) := by
  obtain ⟨h1, h2, h3, h4, h5⟩ := h
  refine ⟨by simp [h1], fun v hv => ?_, fun t' ht' => ?_, ?_, ?_⟩
  · rcases List.mem_append.1 hv with hv | hv
    · obtain ⟨s, rfl, hs⟩ := h2 v hv
      exact ⟨s, rfl, (Tr_set (by omega)).2 (.inr hs)⟩
    · obtain rfl := List.mem_singleton.1 hv
      exact ⟨t, rfl, (Tr_set (by omega)).2 (.inl rfl)⟩
  · rcases (Tr_set (by omega)).1 ht' with rfl | h
    · exact List.mem_append_right _ (List.mem_singleton.2 rfl)
    · exact List.mem_append_left _ (h3 t' h)
  · rw [List.length_append, cnt_set _ _ (by omega) hf, h4]; rfl
  · refine List.nodup_append.2 ⟨h5, by simp, fun a ha b hb e => ?_⟩
    obtain rfl := List.mem_singleton.1 hb
    obtain ⟨s, hs, hT⟩ := h2 a ha
    obtain rfl : s = t := by omega
    unfold Tr at hT
    rw [hf] at hT; cases hT
theorem QOk.len {ms : List (List Move)} {seen : List Bool} {q : List Int} (h : QOk ms seen q) : q.length ≤ ms.length := by
  have := cnt_le seen
  obtain ⟨h1, -, -, h4, -⟩ := h
  omega
theorem sortI_rises {q : List Int} (h : q.Nodup) : Rises (sortI q) := by
  have h1 : (sortI q).Pairwise fun a b => decide (a ≤ b) = true := List.pairwise_mergeSort (fun a b c hab hbc => by simp only [decide_eq_true_eq] at *; omega) (fun a b => by simp only [Bool.or_eq_true, decide_eq_true_eq]; omega) q
  have h2 : (sortI q).Nodup := (List.mergeSort_perm q _).nodup_iff.2 h
  exact (h1.and h2).imp fun {a b} hab => by have := of_decide_eq_true hab.1; have := hab.2; omega
theorem slip1_ok (L N : Nat) (ms : List (List Move)) (list : List Int) (hm : Leads ms) (hl : ∀ v ∈ list, 0 ≤ v ∧ v < (ms.length : Int)) (hLl : list.length < L) (hll : list.length ≤ lim) (hL : 1048576 < L) :
    ∃ q, f112 L N ⟨ms⟩ list = some q ∧ q.length ≤ ms.length ∧ (∀ v ∈ q, 0 ≤ v ∧ v < (ms.length : Int)) ∧ (∀ t : Nat, (t : Int) ∈ q ↔ Slip ms (fun s => (s : Int) ∈ list) t) ∧ Rises q := by
  have hlim := lim_eq
  have hn := hm.1
  show ∃ q, f112.b L N some ⟨ms⟩ list = some q ∧ _
  unfold f112.b f112.b'
  have h0 : (decide ((0 : Int) ≤ (ms.length : Int)) && decide ((ms.length : Int) ≤ (lim : Int))) = true := by rw [le0, dt (by omega)]; rfl
  simp only [h0, cond_true]
  have work : ∀ (m k : Nat) (seen : List Bool) (q : List Int), k ≤ q.length → ms.length + 1 - k < m → QOk ms seen q → (∀ v ∈ q, ∃ t : Nat, v = (t : Int) ∧ Slip ms (fun s => (s : Int) ∈ list) t) → (∀ v ∈ list, v ∈ q) →
      (∀ (j : Nat) (hj : j < q.length), j < k → ∀ s : Nat, q[j] = (s : Int) → ∀ (hs : s < ms.length) (i : Nat) (hi : i < (ms[s]).length), (ms[s])[i].act = 0 → ∀ t : Nat, (ms[s])[i].to = (t : Int) → Tr seen t) →
      ∃ r, f112.l1 L N (fun z19 => f112.p1_e2 L N some z19) m (k : Int) ms seen q = some r ∧ r.length ≤ ms.length ∧ (∀ v ∈ r, 0 ≤ v ∧ v < (ms.length : Int)) ∧ (∀ t : Nat, (t : Int) ∈ r ↔ Slip ms (fun s => (s : Int) ∈ list) t) ∧ Rises r := by
    intro m
    induction m with
    | zero => intro k seen q _ h; omega
    | succ m ih =>
      intro k seen q hk hmk hq hsl hba hpr
      have hql := hq.len
      show ∃ r, f112.s1 L N _ (f112.l1 L N _ m) (k : Int) ms seen q = some r ∧ _
      unfold f112.s1 f112.s1'
      by_cases hlt : k < q.length
      · obtain ⟨s, hs, hTs⟩ := hq.2.1 _ (List.getElem_mem hlt)
        have hsn : s < ms.length := by have := Tr_lt hTs; rw [hq.1] at this; exact this
        have hrow := (hm.2 s hsn).1
        simp only [lt_cast hlt, le0, Bool.and_true, cond_true, Int.toNat_natCast, at_lt hlt, hs, lt_cast hsn, at_lt hsn]
        obtain ⟨t0, hst0, hslip0⟩ := hsl _ (List.getElem_mem hlt)
        obtain rfl : s = t0 := by rw [hs] at hst0; omega
        obtain ⟨st, g1, g2, g3, g4, g5, g6⟩ := inv_loop (l := fun n' i st => f112.l2 L N (fun z27 z28 z29 z30 => f112.p2_e4 L N (fun z19 => f112.p1_e2 L N some z19) (f112.l1 L N (fun z19 => f112.p1_e2 L N some z19) m) z27 z28 z29 z30) n' (k : Int) ms[s] ((ms[s]).length : Int) i ms st.1 st.2) (len := (ms[s]).length)
          (K := fun st : List Bool × List Int => f112.l1 L N (fun z19 => f112.p1_e2 L N some z19) m ((k + 1 : Nat) : Int) ms st.1 st.2)
          (fun i st => QOk ms st.1 st.2 ∧ (∀ v ∈ st.2, ∃ t : Nat, v = (t : Int) ∧ Slip ms (fun s => (s : Int) ∈ list) t) ∧ (∀ j : Nat, j < q.length → st.2[j]? = q[j]?) ∧ (∀ t, Tr seen t → Tr st.1 t) ∧ ∀ (i' : Nat) (hi' : i' < (ms[s]).length), i' < i → (ms[s])[i'].act = 0 → ∀ t : Nat, (ms[s])[i'].to = (t : Int) → Tr st.1 t)
          (fun n' i st hi ⟨r1, r2, r3, r4, r5⟩ => by
            show ∃ s', f112.s2 L N _ (f112.l2 L N _ n') (k : Int) ms[s] ((ms[s]).length : Int) i ms st.1 st.2 = _ ∧ _
            unfold f112.s2 f112.s2'
            obtain ⟨t, ht, htl⟩ := hm.nat hsn hi
            have hsl1 := r1.1
            simp only [le0, lt_cast hi, Bool.and_true, Bool.true_and, cond_true, Int.toNat_natCast, at_lt hi, ht, lt_cast (show t < st.1.length by omega), atD]
            unfold f112.j0'
            simp only [le0, lt_cast (show t < st.1.length by omega), Bool.and_true, cond_true, Int.toNat_natCast, wi_nat (show i < 9223372036854775807 by omega)]
            have stay : ¬ ((ms[s])[i].act = 0 ∧ ¬ Tr st.1 t) → (QOk ms st.1 st.2 ∧ (∀ v ∈ st.2, ∃ t : Nat, v = (t : Int) ∧ Slip ms (fun s => (s : Int) ∈ list) t) ∧ (∀ j : Nat, j < q.length → st.2[j]? = q[j]?) ∧ (∀ t, Tr seen t → Tr st.1 t) ∧ ∀ (i' : Nat) (hi' : i' < (ms[s]).length), i' < i + 1 → (ms[s])[i'].act = 0 → ∀ t : Nat, (ms[s])[i'].to = (t : Int) → Tr st.1 t) := by
              intro hno
              refine ⟨r1, r2, r3, r4, fun i' hi' hlt' ha' t' ht' => ?_⟩
              by_cases he : i' = i
              · subst he
                rw [ht] at ht'
                obtain rfl : t = t' := by omega
                by_cases hT : Tr st.1 t
                · exact hT
                · exact absurd ⟨ha', hT⟩ hno
              · exact r5 i' hi' (by omega) ha' t' ht'
            by_cases ha : (ms[s])[i].act = 0
            · have hb : ((ms[s])[i].act == 0) = true := by simpa using ha
              rw [hb]
              simp only [cond_true]
              cases ht2 : st.1.getD t false
              · have hqq := r1.len
                have hle : decide (st.2.length + ([(t : Int)] : List Int).length ≤ lim) = true := dt (by simp only [List.length_cons, List.length_nil]; omega)
                simp only [Bool.not_false, cond_true, hle]
                refine ⟨(st.1.set t true, st.2 ++ [(t : Int)]), rfl, r1.add htl ht2, fun v hv => ?_, fun j hj => ?_, fun t' ht' => (Tr_set (by omega)).2 (.inr (r4 t' ht')), fun i' hi' hlt' ha' t' ht' => ?_⟩
                · rcases List.mem_append.1 hv with hv | hv
                  · exact r2 v hv
                  · obtain rfl := List.mem_singleton.1 hv
                    exact ⟨t, rfl, .step s t hslip0 hsn i hi ha ht⟩
                · have hjl : j < st.2.length := by
                    have := r3 j hj
                    rw [List.getElem?_eq_getElem hj] at this
                    exact (List.getElem?_eq_some_iff.1 this).1
                  show (st.2 ++ [(t : Int)])[j]? = q[j]?
                  rw [List.getElem?_append_left hjl]; exact r3 j hj
                · by_cases he : i' = i
                  · subst he
                    rw [ht] at ht'
                    obtain rfl : t = t' := by omega
                    exact (Tr_set (by omega)).2 (.inl rfl)
                  · exact (Tr_set (by omega)).2 (.inr (r5 i' hi' (by omega) ha' t' ht'))
              · simp only [Bool.not_true, cond_false]
                exact ⟨st, rfl, stay fun h => h.2 ht2⟩
            · have hb : ((ms[s])[i].act == 0) = false := by simpa using ha
              rw [hb]
              simp only [cond_false]
              exact ⟨st, rfl, stay fun h => ha h.1⟩)
          (fun n' st _ => by
            show f112.s2 L N _ (f112.l2 L N _ n') (k : Int) ms[s] ((ms[s]).length : Int) (ms[s]).length ms st.1 st.2 = _
            unfold f112.s2 f112.s2'
            simp only [ge_cast (Nat.lt_irrefl _), cond_false]
            show f112.l1 L N _ m (wi ((k : Int) + 1)) ms st.1 st.2 = _
            rw [wi_nat (by omega)])
          L 0 (seen, q) (by omega) (by omega) ⟨hq, hsl, fun _ _ => rfl, fun _ h => h, fun _ _ h => by omega⟩
        have hlen : q.length ≤ st.2.length := by
          by_cases h0 : q.length = 0
          · omega
          · have := g4 (q.length - 1) (by omega)
            rw [List.getElem?_eq_getElem (show q.length - 1 < q.length by omega)] at this
            have := (List.getElem?_eq_some_iff.1 this).1
            omega
        refine (fun ⟨r, h1, h2⟩ => ⟨r, g1.trans h1, h2⟩ : (∃ r, _ = some r ∧ _) → ∃ r, _ = some r ∧ _) (ih (k + 1) st.1 st.2 (by omega) (by omega) g2 g3 (fun v hv => ?_) (fun j hj hjk s' hs' hsl' i hi ha t ht => ?_))
        · obtain ⟨j, hj, rfl⟩ := List.mem_iff_getElem.1 (hba v hv)
          have := g4 j hj
          rw [List.getElem?_eq_getElem hj] at this
          exact List.mem_of_getElem? this
        · by_cases hjk' : j = k
          · subst hjk'
            have := g4 j hlt
            rw [List.getElem?_eq_getElem hlt, List.getElem?_eq_getElem hj] at this
            have h9 : st.2[j] = q[j] := Option.some.inj this
            rw [hs', hs] at h9
            obtain rfl : s' = s := by omega
            exact g6 i hi hi ha t ht
          · have hjq : j < q.length := by omega
            have := g4 j hjq
            rw [List.getElem?_eq_getElem hjq, List.getElem?_eq_getElem hj] at this
            have h9 : st.2[j] = q[j] := Option.some.inj this
            exact g5 t (hpr j hjq (by omega) s' (by rw [← h9]; exact hs') hsl' i hi ha t ht)
      · have hkl : k = q.length := by omega
        subst hkl
        simp only [ge_cast (Nat.lt_irrefl _), cond_false]
        have hfs : fsort q = some () := by unfold fsort; rw [dt (by omega)]; rfl
        refine ⟨sortI q, ?_, by rw [sortI_length]; exact hql, fun v hv => ?_, fun t => ?_, sortI_rises hq.2.2.2.2⟩
        · show ((fsort q).bind fun _ => some (sortI q)) = _
          rw [hfs]; rfl
        · obtain ⟨t, rfl, hT⟩ := hq.2.1 v ((sortI_mem q v).1 hv)
          have := Tr_lt hT
          rw [hq.1] at this
          omega
        · rw [sortI_mem]
          constructor
          · intro h
            obtain ⟨t', h1, h2⟩ := hsl _ h
            obtain rfl : t = t' := by omega
            exact h2
          · intro r
            refine hq.2.2.1 t ?_
            induction r with
            | base t hx =>
              obtain ⟨t', h1, h2⟩ := hq.2.1 _ (hba _ hx)
              obtain rfl : t = t' := by omega
              exact h2
            | step s t _ hs i hi ha ht ihr =>
              obtain ⟨j, hj, hjs⟩ := List.mem_iff_getElem.1 (hq.2.2.1 s ihr)
              exact hpr j hj hj s hjs hs i hi ha t ht
  obtain ⟨st, g1, g2, g3, g4⟩ := inv_loop (l := fun n i st => f112.l0 L N (fun z6 z7 z8 => f112.p0_e0 L N some z6 z7 z8) n list (list.length : Int) i ms st.1 st.2) (len := list.length)
    (K := fun st : List Bool × List Int => f112.l1 L N (fun z19 => f112.p1_e2 L N some z19) L (0 : Int) ms st.1 st.2)
    (fun i st => QOk ms st.1 st.2 ∧ (∀ v ∈ st.2, v ∈ list) ∧ ∀ (j : Nat) (hj : j < list.length), j < i → list[j] ∈ st.2)
    (fun n i st hi ⟨r1, r2, r3⟩ => by
      show ∃ s', f112.s0 L N _ (f112.l0 L N _ n) list (list.length : Int) i ms st.1 st.2 = _ ∧ _
      unfold f112.s0 f112.s0'
      obtain ⟨h1, h2⟩ := hl _ (List.getElem_mem hi)
      obtain ⟨t, ht⟩ := Int.eq_ofNat_of_zero_le h1
      have htl : t < ms.length := by omega
      have hsl1 := r1.1
      have hqq := r1.len
      have hle : decide (st.2.length + ([(t : Int)] : List Int).length ≤ lim) = true := dt (by simp only [List.length_cons, List.length_nil]; omega)
      simp only [le0, lt_cast hi, Bool.and_true, Bool.true_and, cond_true, Int.toNat_natCast, at_lt hi, ht, lt_cast (show t < st.1.length by omega), atD, hle, wi_nat (show i < 9223372036854775807 by omega)]
      cases ht2 : st.1.getD t false
      · simp only [Bool.not_false, cond_true]
        refine ⟨(st.1.set t true, st.2 ++ [(t : Int)]), rfl, r1.add htl ht2, fun v hv => ?_, fun j hj hji => ?_⟩
        · rcases List.mem_append.1 hv with hv | hv
          · exact r2 v hv
          · obtain rfl := List.mem_singleton.1 hv
            rw [← ht]; exact List.getElem_mem hi
        · by_cases he : j = i
          · subst he
            rw [ht]; exact List.mem_append_right _ (List.mem_singleton.2 rfl)
          · exact List.mem_append_left _ (r3 j hj (by omega))
      · simp only [Bool.not_true, cond_false]
        refine ⟨st, rfl, r1, r2, fun j hj hji => ?_⟩
        by_cases he : j = i
        · subst he
          rw [ht]; exact r1.2.2.1 t ht2
        · exact r3 j hj (by omega))
    (fun n st _ => by
      show f112.s0 L N _ (f112.l0 L N _ n) list (list.length : Int) list.length ms st.1 st.2 = _
      unfold f112.s0 f112.s0'
      simp only [ge_cast (Nat.lt_irrefl _), cond_false]
      rfl)
    L 0 (List.replicate ms.length false, []) (by omega) (by omega)
    ⟨⟨by simp, fun v hv => by simp at hv, fun t h => absurd h (Tr_replicate _ t), by rw [cnt_replicate]; rfl, List.nodup_nil⟩, fun v hv => by simp at hv, fun _ _ h => by omega⟩
  have e0 : ((ms.length : Int)).toNat = ms.length := rfl
  rw [e0]
  refine (show ∃ q, _ = some q ∧ _ from ?_)
  have h1 := work L 0 st.1 st.2 (by omega) (by omega) g2 (fun v hv => by
    obtain ⟨t, rfl, -⟩ := g2.2.1 v hv
    exact ⟨t, rfl, .base t (g3 _ hv)⟩) (fun v hv => by
    obtain ⟨j, hj, rfl⟩ := List.mem_iff_getElem.1 hv
    exact g4 j hj hj) (fun _ _ h => by omega)
  obtain ⟨r, h2, h3⟩ := h1
  exact ⟨r, g1.trans h2, h3⟩
end Go.Proofs.Ytdfjdbpklbehoaa.Ev
namespace Go.Proofs.Ytdfjdbpklbehoaa.Ev
open Go
set_option linter.unusedVariables false
set_option linter.unusedSimpArgs false
theorem rows_snoc {α : Type} {P : Nat → α → Prop} {l : List α} {x : α} (h : ∀ (j : Nat) (hj : j < l.length), P j l[j]) (hx : P l.length x) : ∀ (j : Nat) (hj : j < (l ++ [x]).length), P j (l ++ [x])[j] := by
  intro j hj
  by_cases e : j < l.length
  · rw [List.getElem_append_left e]; exact h j e
  · have : j = l.length := by simp at hj; omega
    subst this
    rw [List.getElem_append_right (Nat.le_refl _)]
    simpa using hx
theorem slips2_work {R : Type} (L N : Nat) (K : Int → List (List Move) → List (List Bool) → List Bool → Option R) (ms : List (List Move)) (i0 : Nat) (hi0 : i0 < ms.length) (rows : List (List Bool)) (hm : Leads ms) (hL : 1048576 < L) :
    ∀ (m k : Nat) (seen : List Bool) (q : List Int), k ≤ q.length → ms.length + 1 - k < m → QOk ms seen q → (∀ v ∈ q, ∃ t : Nat, v = (t : Int) ∧ Slip ms (fun s => s = i0) t) → (i0 : Int) ∈ q →
      (∀ (j : Nat) (hj : j < q.length), j < k → ∀ s : Nat, q[j] = (s : Int) → ∀ (hs : s < ms.length) (i : Nat) (hi : i < (ms[s]).length), (ms[s])[i].act = 0 → ∀ t : Nat, (ms[s])[i].to = (t : Int) → Tr seen t) →
      ∃ seen' : List Bool, seen'.length = ms.length ∧ (∀ t : Nat, Tr seen' t ↔ Slip ms (fun s => s = i0) t) ∧ f122.l1 L N K m (i0 : Int) (k : Int) ms rows seen q = K (i0 : Int) ms rows seen' := by
  have hlim := lim_eq
  have hn := hm.1
  intro m
  induction m with
  | zero => intro k seen q _ h; omega
  | succ m ih =>
    intro k seen q hk hmk hq hsl hba hpr
    have hql := hq.len
    show ∃ seen', _ ∧ _ ∧ f122.s1 L N _ (f122.l1 L N _ m) (i0 : Int) (k : Int) ms rows seen q = _
    unfold f122.s1 f122.s1'
    by_cases hlt : k < q.length
    · obtain ⟨s, hs, hTs⟩ := hq.2.1 _ (List.getElem_mem hlt)
      have hsn : s < ms.length := by have := Tr_lt hTs; rw [hq.1] at this; exact this
      have hrow := (hm.2 s hsn).1
      simp only [lt_cast hlt, le0, Bool.and_true, cond_true, Int.toNat_natCast, at_lt hlt, hs, lt_cast hsn, at_lt hsn]
      obtain ⟨t0, hst0, hslip0⟩ := hsl _ (List.getElem_mem hlt)
      obtain rfl : s = t0 := by rw [hs] at hst0; omega
      obtain ⟨st, g1, g2, g3, g4, g5, g6⟩ := inv_loop (l := fun n' i st => f122.l2 L N (fun z22 z23 z24 z25 z26 z27 => f122.p2_e4 L N K (f122.l1 L N K m) z22 z23 z24 z25 z26 z27) n' (i0 : Int) (k : Int) ms[s] i ms rows st.1 st.2) (len := (ms[s]).length)
        (K := fun st : List Bool × List Int => f122.l1 L N K m (i0 : Int) ((k + 1 : Nat) : Int) ms rows st.1 st.2)
        (fun i st => QOk ms st.1 st.2 ∧ (∀ v ∈ st.2, ∃ t : Nat, v = (t : Int) ∧ Slip ms (fun s => s = i0) t) ∧ (∀ j : Nat, j < q.length → st.2[j]? = q[j]?) ∧ (∀ t, Tr seen t → Tr st.1 t) ∧ ∀ (i' : Nat) (hi' : i' < (ms[s]).length), i' < i → (ms[s])[i'].act = 0 → ∀ t : Nat, (ms[s])[i'].to = (t : Int) → Tr st.1 t)
        (fun n' i st hi ⟨r1, r2, r3, r4, r5⟩ => by
          show ∃ s', f122.s2 L N _ (f122.l2 L N _ n') (i0 : Int) (k : Int) ms[s] i ms rows st.1 st.2 = _ ∧ _
          unfold f122.s2 f122.s2'
          obtain ⟨t, ht, htl⟩ := hm.nat hsn hi
          have hsl1 := r1.1
          simp only [le0, lt_cast hi, Bool.and_true, Bool.true_and, cond_true, Int.toNat_natCast, at_lt hi, ht, lt_cast (show t < st.1.length by omega), atD]
          unfold f122.j0'
          simp only [le0, lt_cast hi, lt_cast (show t < st.1.length by omega), Bool.and_true, cond_true, Int.toNat_natCast, at_lt hi, ht, wi_nat (show i < 9223372036854775807 by omega)]
          have stay : ¬ ((ms[s])[i].act = 0 ∧ ¬ Tr st.1 t) → (QOk ms st.1 st.2 ∧ (∀ v ∈ st.2, ∃ t : Nat, v = (t : Int) ∧ Slip ms (fun s => s = i0) t) ∧ (∀ j : Nat, j < q.length → st.2[j]? = q[j]?) ∧ (∀ t, Tr seen t → Tr st.1 t) ∧ ∀ (i' : Nat) (hi' : i' < (ms[s]).length), i' < i + 1 → (ms[s])[i'].act = 0 → ∀ t : Nat, (ms[s])[i'].to = (t : Int) → Tr st.1 t) := by
            intro hno
            refine ⟨r1, r2, r3, r4, fun i' hi' hlt' ha' t' ht' => ?_⟩
            by_cases he : i' = i
            · subst he
              rw [ht] at ht'
              obtain rfl : t = t' := by omega
              by_cases hT : Tr st.1 t
              · exact hT
              · exact absurd ⟨ha', hT⟩ hno
            · exact r5 i' hi' (by omega) ha' t' ht'
          by_cases ha : (ms[s])[i].act = 0
          · have hb : ((ms[s])[i].act == 0) = true := by simpa using ha
            rw [hb]
            simp only [cond_true]
            cases ht2 : st.1.getD t false
            · have hqq := r1.len
              have hle : decide (st.2.length + ([(t : Int)] : List Int).length ≤ lim) = true := dt (by simp only [List.length_cons, List.length_nil]; omega)
              simp only [Bool.not_false, cond_true, hle]
              refine ⟨(st.1.set t true, st.2 ++ [(t : Int)]), rfl, r1.add htl ht2, fun v hv => ?_, fun j hj => ?_, fun t' ht' => (Tr_set (by omega)).2 (.inr (r4 t' ht')), fun i' hi' hlt' ha' t' ht' => ?_⟩
              · rcases List.mem_append.1 hv with hv | hv
                · exact r2 v hv
                · obtain rfl := List.mem_singleton.1 hv
                  exact ⟨t, rfl, .step s t hslip0 hsn i hi ha ht⟩
              · have hjl : j < st.2.length := by
                  have := r3 j hj
                  rw [List.getElem?_eq_getElem hj] at this
                  exact (List.getElem?_eq_some_iff.1 this).1
                show (st.2 ++ [(t : Int)])[j]? = q[j]?
                rw [List.getElem?_append_left hjl]; exact r3 j hj
              · by_cases he : i' = i
                · subst he
                  rw [ht] at ht'
                  obtain rfl : t = t' := by omega
                  exact (Tr_set (by omega)).2 (.inl rfl)
                · exact (Tr_set (by omega)).2 (.inr (r5 i' hi' (by omega) ha' t' ht'))
            · simp only [Bool.not_true, cond_false]
              exact ⟨st, rfl, stay fun h => h.2 ht2⟩
          · have hb : ((ms[s])[i].act == 0) = false := by simpa using ha
            rw [hb]
            simp only [cond_false]
            exact ⟨st, rfl, stay fun h => ha h.1⟩)
        (fun n' st _ => by
          show f122.s2 L N _ (f122.l2 L N _ n') (i0 : Int) (k : Int) ms[s] (ms[s]).length ms rows st.1 st.2 = _
          unfold f122.s2 f122.s2'
          simp only [ge_cast (Nat.lt_irrefl _), cond_false]
          show f122.l1 L N _ m (i0 : Int) (wi ((k : Int) + 1)) ms rows st.1 st.2 = _
          rw [wi_nat (by omega)])
        L 0 (seen, q) (by omega) (by omega) ⟨hq, hsl, fun _ _ => rfl, fun _ h => h, fun _ _ h => by omega⟩
      have hlen : q.length ≤ st.2.length := by
        by_cases h0 : q.length = 0
        · omega
        · have := g4 (q.length - 1) (by omega)
          rw [List.getElem?_eq_getElem (show q.length - 1 < q.length by omega)] at this
          have := (List.getElem?_eq_some_iff.1 this).1
          omega
      refine (fun ⟨r, h0, h1, h2⟩ => ⟨r, h0, h1, g1.trans h2⟩ : (∃ r, _ ∧ _ ∧ _ = _) → ∃ r, _ ∧ _ ∧ _ = _) (ih (k + 1) st.1 st.2 (by omega) (by omega) g2 g3 ?_ (fun j hj hjk s' hs' hsl' i hi ha t ht => ?_))
      · obtain ⟨j, hj, he⟩ := List.mem_iff_getElem.1 hba
        have := g4 j hj
        rw [List.getElem?_eq_getElem hj, he] at this
        exact List.mem_of_getElem? this
      · by_cases hjk' : j = k
        · subst hjk'
          have := g4 j hlt
          rw [List.getElem?_eq_getElem hlt, List.getElem?_eq_getElem hj] at this
          have h9 : st.2[j] = q[j] := Option.some.inj this
          rw [hs', hs] at h9
          obtain rfl : s' = s := by omega
          exact g6 i hi hi ha t ht
        · have hjq : j < q.length := by omega
          have := g4 j hjq
          rw [List.getElem?_eq_getElem hjq, List.getElem?_eq_getElem hj] at this
          have h9 : st.2[j] = q[j] := Option.some.inj this
          exact g5 t (hpr j hjq (by omega) s' (by rw [← h9]; exact hs') hsl' i hi ha t ht)
    · have hkl : k = q.length := by omega
      subst hkl
      simp only [ge_cast (Nat.lt_irrefl _), cond_false]
      refine ⟨seen, hq.1, fun t => ?_, rfl⟩
      constructor
      · intro h
        obtain ⟨t', h1, h2⟩ := hsl _ (hq.2.2.1 t h)
        obtain rfl : t = t' := by omega
        exact h2
      · intro r
        induction r with
        | base t hx =>
          subst hx
          obtain ⟨t', h1, h2⟩ := hq.2.1 _ hba
          obtain rfl : t = t' := by omega
          exact h2
        | step s t _ hs i hi ha ht ihr =>
          obtain ⟨j, hj, hjs⟩ := List.mem_iff_getElem.1 (hq.2.2.1 s ihr)
          exact hpr j hj hj s hjs hs i hi ha t ht
theorem l5Slips_ok (L N : Nat) (ms : List (List Move)) (hm : Leads ms) (hL : 1048576 < L) :
    ∃ rs, f122 L N ⟨ms⟩ = some rs ∧ rs.length = ms.length ∧ ∀ (j : Nat) (hj : j < rs.length), (rs[j]).length = ms.length ∧ ∀ t : Nat, Tr rs[j] t ↔ Slip ms (fun s => s = j) t := by
  have hlim := lim_eq
  have hn := hm.1
  show ∃ rs, f122.b L N some ⟨ms⟩ = some rs ∧ _
  unfold f122.b f122.b'
  have key : ∀ (n i : Nat) (rs : List (List Bool)), rs.length = i → i ≤ ms.length → ms.length - i < n → (∀ (j : Nat) (hj : j < rs.length), (rs[j]).length = ms.length ∧ ∀ t : Nat, Tr rs[j] t ↔ Slip ms (fun s => s = j) t) →
      ∃ rs', f122.l0 L N (fun z3 => f122.p0_e0 L N some z3) n (i : Int) ms rs = some rs' ∧ rs'.length = ms.length ∧ ∀ (j : Nat) (hj : j < rs'.length), (rs'[j]).length = ms.length ∧ ∀ t : Nat, Tr rs'[j] t ↔ Slip ms (fun s => s = j) t := by
    intro n
    induction n with
    | zero => intro i rs _ _ h; omega
    | succ n ih =>
      intro i rs hl hi hn' hr
      show ∃ rs', f122.s0 L N _ (f122.l0 L N _ n) (i : Int) ms rs = _ ∧ _
      unfold f122.s0 f122.s0'
      by_cases hlt : i < ms.length
      · have h0 : decide ((ms.length : Int) ≤ (lim : Int)) = true := dt (by omega)
        have e0 : ((ms.length : Int)).toNat = ms.length := rfl
        simp only [lt_cast hlt, cond_true, h0, e0, le0, List.length_replicate, Bool.and_true, Int.toNat_natCast]
        have hfalse : (List.replicate ms.length false).getD i false = false := by
          rw [List.getD, List.getElem?_replicate]; split <;> rfl
        have hQ : QOk ms ((List.replicate ms.length false).set i true) [(i : Int)] := by
          have h : QOk ms (List.replicate ms.length false) [] := ⟨by simp, fun v hv => by simp at hv, fun t h => absurd h (Tr_replicate _ t), by rw [cnt_replicate]; rfl, List.nodup_nil⟩
          exact h.add hlt hfalse
        obtain ⟨seen', q1, q2, q3⟩ := slips2_work L N (fun z10 z11 z12 z13 => f122.p1_e2 L N (fun z3 => f122.p0_e0 L N some z3) (f122.l0 L N (fun z3 => f122.p0_e0 L N some z3) n) z10 z11 z12 z13) ms i hlt rs hm hL L 0 _ _ (by simp) (by omega) hQ
          (fun v hv => by obtain rfl := List.mem_singleton.1 hv; exact ⟨i, rfl, .base i rfl⟩) (List.mem_singleton.2 rfl) (fun _ _ h => by omega)
        have q3' : f122.l1 L N (fun z10 z11 z12 z13 => f122.p1_e2 L N (fun z3 => f122.p0_e0 L N some z3) (f122.l0 L N (fun z3 => f122.p0_e0 L N some z3) n) z10 z11 z12 z13) L (i : Int) (0 : Int) ms rs ((List.replicate ms.length false).set i true) [(i : Int)] = _ := q3
        rw [q3']
        show ∃ rs', f122.p1_e2' L N _ _ (i : Int) ms rs seen' = _ ∧ _
        unfold f122.p1_e2'
        have hle : decide (rs.length + ([seen'] : List (List Bool)).length ≤ lim) = true := dt (by simp only [List.length_cons, List.length_nil]; omega)
        rw [hle, cond_true, wi_nat (by omega)]
        exact ih (i + 1) _ (by simp [hl]) (by omega) (by omega) (rows_snoc (P := fun j r => r.length = ms.length ∧ ∀ t : Nat, Tr r t ↔ Slip ms (fun s => s = j) t) hr (by rw [hl]; exact ⟨q1, q2⟩))
      · simp only [ge_cast hlt, cond_false]
        have hi' : i = ms.length := by omega
        subst hi'
        exact ⟨rs, rfl, hl, hr⟩
  exact key L 0 [] rfl (by omega) (by omega) (fun j hj => by simp at hj)
theorem slips_ok (L N : Nat) (ms : List (List Move)) (hm : Leads ms) (hL : 1048576 < L) :
    ∃ rs, f124 L N ⟨ms⟩ = some rs ∧ rs.length = ms.length ∧ ∀ (j : Nat) (hj : j < rs.length), (rs[j]).length ≤ ms.length ∧ (∀ v ∈ rs[j], 0 ≤ v ∧ v < (ms.length : Int)) ∧ ∀ t : Nat, (t : Int) ∈ rs[j] ↔ Slip ms (fun s => s = j) t := by
  have hlim := lim_eq
  have hn := hm.1
  show ∃ rs, f124.b L N some ⟨ms⟩ = some rs ∧ _
  unfold f124.b f124.b'
  have key : ∀ (n i : Nat) (rs : List (List Int)), rs.length = i → i ≤ ms.length → ms.length - i < n → (∀ (j : Nat) (hj : j < rs.length), (rs[j]).length ≤ ms.length ∧ (∀ v ∈ rs[j], 0 ≤ v ∧ v < (ms.length : Int)) ∧ ∀ t : Nat, (t : Int) ∈ rs[j] ↔ Slip ms (fun s => s = j) t) →
      ∃ rs', f124.l0 L N (fun z4 => f124.p0_e0 L N some z4) n (ms.length : Int) (i : Int) ms rs = some rs' ∧ rs'.length = ms.length ∧ ∀ (j : Nat) (hj : j < rs'.length), (rs'[j]).length ≤ ms.length ∧ (∀ v ∈ rs'[j], 0 ≤ v ∧ v < (ms.length : Int)) ∧ ∀ t : Nat, (t : Int) ∈ rs'[j] ↔ Slip ms (fun s => s = j) t := by
    intro n
    induction n with
    | zero => intro i rs _ _ h; omega
    | succ n ih =>
      intro i rs hl hi hn' hr
      show ∃ rs', f124.s0 L N _ (f124.l0 L N _ n) (ms.length : Int) (i : Int) ms rs = _ ∧ _
      unfold f124.s0 f124.s0'
      by_cases hlt : i < ms.length
      · obtain ⟨q, h1, h2, h3, h4, -⟩ := slip1_ok L N ms [(i : Int)] hm (fun v hv => by obtain rfl := List.mem_singleton.1 hv; omega) (by simp only [List.length_cons, List.length_nil]; omega) (by simp only [List.length_cons, List.length_nil]; omega) hL
        have hle : decide (rs.length + ([q] : List (List Int)).length ≤ lim) = true := dt (by simp only [List.length_cons, List.length_nil]; omega)
        have hsame : ∀ t : Nat, (t : Int) ∈ q ↔ Slip ms (fun s => s = i) t := fun t => (h4 t).trans (Slip.iff (fun s => by
          rw [List.mem_singleton]; constructor
          · intro h; omega
          · intro h; rw [h]) t)
        simp only [lt_cast hlt, cond_true, h1, Option.bind_some, hle]
        rw [wi_nat (by omega)]
        exact ih (i + 1) _ (by simp [hl]) (by omega) (by omega) (rows_snoc (P := fun j (r : List Int) => r.length ≤ ms.length ∧ (∀ v ∈ r, 0 ≤ v ∧ v < (ms.length : Int)) ∧ ∀ t : Nat, (t : Int) ∈ r ↔ Slip ms (fun s => s = j) t) hr (by rw [hl]; exact ⟨h2, h3, hsame⟩))
      · simp only [ge_cast hlt, cond_false]
        have hi' : i = ms.length := by omega
        subst hi'
        exact ⟨rs, rfl, hl, hr⟩
  exact key L 0 [] rfl (by omega) (by omega) (fun j hj => by simp at hj)
end Go.Proofs.Ytdfjdbpklbehoaa.Ev
namespace Go.Proofs.Ytdfjdbpklbehoaa.Ev
open Go
set_option linter.unusedVariables false
set_option linter.unusedSimpArgs false
theorem less_irrefl (a : Move) : lessM a a = false := by unfold lessM; exact decide_eq_false (by omega)
theorem less_trans {a b c : Move} (h1 : lessM a b = true) (h2 : lessM b c = true) : lessM a c = true := by
  unfold lessM at *; have h1 := of_decide_eq_true h1; have h2 := of_decide_eq_true h2; exact decide_eq_true (by omega)
theorem less_tot {a b : Move} (h1 : lessM a b = false) (h2 : a ≠ b) : lessM b a = true := by
  unfold lessM at *
  have h1 := of_decide_eq_false h1
  obtain ⟨a1, a2⟩ := a
  obtain ⟨b1, b2⟩ := b
  have h2 : ¬ (a1 = b1 ∧ a2 = b2) := fun h => h2 (by rw [h.1, h.2])
  exact decide_eq_true (by simp only at h1 ⊢; omega)
theorem less_ne {a b : Move} (h : lessM a b = true) : a ≠ b := fun e => by rw [e, less_irrefl] at h; cases h
def RisesM (l : List Move) : Prop := l.Pairwise fun a b => lessM a b = true
theorem risesM_ext : ∀ {a b : List Move}, RisesM a → RisesM b → (∀ x, x ∈ a ↔ x ∈ b) → a = b
  | [], [], _, _, _ => rfl
  | [], y :: b, _, _, h => absurd ((h y).2 (.head _)) (by simp)
  | x :: a, [], _, _, h => absurd ((h x).1 (.head _)) (by simp)
  | x :: a, y :: b, ha, hb, h => by
    have ha' := List.pairwise_cons.1 ha
    have hb' := List.pairwise_cons.1 hb
    have hxy : x = y := by
      rcases List.mem_cons.1 ((h x).1 (.head _)) with e | e
      · exact e
      · rcases List.mem_cons.1 ((h y).2 (.head _)) with e' | e'
        · exact e'.symm
        · have q := less_trans (hb'.1 x e) (ha'.1 y e')
          rw [less_irrefl] at q; cases q
    subst hxy
    refine congrArg (x :: ·) (risesM_ext ha'.2 hb'.2 fun z => ?_)
    have := h z
    simp only [List.mem_cons] at this
    constructor
    · intro hz
      rcases this.1 (.inr hz) with e | e
      · exact absurd e.symm (less_ne (ha'.1 z hz))
      · exact e
    · intro hz
      rcases this.2 (.inr hz) with e | e
      · exact absurd e.symm (less_ne (hb'.1 z hz))
      · exact e
theorem len_asc {f : Move → Int} {B : Int} : ∀ {l : List Move} {b : Int}, (l.Pairwise fun x y => f x < f y) → (∀ x ∈ l, b ≤ f x ∧ f x < B) → b ≤ B → (l.length : Int) ≤ B - b
  | [], b, _, _, hb => by simp; omega
  | x :: l, b, hp, hb, hB => by
    obtain ⟨h1, h2⟩ := List.pairwise_cons.1 hp
    obtain ⟨h3, h4⟩ := hb x (.head _)
    have := len_asc (b := f x + 1) h2 (fun y hy => ⟨by have := h1 y hy; omega, (hb y (.tail _ hy)).2⟩) (by omega)
    rw [List.length_cons]
    omega
theorem risesM_len {l : List Move} (hr : RisesM l) (h : ∀ m ∈ l, -4 ≤ m.act ∧ m.act ≤ 4 ∧ 0 ≤ m.to ∧ m.to < 60) : l.length ≤ 540 := by
  have h1 : l.Pairwise fun x y => (x.act + 4) * 60 + x.to < (y.act + 4) * 60 + y.to := by
    refine List.Pairwise.imp_of_mem ?_ hr
    intro x y hx hy hxy
    unfold lessM at hxy
    have hxy := of_decide_eq_true hxy
    have := h x hx
    have := h y hy
    omega
  have := len_asc (B := 540) (b := 0) h1 (fun x hx => by have := h x hx; omega) (by omega)
  omega
theorem gsize_le {B : Nat} : ∀ {ms : List (List Move)}, (∀ r ∈ ms, r.length ≤ B) → gsize ms ≤ ms.length * B
  | [], _ => by simp [gsize]
  | r :: ms, h => by
    have h1 := h r (.head _)
    have h2 := gsize_le (B := B) (ms := ms) fun x hx => h x (.tail _ hx)
    unfold gsize at h2 ⊢
    rw [List.map_cons, List.sum_cons, List.length_cons, Nat.add_mul, Nat.one_mul]
    omega
theorem l3s1 {R : Type} (L N : Nat) (K : List Move → Int → Int → List Move → Option R) (xs out : List Move) (i : Nat) (hi : i < xs.length) (ho : out.length < 9223372036854775807) :
    ∀ (n k : Nat), k ≤ out.length → k < n → (∀ j (hj : j < out.length), k ≤ j → lessM xs[i] out[j] = true) →
      ∃ a : Nat, a ≤ out.length ∧ (∀ j (hj : j < out.length), a ≤ j → lessM xs[i] out[j] = true) ∧ (∀ (h : 0 < a) (ha : a - 1 < out.length), lessM xs[i] out[a - 1] = false) ∧
        f123.l1 L N K n xs (i : Int) (k : Int) out = K xs (i : Int) (a : Int) out := by
  intro n
  induction n with
  | zero => intro k _ h; omega
  | succ n ih =>
    intro k hk hn hge
    show ∃ a : Nat, _ ∧ _ ∧ _ ∧ f123.s1 L N _ (f123.l1 L N _ n) xs (i : Int) (k : Int) out = _
    unfold f123.s1 f123.s1'
    by_cases h0 : 0 < k
    · have hk1 : k - 1 < out.length := by omega
      rw [show decide ((k : Int) > 0) = true from decide_eq_true (by omega)]
      simp only [cond_true, le0, lt_cast hi, Bool.and_true, pred_cast h0 (by omega), lt_cast hk1, Int.toNat_natCast, at_lt hi, at_lt hk1, less2_ok, Option.bind_some]
      cases hc : lessM xs[i] out[k - 1] with
      | true =>
        simp only [cond_true]
        refine ih (k - 1) (by omega) (by omega) fun j hj hkj => ?_
        by_cases e : j = k - 1
        · subst e; exact hc
        · exact hge j hj (by omega)
      | false =>
        simp only [cond_false]
        exact ⟨k, hk, hge, fun _ _ => hc, rfl⟩
    · have hk0 : k = 0 := by omega
      subst hk0
      rw [show decide (((0 : Nat) : Int) > 0) = false from rfl]
      simp only [cond_false]
      exact ⟨0, by omega, hge, fun h => absurd h (by omega), rfl⟩
theorem l3s2 {R : Type} (L N : Nat) (K : List Move → Int → Int → List Move → Option R) (xs out : List Move) (i : Int) (a : Nat) (ho : out.length < 9223372036854775806) :
    ∀ (n k : Nat) (l : List Move), l.length = out.length + 1 → a ≤ k → k ≤ out.length → k - a < n → (∀ j, j < k → l[j]? = out[j]?) → (∀ j, k < j → l[j]? = out[j - 1]?) →
      ∃ l' : List Move, l'.length = out.length + 1 ∧ (∀ j, j < a → l'[j]? = out[j]?) ∧ (∀ j, a < j → l'[j]? = out[j - 1]?) ∧
        f123.l2 L N K n xs i (a : Int) (k : Int) l = K xs i (a : Int) l' := by
  intro n
  induction n with
  | zero => intro k l _ _ _ h; omega
  | succ n ih =>
    intro k l hl hak hk hn h1 h2
    show ∃ l' : List Move, _ ∧ _ ∧ _ ∧ f123.s2 L N _ (f123.l2 L N _ n) xs i (a : Int) (k : Int) l = _
    unfold f123.s2 f123.s2'
    by_cases h0 : a < k
    · have hk1 : k - 1 < l.length := by omega
      have hk2 : k < l.length := by omega
      rw [show decide ((k : Int) > (a : Int)) = true from decide_eq_true (by omega)]
      simp only [cond_true, le0, pred_cast (show 0 < k by omega) (by omega), lt_cast hk1, lt_cast hk2, Bool.and_true, Int.toNat_natCast, at_lt hk1]
      refine ih (k - 1) _ (by simp [hl]) (by omega) (by omega) (by omega) (fun j hj => ?_) (fun j hj => ?_)
      · rw [List.getElem?_set_ne (by omega)]; exact h1 j (by omega)
      · by_cases e : j = k
        · subst e
          rw [List.getElem?_set_self hk2, ← h1 (j - 1) (by omega), List.getElem?_eq_getElem hk1]
        · rw [List.getElem?_set_ne (by omega)]; exact h2 j (by omega)
    · have hk0 : k = a := by omega
      subst hk0
      rw [show decide ((k : Int) > (k : Int)) = false from decide_eq_false (by omega)]
      simp only [cond_false]
      exact ⟨l, hl, h1, h2, rfl⟩
theorem ins_rises {out : List Move} {x : Move} {a : Nat} (hr : RisesM out) (ha : a ≤ out.length) (hge : ∀ j (hj : j < out.length), a ≤ j → lessM x out[j] = true) (hlt : ∀ (h : 0 < a) (hj : a - 1 < out.length), lessM out[a - 1] x = true) :
    RisesM (out.take a ++ x :: out.drop a) := by
  unfold RisesM
  rw [List.pairwise_append, List.pairwise_cons]
  have hd : ∀ y ∈ out.drop a, lessM x y = true := fun y hy => by
    obtain ⟨j, hj, rfl⟩ := List.mem_iff_getElem.1 hy
    rw [List.getElem_drop]
    exact hge _ _ (by omega)
  have ht : ∀ y ∈ out.take a, lessM y x = true := fun y hy => by
    obtain ⟨j, hj, rfl⟩ := List.mem_iff_getElem.1 hy
    rw [List.length_take] at hj
    rw [List.getElem_take]
    have h1 := hlt (by omega) (by omega)
    by_cases e : j = a - 1
    · subst e; exact h1
    · exact less_trans (List.pairwise_iff_getElem.1 hr j (a - 1) (by omega) (by omega) (by omega)) h1
  refine ⟨List.Pairwise.sublist (List.take_sublist _ _) hr, ⟨hd, List.Pairwise.sublist (List.drop_sublist _ _) hr⟩, fun y hy z hz => ?_⟩
  rcases List.mem_cons.1 hz with rfl | hz
  · exact ht y hy
  · exact less_trans (ht y hy) (hd z hz)
theorem l3Sorted_ok (L N : Nat) (xs : List Move) (hx : xs.length ≤ 1099511627776) (hL : xs.length + 2 < L) :
    ∃ ys, f123 L N xs = some ys ∧ RisesM ys ∧ (∀ v, v ∈ ys ↔ v ∈ xs) ∧ ys.length ≤ xs.length := by
  have hlim := lim_eq
  show ∃ ys, f123.b L N some xs = some ys ∧ _
  unfold f123.b f123.b'
  have key : ∀ (n i : Nat) (out : List Move), i ≤ xs.length → xs.length - i < n → out.length ≤ i → RisesM out → (∀ v, v ∈ out ↔ v ∈ xs.take i) →
      ∃ ys, f123.l0 L N (fun z3 => f123.p0_e0 L N some z3) n xs (i : Int) out = some ys ∧ RisesM ys ∧ (∀ v, v ∈ ys ↔ v ∈ xs) ∧ ys.length ≤ xs.length := by
    intro n
    induction n with
    | zero => intro i out _ h; omega
    | succ n ih =>
      intro i out hi hn hlen hr hmem
      show ∃ ys, f123.s0 L N _ (f123.l0 L N _ n) xs (i : Int) out = _ ∧ _
      unfold f123.s0 f123.s0'
      by_cases hlt : i < xs.length
      · simp only [lt_cast hlt, cond_true]
        obtain ⟨a, ha, hge, hla, e⟩ := l3s1 L N (fun z14 z15 z16 z17 => f123.p1_e2 L N (fun z3 => f123.p0_e0 L N some z3) (f123.l0 L N (fun z3 => f123.p0_e0 L N some z3) n) z14 z15 z16 z17) xs out i hlt (by omega) L out.length (Nat.le_refl _) (by omega) (fun j hj h => absurd hj (by omega))
        have hmem' : ∀ v, v ∈ xs.take (i + 1) ↔ v ∈ xs.take i ∨ v = xs[i] := fun v => by
          rw [List.take_add_one, List.getElem?_eq_getElem hlt]; simp only [Option.toList_some, List.mem_append, List.mem_singleton]
        have hwi : wi ((i : Int) + 1) = ((i + 1 : Nat) : Int) := wi_nat (by omega)
        rw [e]
        have tail : (∀ (h : 0 < a) (hj : a - 1 < out.length), lessM out[a - 1] xs[i] = true) → ∃ ys, f123.j0' L N (fun z3 => f123.p0_e0 L N some z3) (f123.l0 L N (fun z3 => f123.p0_e0 L N some z3) n) (f123.l2 L N (fun z36 z37 z38 z39 => f123.p2_e4 L N (fun z3 => f123.p0_e0 L N some z3) (f123.l0 L N (fun z3 => f123.p0_e0 L N some z3) n) z36 z37 z38 z39) L) xs (i : Int) (a : Int) out = some ys ∧ RisesM ys ∧ (∀ v, v ∈ ys ↔ v ∈ xs) ∧ ys.length ≤ xs.length := by
          intro hlt2
          unfold f123.j0'
          have hle : decide (out.length + ([(Move.mk (0 : Int) (0 : Int))] : (List Move)).length ≤ lim) = true := dt (by simp only [List.length_cons, List.length_nil]; omega)
          rw [hle, cond_true, List.length_append, show ([(Move.mk (0 : Int) (0 : Int))] : List Move).length = 1 from rfl, pred_cast (by omega) (by omega), show out.length + 1 - 1 = out.length by omega]
          obtain ⟨l', q1, q2, q3, e2⟩ := l3s2 L N (fun z36 z37 z38 z39 => f123.p2_e4 L N (fun z3 => f123.p0_e0 L N some z3) (f123.l0 L N (fun z3 => f123.p0_e0 L N some z3) n) z36 z37 z38 z39) xs out (i : Int) a (by omega) L out.length (out ++ [Move.mk 0 0]) (by simp) ha (Nat.le_refl _) (by omega)
            (fun j hj => by rw [List.getElem?_append_left hj]) (fun j hj => by rw [List.getElem?_eq_none (by simp; omega), List.getElem?_eq_none (by omega)])
          rw [e2]
          unfold f123.p2_e4 f123.p2_e4'
          have hal : a < l'.length := by omega
          simp only [le0, lt_cast hlt, lt_cast hal, Bool.and_true, cond_true, Int.toNat_natCast, at_lt hlt, hwi]
          have hset : l'.set a xs[i] = out.take a ++ xs[i] :: out.drop a := by
            apply List.ext_getElem?
            intro j
            rcases Nat.lt_trichotomy j a with h | h | h
            · rw [List.getElem?_set_ne (by omega), q2 j h, List.getElem?_append_left (by rw [List.length_take]; omega), List.getElem?_take, if_pos h]
            · subst h
              rw [List.getElem?_set_self hal, List.getElem?_append_right (by rw [List.length_take]; omega), List.length_take, show j - min j out.length = 0 by omega]
              rfl
            · rw [List.getElem?_set_ne (by omega), q3 j h, List.getElem?_append_right (by rw [List.length_take]; omega), List.length_take, show j - min a out.length = (j - 1 - a) + 1 by omega, List.getElem?_cons_succ, List.getElem?_drop, show a + (j - 1 - a) = j - 1 by omega]
          rw [hset]
          refine ih (i + 1) _ (by omega) (by omega) (by simp only [List.length_append, List.length_cons, List.length_take, List.length_drop]; omega) (ins_rises hr ha hge hlt2) fun v => ?_
          rw [hmem' v, ← hmem v, List.mem_append, List.mem_cons]
          constructor
          · rintro (h | h | h)
            · exact .inl (List.mem_of_mem_take h)
            · exact .inr h
            · exact .inl (List.mem_of_mem_drop h)
          · rintro (h | h)
            · rw [← List.take_append_drop a out, List.mem_append] at h
              rcases h with h | h
              · exact .inl h
              · exact .inr (.inr h)
            · exact .inr (.inl h)
        show ∃ ys, f123.p1_e2' L N _ _ _ xs (i : Int) (a : Int) out = some ys ∧ _
        unfold f123.p1_e2'
        by_cases h0 : 0 < a
        · have ha1 : a - 1 < out.length := by omega
          rw [show decide ((a : Int) > 0) = true from decide_eq_true (by omega)]
          simp only [cond_true, le0, pred_cast h0 (by omega), lt_cast ha1, lt_cast hlt, Bool.and_true, Int.toNat_natCast, at_lt ha1, at_lt hlt, hwi]
          cases hb : Move.eqb out[a - 1] xs[i] with
          | true =>
            simp only [cond_true]
            have he : out[a - 1] = xs[i] := by
              simp only [Move.eqb, Bool.and_eq_true, beq_iff_eq] at hb
              have h1 := hb.1; have h2 := hb.2
              rw [← mv_eta out[a - 1], ← mv_eta xs[i], h1, h2]
            refine ih (i + 1) out (by omega) (by omega) (by omega) hr fun v => ?_
            rw [hmem' v, ← hmem v]
            constructor
            · exact .inl
            · rintro (h | h)
              · exact h
              · rw [h, ← he]; exact List.getElem_mem ha1
          | false =>
            simp only [cond_false]
            refine tail fun h hj => less_tot (hla h hj) fun e => ?_
            rw [e] at hb
            simp [Move.eqb] at hb
        · rw [show decide ((a : Int) > 0) = false from decide_eq_false (by omega)]
          simp only [cond_false]
          exact tail fun h => absurd h h0
      · simp only [ge_cast hlt, cond_false]
        have hi' : i = xs.length := by omega
        subst hi'
        rw [List.take_length] at hmem
        exact ⟨out, rfl, hr, hmem, hlen⟩
  exact key L 0 [] (by omega) (by omega) (Nat.le_refl _) List.Pairwise.nil (fun v => by simp)
end Go.Proofs.Ytdfjdbpklbehoaa.Ev
namespace Go.Proofs.Ytdfjdbpklbehoaa.Ev
open Go
set_option linter.unusedVariables false
set_option linter.unusedSimpArgs false
theorem leM_iff (x y : Move) : leM x y = true ↔ lessM x y = true ∨ x = y := by
  unfold leM lessM
  obtain ⟨a, b⟩ := x
  obtain ⟨c, d⟩ := y
  simp only [decide_eq_true_eq, Move.mk.injEq]
  omega
theorem sortM_le (xs : List Move) : (sortM xs).Pairwise fun a b => leM a b = true := by
  refine List.pairwise_mergeSort (fun a b c h1 h2 => ?_) (fun a b => ?_) xs
  · rw [leM_iff] at *
    rcases h1 with h1 | rfl
    · rcases h2 with h2 | rfl
      · exact .inl (less_trans h1 h2)
      · exact .inl h1
    · exact h2
  · unfold leM
    simp only [Bool.or_eq_true, decide_eq_true_eq]
    omega
theorem getM {zs : List Move} {i : Nat} (h : i < zs.length) : (zs.toArray)[i]! = zs[i] := by simp [getElem!_pos, h]
theorem compact_rises {zs : List Move} (hs : zs.Pairwise fun a b => leM a b = true) : RisesM (Go.Lib.compact zs) := by
  unfold RisesM Go.Lib.compact Go.Lib.compactUpTo
  rw [List.pairwise_map]
  refine List.Pairwise.imp_of_mem ?_ (List.Pairwise.filter _ List.pairwise_lt_range)
  intro i j hi hj hij
  rw [List.mem_filter, List.mem_range] at hi hj
  have hjl := hj.1
  rw [getM hi.1, getM hj.1]
  have hk := hj.2
  unfold Go.Lib.keeps at hk
  have hk := of_decide_eq_true hk
  have hne : zs[j] ≠ zs[j - 1] := by
    rcases hk with h | h
    · omega
    · rwa [getM hj.1, getM (show j - 1 < zs.length by omega)] at h
  have hlast : lessM zs[j - 1] zs[j] = true := by
    rcases (leM_iff _ _).1 (List.pairwise_iff_getElem.1 hs (j - 1) j (by omega) (by omega) (by omega)) with h | h
    · exact h
    · exact absurd h.symm hne
  by_cases e : i = j - 1
  · subst e; exact hlast
  · rcases (leM_iff _ _).1 (List.pairwise_iff_getElem.1 hs i (j - 1) (by omega) (by omega) (by omega)) with h | h
    · exact less_trans h hlast
    · rw [h]; exact hlast
theorem compact_mem (zs : List Move) (v : Move) : v ∈ Go.Lib.compact zs ↔ v ∈ zs := by
  unfold Go.Lib.compact Go.Lib.compactUpTo
  rw [List.mem_map]
  constructor
  · rintro ⟨i, hi, rfl⟩
    rw [List.mem_filter, List.mem_range] at hi
    rw [getM hi.1]; exact List.getElem_mem hi.1
  · intro hv
    obtain ⟨i, hi, rfl⟩ := List.mem_iff_getElem.1 hv
    clear hv
    induction i with
    | zero => exact ⟨0, by rw [List.mem_filter, List.mem_range]; exact ⟨hi, by simp [Go.Lib.keeps]⟩, getM hi⟩
    | succ i ih =>
      by_cases hk : Go.Lib.keeps zs.toArray (i + 1) = true
      · exact ⟨i + 1, by rw [List.mem_filter, List.mem_range]; exact ⟨hi, hk⟩, getM hi⟩
      · have : zs[i + 1] = zs[i] := by
          unfold Go.Lib.keeps at hk
          have hk : ¬ (i + 1 = 0 ∨ zs.toArray[i + 1]! ≠ zs.toArray[i + 1 - 1]!) := fun h => hk (decide_eq_true h)
          have h2 := Classical.not_not.1 (fun h => hk (.inr h))
          rw [getM hi, Nat.add_sub_cancel, getM (show i < zs.length by omega)] at h2
          exact h2
        rw [this]
        exact ih (by omega)
theorem tidyM_rises (xs : List Move) : RisesM (tidyM xs) := compact_rises (sortM_le xs)
theorem tidyM_mem (xs : List Move) (v : Move) : v ∈ tidyM xs ↔ v ∈ xs := (compact_mem _ v).trans (sortM_mem xs v)
theorem fsortM_some {xs : List Move} (h : xs.length ≤ 1099511627776) : fsortM xs = some () := by
  unfold fsortM; rw [show decide (xs.length ≤ lim) = true from decide_eq_true (by rw [lim_eq]; exact h)]; rfl
end Go.Proofs.Ytdfjdbpklbehoaa.Ev
namespace Go.Proofs.Ytdfjdbpklbehoaa.Ev
open Go
set_option linter.unusedVariables false
set_option linter.unusedSimpArgs false
theorem flat_len_le {α β : Type} {f : α → List β} {B : Nat} : ∀ {l : List α}, (∀ x ∈ l, (f x).length ≤ B) → (l.flatMap f).length ≤ l.length * B
  | [], _ => by simp
  | x :: l, h => by
    have h1 := h x (.head _)
    have h2 := flat_len_le (f := f) (B := B) (l := l) fun y hy => h y (.tail _ hy)
    rw [List.flatMap_cons, List.length_append, List.length_cons, Nat.add_mul, Nat.one_mul]
    omega
theorem drop_cons {α : Type} {l : List α} {i : Nat} (h : i < l.length) : l.drop i = l[i] :: l.drop (i + 1) := List.drop_eq_getElem_cons h
theorem drop_end {α : Type} {l : List α} {i : Nat} (h : ¬ i < l.length) : l.drop i = [] := List.drop_eq_nil_of_le (by omega)
def wkG (sl : List (List Int)) (m : Move) : List Move := if m.act ≠ 0 then (sl.getD m.to.toNat []).map (Move.mk m.act) else []
def wkF (sl : List (List Int)) (ms : List (List Move)) (v : Int) : List Move := Move.mk 0 v :: (ms.getD v.toNat []).flatMap (wkG sl)
theorem weak3 {R : Type} (L N : Nat) (K : List (List Int) → Int → Int → List Int → Int → Int → List Move → Int → Int → List (List Move) → List Move → List (List Move) → List (List Move) → Option R) (sl : List (List Int)) (n0 i0 : Int) (li : List Int) (lli idx : Int) (row : List Move) (rl k : Int) (ts : List Int) (ms : List (List Move)) (act to : Int) (c5 rows : List (List Move)) (hts : ts.length ≤ 60) :
    ∀ (n j : Nat) (out : List Move), j ≤ ts.length → ts.length - j < n → out.length + (ts.length - j) ≤ lim →
      f88.l3 L N K n sl n0 i0 li lli idx row rl k ts (ts.length : Int) (j : Int) ms act to out c5 rows = K sl n0 i0 li lli idx row rl k ms (out ++ (ts.drop j).map (Move.mk act)) c5 rows := by
  intro n
  induction n with
  | zero => intro j out _ h; omega
  | succ n ih =>
    intro j out hj hn ho
    show f88.s3 L N _ (f88.l3 L N _ n) sl n0 i0 li lli idx row rl k ts (ts.length : Int) (j : Int) ms act to out c5 rows = _
    unfold f88.s3 f88.s3'
    by_cases hlt : j < ts.length
    · have hle : decide (out.length + ([(Move.mk act ts[j])] : (List Move)).length ≤ lim) = true := dt (by simp only [List.length_cons, List.length_nil]; omega)
      simp only [lt_cast hlt, le0, Bool.and_true, cond_true, Int.toNat_natCast, at_lt hlt, hle]
      rw [wi_nat (by omega), ih (j + 1) _ (by omega) (by omega) (by simp only [List.length_append, List.length_cons, List.length_nil]; omega), drop_cons hlt, List.map_cons, List.append_assoc]
      rfl
    · simp only [ge_cast hlt, cond_false, drop_end hlt, List.map_nil, List.append_nil]
theorem weak2 {R : Type} (L N : Nat) (hL : 1048576 < L) (k1_e2 : List (List Int) → Int → Int → List (List Move) → List Move → List (List Move) → List (List Move) → Option R) (m1 : Nat) (sl : List (List Int)) (n0 i0 : Int) (li : List Int) (lli idx : Int) (row : List Move) (ms : List (List Move)) (c5 rows : List (List Move))
    (hsl : ∀ r ∈ sl, r.length ≤ 60) (hrow : row.length ≤ 1048576) (hto : ∀ m ∈ row, 0 ≤ m.to ∧ m.to < (sl.length : Int)) :
    ∀ (n k : Nat) (out : List Move), k ≤ row.length → row.length - k < n → out.length + (row.length - k) * 60 ≤ lim →
      f88.l2 L N (fun z39 z40 z41 z42 z43 z44 z45 z46 z47 z48 => f88.p2_e4 L N k1_e2 (f88.l1 L N k1_e2 m1) z39 z40 z41 z42 z43 z44 z45 z46 z47 z48) n sl n0 i0 li lli idx row (row.length : Int) (k : Int) ms out c5 rows
        = f88.l1 L N k1_e2 m1 sl n0 i0 li lli (wi (idx + 1)) ms (out ++ (row.drop k).flatMap (wkG sl)) c5 rows := by
  intro n
  induction n with
  | zero => intro k out _ h; omega
  | succ n ih =>
    intro k out hk hn ho
    show f88.s2 L N _ (f88.l2 L N _ n) sl n0 i0 li lli idx row (row.length : Int) (k : Int) ms out c5 rows = _
    unfold f88.s2 f88.s2'
    by_cases hlt : k < row.length
    · have hstep : (row.length - k) * 60 = (row.length - (k + 1)) * 60 + 60 := by
        rw [show row.length - k = (row.length - (k + 1)) + 1 by omega, Nat.add_mul]
      obtain ⟨h1, h2⟩ := hto row[k] (List.getElem_mem hlt)
      generalize hm : row[k] = m at h1 h2
      obtain ⟨t, ht⟩ := Int.eq_ofNat_of_zero_le h1
      have htl : t < sl.length := by omega
      simp only [lt_cast hlt, le0, Bool.and_true, cond_true, Int.toNat_natCast, at_lt hlt, hm, ht, lt_cast htl, at_lt htl]
      rw [drop_cons hlt, hm, List.flatMap_cons]
      have hg : m.act ≠ 0 → wkG sl m = (sl[t]).map (Move.mk m.act) := fun h => by
        unfold wkG
        rw [if_pos h, ht, Int.toNat_natCast, getD_lt htl]
      by_cases ha : m.act = 0
      · have hb : (m.act != 0) = false := by simp [ha]
        have hg0 : wkG sl m = [] := by unfold wkG; rw [if_neg (fun h => h ha)]
        rw [hb, cond_false, wi_nat (by omega), ih (k + 1) out (by omega) (by omega) (by omega), hg0]
        rfl
      · have hb : (m.act != 0) = true := by simpa using ha
        have hr := hsl _ (List.getElem_mem htl)
        rw [hb, cond_true]
        refine (weak3 L N _ sl n0 i0 li lli idx row (row.length : Int) (k : Int) sl[t] ms m.act (t : Int) c5 rows hr L 0 out (by omega) (by omega) (by omega)).trans ?_
        rw [List.drop_zero, hg ha]
        show f88.p3_e6' L N _ _ sl n0 i0 li lli idx row (row.length : Int) (k : Int) ms _ c5 rows = _
        unfold f88.p3_e6'
        rw [wi_nat (by omega), ih (k + 1) _ (by omega) (by omega) (by rw [List.length_append, List.length_map]; omega), List.append_assoc]
    · simp only [ge_cast hlt, cond_false, drop_end hlt, List.flatMap_nil, List.append_nil]
      rfl
theorem weak1 {R : Type} (L N : Nat) (hL : 1048576 < L) (K : List (List Int) → Int → Int → List (List Move) → List Move → List (List Move) → List (List Move) → Option R) (sl : List (List Int)) (n0 i0 : Int) (li : List Int) (ms : List (List Move)) (c5 rows : List (List Move))
    (hm : Leads ms) (hsn : sl.length = ms.length) (hsl : ∀ r ∈ sl, r.length ≤ 60) (hli : ∀ v ∈ li, 0 ≤ v ∧ v < (ms.length : Int)) (hll : li.length ≤ 60) :
    ∀ (n idx : Nat) (out : List Move), idx ≤ li.length → li.length - idx < n → out.length + (li.length - idx) * 62914561 ≤ lim →
      f88.l1 L N K n sl n0 i0 li (li.length : Int) (idx : Int) ms out c5 rows = K sl n0 i0 ms (out ++ (li.drop idx).flatMap (wkF sl ms)) c5 rows := by
  intro n
  induction n with
  | zero => intro k out _ h; omega
  | succ n ih =>
    intro idx out hk hn ho
    show f88.s1 L N _ (f88.l1 L N _ n) sl n0 i0 li (li.length : Int) (idx : Int) ms out c5 rows = _
    unfold f88.s1 f88.s1'
    by_cases hlt : idx < li.length
    · have hstep : (li.length - idx) * 62914561 = (li.length - (idx + 1)) * 62914561 + 62914561 := by
        rw [show li.length - idx = (li.length - (idx + 1)) + 1 by omega, Nat.add_mul]
      obtain ⟨h1, h2⟩ := hli li[idx] (List.getElem_mem hlt)
      generalize hv : li[idx] = v at h1 h2
      obtain ⟨t, ht⟩ := Int.eq_ofNat_of_zero_le h1
      subst ht
      have htl : t < ms.length := by omega
      have hrow := hm.2 t htl
      have hle : decide (out.length + ([(Move.mk (0 : Int) (t : Int))] : (List Move)).length ≤ lim) = true := dt (by simp only [List.length_cons, List.length_nil]; omega)
      simp only [lt_cast hlt, le0, Bool.and_true, cond_true, Int.toNat_natCast, at_lt hlt, hv, lt_cast htl, at_lt htl, hle]
      have hto : ∀ m ∈ ms[t], 0 ≤ m.to ∧ m.to < (sl.length : Int) := fun m hm' => by
        obtain ⟨q, hq, rfl⟩ := List.mem_iff_getElem.1 hm'
        rw [hsn]; exact hrow.2 q hq
      refine (weak2 L N hL K n sl n0 i0 li (li.length : Int) (idx : Int) ms[t] ms c5 rows hsl hrow.1 hto L 0 _ (by omega) (by have := hrow.1; omega) (by
        have := hrow.1
        simp only [List.length_append, List.length_cons, List.length_nil]; omega)).trans ?_
      have hfl : ((ms[t]).flatMap (wkG sl)).length ≤ (ms[t]).length * 60 := flat_len_le fun m hm' => by
        unfold wkG
        split
        · rw [List.length_map, List.getD]
          cases he : sl[m.to.toNat]? with
          | none => simp
          | some r => exact hsl r (List.mem_of_getElem? he)
        · simp
      have h2r := hrow.1
      rw [wi_nat (by omega), ih (idx + 1) _ (by omega) (by omega) (by
        simp only [List.length_append, List.length_cons, List.length_nil, List.drop_zero]; omega), drop_cons hlt, hv, List.flatMap_cons, List.drop_zero]
      have hF : wkF sl ms (t : Int) = Move.mk 0 (t : Int) :: (ms[t]).flatMap (wkG sl) := by
        unfold wkF; rw [Int.toNat_natCast, getD_lt htl]
      rw [hF, List.append_assoc, List.append_assoc]
      rfl
    · simp only [ge_cast hlt, cond_false, drop_end hlt, List.flatMap_nil, List.append_nil]
theorem weakF_len {sl : List (List Int)} {ms : List (List Move)} {li : List Int} (hm : Leads ms) (hsl : ∀ r ∈ sl, r.length ≤ 60) (hli : ∀ v ∈ li, 0 ≤ v ∧ v < (ms.length : Int)) (hll : li.length ≤ 60) : (li.flatMap (wkF sl ms)).length ≤ 3774873660 := by
  have h := flat_len_le (l := li) (f := wkF sl ms) (B := 62914561) fun v hv => by
    obtain ⟨h1, h2⟩ := hli v hv
    obtain ⟨t, ht⟩ := Int.eq_ofNat_of_zero_le h1
    subst ht
    have htl : t < ms.length := by omega
    unfold wkF
    rw [Int.toNat_natCast, getD_lt htl, List.length_cons]
    have hrow := hm.2 t htl
    have hfl : ((ms[t]).flatMap (wkG sl)).length ≤ (ms[t]).length * 60 := flat_len_le fun m hm' => by
      unfold wkG
      split
      · rw [List.length_map, List.getD]
        cases he : sl[m.to.toNat]? with
        | none => simp
        | some r => exact hsl r (List.mem_of_getElem? he)
      · simp
    omega
  omega
theorem weakOf_ok (L N : Nat) (ms : List (List Move)) (hm : Leads ms) (hL : 1048576 < L) :
    ∃ sl : List (List Int), sl.length = ms.length ∧ (∀ (j : Nat) (hj : j < sl.length), (sl[j]).length ≤ ms.length ∧ (∀ v ∈ sl[j], 0 ≤ v ∧ v < (ms.length : Int)) ∧ ∀ t : Nat, (t : Int) ∈ sl[j] ↔ Slip ms (fun s => s = j) t) ∧
      f88 L N ⟨ms⟩ = some (sl.map fun li => tidyM (li.flatMap (wkF sl ms))) := by
  have hlim := lim_eq
  have hn := hm.1
  obtain ⟨sl, e, hsn, hs⟩ := slips_ok L N ms hm hL
  refine ⟨sl, hsn, hs, ?_⟩
  have hsl : ∀ r ∈ sl, r.length ≤ 60 := fun r hr => by
    obtain ⟨q, hq, rfl⟩ := List.mem_iff_getElem.1 hr
    have := (hs q hq).1; omega
  show f88.b L N some ⟨ms⟩ = _
  unfold f88.b f88.b'
  have e' : f124 L N (Graph.mk (Graph.mk ms).moves) = some sl := e
  rw [e', Option.bind_some]
  have key : ∀ (n i : Nat) (c5 rows : List (List Move)), i ≤ ms.length → ms.length - i < n → rows.length = i →
      f88.l0 L N (fun z7 z8 => f88.p0_e0 L N some z7 z8) n sl (ms.length : Int) (i : Int) ms c5 rows = some (rows ++ (sl.drop i).map fun li => tidyM (li.flatMap (wkF sl ms))) := by
    intro n
    induction n with
    | zero => intro i c5 rows _ h; omega
    | succ n ih =>
      intro i c5 rows hi hn' hr
      show f88.s0 L N _ (f88.l0 L N _ n) sl (ms.length : Int) (i : Int) ms c5 rows = _
      unfold f88.s0 f88.s0'
      by_cases hlt : i < ms.length
      · have hlt' : i < sl.length := by omega
        obtain ⟨h1, h2, -⟩ := hs i hlt'
        simp only [lt_cast hlt, lt_cast hlt', le0, Bool.and_true, cond_true, Int.toNat_natCast, at_lt hlt']
        refine (weak1 L N hL _ sl (ms.length : Int) (i : Int) sl[i] ms c5 rows hm hsn hsl h2 (by omega) L 0 [] (by omega) (by omega) (by simp only [List.length_nil]; omega)).trans ?_
        show f88.p1_e2' L N _ _ sl (ms.length : Int) (i : Int) ms ([] ++ ((sl[i]).drop 0).flatMap (wkF sl ms)) c5 rows = _
        unfold f88.p1_e2'
        have hfl := weakF_len hm hsl h2 (by omega)
        rw [List.drop_zero, List.nil_append, fsortM_some (by omega), Option.bind_some]
        have hle : decide (rows.length + ([tidyM ((sl[i]).flatMap (wkF sl ms))] : (List (List Move))).length ≤ lim) = true := dt (by simp only [List.length_cons, List.length_nil]; omega)
        rw [hle, cond_true, wi_nat (by omega), ih (i + 1) _ _ (by omega) (by omega) (by simp [hr]), drop_cons hlt', List.map_cons, List.append_assoc]
        rfl
      · simp only [ge_cast hlt, cond_false]
        rw [drop_end (by omega), List.map_nil, List.append_nil]
        rfl
  have := key L 0 [] [] (by omega) (by omega) rfl
  rw [List.drop_zero, List.nil_append] at this
  exact this
end Go.Proofs.Ytdfjdbpklbehoaa.Ev
namespace Go.Proofs.Ytdfjdbpklbehoaa.Ev
open Go
set_option linter.unusedVariables false
set_option linter.unusedSimpArgs false
def wsG (sl : List (List Bool)) (n : Nat) (m : Move) : List Move := ((List.range n).filter fun t => (sl.getD m.to.toNat []).getD t false).map fun t : Nat => Move.mk m.act (t : Int)
def wsF (b : Bool) (sl : List (List Bool)) (ms : List (List Move)) (s v : Nat) : List Move :=
  if (sl.getD s []).getD v false = true then (if b then [] else [Move.mk 0 (v : Int)]) ++ (ms.getD v []).flatMap (wsG sl ms.length) else []
theorem sweak3 {R : Type} (L N : Nat) (K : Bool → List (List Bool) → Int → Int → Int → List (List Move) → List Move → List (List Move) → Option R) (b : Bool) (sl : List (List Bool)) (i0 mid k : Int) (ms : List (List Move)) (act : Int) (u : Nat) (hu : u < sl.length) (hul : (sl[u]).length = ms.length) (rows : List (List Move)) (hms : ms.length ≤ 60) :
    ∀ (n j : Nat) (out : List Move), j ≤ ms.length → ms.length - j < n → out.length + (ms.length - j) ≤ lim →
      f87.l3 L N K n b sl i0 mid k (j : Int) ms act (u : Int) out rows = K b sl i0 mid k ms (out ++ (((List.range ms.length).drop j).filter fun t => (sl[u]).getD t false).map fun t : Nat => Move.mk act (t : Int)) rows := by
  intro n
  induction n with
  | zero => intro j out _ h; omega
  | succ n ih =>
    intro j out hj hn ho
    show f87.s3 L N _ (f87.l3 L N _ n) b sl i0 mid k (j : Int) ms act (u : Int) out rows = _
    unfold f87.s3 f87.s3'
    by_cases hlt : j < ms.length
    · have hle : decide (out.length + ([(Move.mk act (j : Int))] : (List Move)).length ≤ lim) = true := dt (by simp only [List.length_cons, List.length_nil]; omega)
      have hj2 : j < (sl[u]).length := by omega
      have hjr : j < (List.range ms.length).length := by rw [List.length_range]; exact hlt
      simp only [lt_cast hlt, lt_cast hu, lt_cast hj2, le0, Bool.and_true, cond_true, Int.toNat_natCast, at_lt hu, hle, atD, wi_nat (show j < 9223372036854775807 by omega)]
      rw [drop_cons hjr, List.getElem_range, List.filter_cons]
      cases hc : (sl[u]).getD j false with
      | true =>
        rw [cond_true, ih (j + 1) _ (by omega) (by omega) (by simp only [List.length_append, List.length_cons, List.length_nil]; omega), if_pos rfl, List.map_cons, List.append_assoc]
        rfl
      | false =>
        rw [cond_false, ih (j + 1) _ (by omega) (by omega) (by omega), if_neg (by simp)]
    · simp only [ge_cast hlt, cond_false]
      rw [drop_end (by rw [List.length_range]; exact hlt), List.filter_nil, List.map_nil, List.append_nil]
theorem wsG_len (sl : List (List Bool)) (n : Nat) (m : Move) : (wsG sl n m).length ≤ n := by
  unfold wsG
  rw [List.length_map]
  exact Nat.le_trans (List.length_filter_le _ _) (by simp)
theorem sweak2 {R : Type} (L N : Nat) (hL : 1048576 < L) (k1_e2 : Bool → List (List Bool) → Int → List (List Move) → List Move → List (List Move) → Option R) (m1 : Nat) (b : Bool) (sl : List (List Bool)) (i0 : Int) (v : Nat) (ms : List (List Move)) (hv : v < ms.length) (rows : List (List Move))
    (hm : Leads ms) (hsn : sl.length = ms.length) (hsl : ∀ (j : Nat) (hj : j < sl.length), (sl[j]).length = ms.length) :
    ∀ (n k : Nat) (out : List Move), k ≤ (ms[v]).length → (ms[v]).length - k < n → out.length + ((ms[v]).length - k) * 60 ≤ lim →
      f87.l2 L N (fun z35 z36 z37 z38 z39 z40 z41 => f87.p2_e4 L N k1_e2 (f87.l1 L N k1_e2 m1) z35 z36 z37 z38 z39 z40 z41) n b sl i0 (v : Int) (k : Int) ms out rows
        = f87.l1 L N k1_e2 m1 b sl i0 (wi ((v : Int) + 1)) ms (out ++ ((ms[v]).drop k).flatMap (wsG sl ms.length)) rows := by
  have hms := hm.1
  have hrow := hm.2 v hv
  intro n
  induction n with
  | zero => intro k out _ h; omega
  | succ n ih =>
    intro k out hk hn ho
    show f87.s2 L N _ (f87.l2 L N _ n) b sl i0 (v : Int) (k : Int) ms out rows = _
    unfold f87.s2 f87.s2'
    by_cases hlt : k < (ms[v]).length
    · have hstep : ((ms[v]).length - k) * 60 = ((ms[v]).length - (k + 1)) * 60 + 60 := by
        rw [show (ms[v]).length - k = ((ms[v]).length - (k + 1)) + 1 by omega, Nat.add_mul]
      obtain ⟨t, ht, htl⟩ := hm.nat hv hlt
      have htl' : t < sl.length := by omega
      simp only [lt_cast hv, le0, Bool.and_true, cond_true, Int.toNat_natCast, at_lt hv, lt_cast hlt, at_lt hlt, ht]
      refine (sweak3 L N _ b sl i0 (v : Int) (k : Int) ms _ t htl' (hsl t htl') rows hms L 0 out (by omega) (by omega) (by omega)).trans ?_
      show f87.p3_e6' L N _ _ b sl i0 (v : Int) (k : Int) ms _ rows = _
      unfold f87.p3_e6'
      have hG : wsG sl ms.length (ms[v])[k] = ((List.range ms.length).filter fun t' => (sl[t]).getD t' false).map fun t' : Nat => Move.mk ((ms[v])[k]).act (t' : Int) := by
        unfold wsG
        rw [ht, Int.toNat_natCast, getD_lt htl']
      have hGl := wsG_len sl ms.length (ms[v])[k]
      rw [hG] at hGl
      rw [List.drop_zero, wi_nat (by omega), ih (k + 1) _ (by omega) (by omega) (by rw [List.length_append]; omega), drop_cons hlt, List.flatMap_cons, hG, List.append_assoc]
    · simp only [lt_cast hv, le0, Bool.and_true, cond_true, Int.toNat_natCast, at_lt hv, ge_cast hlt, cond_false]
      rw [drop_end hlt, List.flatMap_nil, List.append_nil]
      rfl
theorem wsF_len (b : Bool) {sl : List (List Bool)} {ms : List (List Move)} (hm : Leads ms) (s v : Nat) (hv : v < ms.length) : (wsF b sl ms s v).length ≤ 62914561 := by
  have hms := hm.1
  have hrow := (hm.2 v hv).1
  have hfl : ((ms[v]).flatMap (wsG sl ms.length)).length ≤ (ms[v]).length * ms.length := flat_len_le fun m _ => wsG_len sl ms.length m
  have h2 : (ms[v]).length * ms.length ≤ (ms[v]).length * 60 := Nat.mul_le_mul (Nat.le_refl _) hms
  unfold wsF
  split
  · rw [getD_lt hv, List.length_append]
    cases b <;> simp only [Bool.false_eq_true, if_true, if_false, List.length_cons, List.length_nil] <;> omega
  · simp
theorem sweak1 {R : Type} (L N : Nat) (hL : 1048576 < L) (K : Bool → List (List Bool) → Int → List (List Move) → List Move → List (List Move) → Option R) (b : Bool) (sl : List (List Bool)) (i0 : Nat) (ms : List (List Move)) (hi0 : i0 < ms.length) (rows : List (List Move))
    (hm : Leads ms) (hsn : sl.length = ms.length) (hsl : ∀ (j : Nat) (hj : j < sl.length), (sl[j]).length = ms.length) :
    ∀ (n v : Nat) (out : List Move), v ≤ ms.length → ms.length - v < n → out.length + (ms.length - v) * 62914561 ≤ lim →
      f87.l1 L N K n b sl (i0 : Int) (v : Int) ms out rows = K b sl (i0 : Int) ms (out ++ ((List.range ms.length).drop v).flatMap (wsF b sl ms i0)) rows := by
  have hms := hm.1
  intro n
  induction n with
  | zero => intro k out _ h; omega
  | succ n ih =>
    intro v out hk hn ho
    show f87.s1 L N _ (f87.l1 L N _ n) b sl (i0 : Int) (v : Int) ms out rows = _
    unfold f87.s1 f87.s1'
    by_cases hlt : v < ms.length
    · have hstep : (ms.length - v) * 62914561 = (ms.length - (v + 1)) * 62914561 + 62914561 := by
        rw [show ms.length - v = (ms.length - (v + 1)) + 1 by omega, Nat.add_mul]
      have hi' : i0 < sl.length := by omega
      have hv2 : v < (sl[i0]).length := by rw [hsl]; exact hlt
      have hvr : v < (List.range ms.length).length := by rw [List.length_range]; exact hlt
      have hrow := (hm.2 v hlt).1
      have hfl := wsF_len b (sl := sl) hm i0 v hlt
      simp only [lt_cast hlt, lt_cast hi', lt_cast hv2, le0, Bool.and_true, cond_true, Int.toNat_natCast, at_lt hi', atD, wi_nat (show v < 9223372036854775807 by omega)]
      rw [drop_cons hvr, List.getElem_range, List.flatMap_cons]
      have hF : wsF b sl ms i0 v = if (sl[i0]).getD v false = true then (if b then [] else [Move.mk 0 (v : Int)]) ++ (ms[v]).flatMap (wsG sl ms.length) else [] := by
        unfold wsF; rw [getD_lt hi', getD_lt hlt]
      rw [hF] at hfl ⊢
      cases hc : (sl[i0]).getD v false with
      | false =>
        clear hfl hrow
        have e1 : out.length + (ms.length - (v + 1)) * 62914561 ≤ lim := by rw [hstep] at ho; exact Nat.le_trans (Nat.add_le_add_left (Nat.le_add_right _ _) _) ho
        rw [Bool.not_false, cond_true, ih (v + 1) _ (by omega) (by omega) e1, if_neg (by simp)]
        rfl
      | true =>
        rw [hc, if_pos rfl] at hfl
        rw [Bool.not_true, cond_false, if_pos rfl]
        have go : ∀ (pre : List Move), (pre ++ (ms[v]).flatMap (wsG sl ms.length)).length ≤ 62914561 → pre.length ≤ 1 → f87.j0' L N K (f87.l1 L N K n) (f87.l2 L N (fun z35 z36 z37 z38 z39 z40 z41 => f87.p2_e4 L N K (f87.l1 L N K n) z35 z36 z37 z38 z39 z40 z41) L) b sl (i0 : Int) (v : Int) ms (out ++ pre) rows
            = K b sl (i0 : Int) ms (out ++ ((pre ++ (ms[v]).flatMap (wsG sl ms.length)) ++ ((List.range ms.length).drop (v + 1)).flatMap (wsF b sl ms i0))) rows := by
          intro pre hpl hp1
          unfold f87.j0'
          refine (sweak2 L N hL K n b sl (i0 : Int) v ms hlt rows hm hsn hsl L 0 _ (by omega) (by omega) (by rw [List.length_append]; omega)).trans ?_
          rw [List.drop_zero, wi_nat (by omega), ih (v + 1) _ (by omega) (by omega) (by rw [List.length_append] at hpl; rw [List.length_append, List.length_append]; omega)]
          simp only [List.append_assoc]
        cases b with
        | true =>
          have h := go [] (by simpa using hfl) (by simp)
          rw [List.append_nil] at h
          simpa using h
        | false =>
          have h := go [Move.mk 0 (v : Int)] (by simpa using hfl) (by simp)
          have hle : decide (out.length + ([(Move.mk (0 : Int) (v : Int))] : (List Move)).length ≤ lim) = true := dt (by simp only [List.length_cons, List.length_nil]; omega)
          rw [Bool.not_false, cond_true, hle, cond_true]
          simpa using h
    · simp only [ge_cast hlt, cond_false]
      rw [drop_end (by rw [List.length_range]; exact hlt), List.flatMap_nil, List.append_nil]
theorem l5Weak_ok (L N : Nat) (b : Bool) (ms : List (List Move)) (hm : Leads ms) (hL : 8589934592 ≤ L) :
    ∃ (sl : List (List Bool)) (rows : List (List Move)), sl.length = ms.length ∧ (∀ (j : Nat) (hj : j < sl.length), (sl[j]).length = ms.length ∧ ∀ t : Nat, Tr sl[j] t ↔ Slip ms (fun s => s = j) t) ∧
      f87 L N ⟨ms⟩ b = some ⟨rows⟩ ∧ rows.length = ms.length ∧ ∀ (j : Nat) (hj : j < rows.length), RisesM rows[j] ∧ ∀ v, v ∈ rows[j] ↔ v ∈ (List.range ms.length).flatMap (wsF b sl ms j) := by
  have hlim := lim_eq
  have hn := hm.1
  obtain ⟨sl, e, hsn, hs⟩ := l5Slips_ok L N ms hm (by omega)
  refine ⟨sl, ?_⟩
  have hsl : ∀ (j : Nat) (hj : j < sl.length), (sl[j]).length = ms.length := fun j hj => (hs j hj).1
  have e' : f122 L N (Graph.mk (Graph.mk ms).moves) = some sl := e
  have key : ∀ (n i : Nat) (rows : List (List Move)), i ≤ ms.length → ms.length - i < n → rows.length = i → (∀ (j : Nat) (hj : j < rows.length), RisesM rows[j] ∧ ∀ v, v ∈ rows[j] ↔ v ∈ (List.range ms.length).flatMap (wsF b sl ms j)) →
      ∃ rows', f87.l0 L N (fun z6 => f87.p0_e0 L N some z6) n b sl (i : Int) ms rows = some ⟨rows'⟩ ∧ rows'.length = ms.length ∧ ∀ (j : Nat) (hj : j < rows'.length), RisesM rows'[j] ∧ ∀ v, v ∈ rows'[j] ↔ v ∈ (List.range ms.length).flatMap (wsF b sl ms j) := by
    intro n
    induction n with
    | zero => intro i rows _ h; omega
    | succ n ih =>
      intro i rows hi hn' hr hp
      show ∃ rows', f87.s0 L N _ (f87.l0 L N _ n) b sl (i : Int) ms rows = _ ∧ _
      unfold f87.s0 f87.s0'
      by_cases hlt : i < ms.length
      · simp only [lt_cast hlt, cond_true]
        have h1 := sweak1 L N (by omega) (fun z14 z15 z16 z17 z18 z19 => f87.p1_e2 L N (fun z6 => f87.p0_e0 L N some z6) (f87.l0 L N (fun z6 => f87.p0_e0 L N some z6) n) z14 z15 z16 z17 z18 z19) b sl i ms hlt rows hm hsn hsl L 0 [] (by omega) (by omega) (by simp only [List.length_nil]; omega)
        have h2 : f87.l1 L N (fun z14 z15 z16 z17 z18 z19 => f87.p1_e2 L N (fun z6 => f87.p0_e0 L N some z6) (f87.l0 L N (fun z6 => f87.p0_e0 L N some z6) n) z14 z15 z16 z17 z18 z19) L b sl (i : Int) (0 : Int) ms [] rows = _ := h1
        rw [h2, List.drop_zero, List.nil_append]
        show ∃ rows', f87.p1_e2' L N _ _ b sl (i : Int) ms _ rows = _ ∧ _
        unfold f87.p1_e2'
        have hfl : ((List.range ms.length).flatMap (wsF b sl ms i)).length ≤ (List.range ms.length).length * 62914561 := flat_len_le fun v hv => wsF_len b hm i v (List.mem_range.1 hv)
        rw [List.length_range] at hfl
        obtain ⟨ys, q1, q2, q3, q4⟩ := l3Sorted_ok L N ((List.range ms.length).flatMap (wsF b sl ms i)) (by omega) (by omega)
        have hle : decide (rows.length + ([ys] : (List (List Move))).length ≤ lim) = true := dt (by simp only [List.length_cons, List.length_nil]; omega)
        rw [q1, Option.bind_some, hle, cond_true, wi_nat (by omega)]
        exact ih (i + 1) _ (by omega) (by omega) (by simp [hr]) (rows_snoc (P := fun j r => RisesM r ∧ ∀ v, v ∈ r ↔ v ∈ (List.range ms.length).flatMap (wsF b sl ms j)) hp (by rw [hr]; exact ⟨q2, q3⟩))
      · simp only [ge_cast hlt, cond_false]
        have hi' : i = ms.length := by omega
        subst hi'
        exact ⟨rows, rfl, hr, hp⟩
  obtain ⟨rows, h1, h2⟩ := key L 0 [] (by omega) (by omega) rfl (fun j hj => by simp at hj)
  refine ⟨rows, hsn, hs, ?_, h2⟩
  show f87.b L N some ⟨ms⟩ b = _
  unfold f87.b f87.b'
  rw [e', Option.bind_some]
  exact h1
theorem Slip.trans {ms : List (List Move)} {X Y : Nat → Prop} {u : Nat} (h : Slip ms Y u) (hX : ∀ t, Y t → Slip ms X t) : Slip ms X u := by
  induction h with
  | base t hy => exact hX t hy
  | step s t _ hl k hk ha ht ih => exact .step s t ih hl k hk ha ht
theorem Slip.lt {ms : List (List Move)} (hm : Leads ms) {X : Nat → Prop} (hX : ∀ t, X t → t < ms.length) {u : Nat} (h : Slip ms X u) : u < ms.length := by
  induction h with
  | base t hx => exact hX t hx
  | step s t _ hl k hk ha ht ih =>
    obtain ⟨t', h1, h2⟩ := hm.nat hl hk
    rw [ht] at h1
    omega
def WkS (ms : List (List Move)) (s : Nat) (m : Move) : Prop := ∃ mid, Slip ms (fun x => x = s) mid ∧
  ((m.act = 0 ∧ m.to = (mid : Int)) ∨ ∃ (hs : mid < ms.length) (k : Nat) (hk : k < (ms[mid]).length) (t u : Nat), (ms[mid])[k].act ≠ 0 ∧ m.act = (ms[mid])[k].act ∧ (ms[mid])[k].to = (t : Int) ∧ Slip ms (fun x => x = t) u ∧ m.to = (u : Int))
theorem wk_mem {ms : List (List Move)} (hm : Leads ms) {sl : List (List Int)} (hsn : sl.length = ms.length) (hs : ∀ (j : Nat) (hj : j < sl.length), (sl[j]).length ≤ ms.length ∧ (∀ v ∈ sl[j], 0 ≤ v ∧ v < (ms.length : Int)) ∧ ∀ t : Nat, (t : Int) ∈ sl[j] ↔ Slip ms (fun s => s = j) t)
    (s : Nat) (hsl : s < sl.length) (m : Move) : m ∈ (sl[s]).flatMap (wkF sl ms) ↔ WkS ms s m := by
  obtain ⟨h1, h2, h3⟩ := hs s hsl
  rw [List.mem_flatMap]
  constructor
  · rintro ⟨v, hv, hmv⟩
    obtain ⟨hv0, hvn⟩ := h2 v hv
    obtain ⟨mid, hmid⟩ := Int.eq_ofNat_of_zero_le hv0
    subst hmid
    have hml : mid < ms.length := by omega
    refine ⟨mid, (h3 mid).1 hv, ?_⟩
    unfold wkF at hmv
    rw [Int.toNat_natCast, getD_lt hml] at hmv
    rcases List.mem_cons.1 hmv with e | hmv
    · exact .inl ⟨by rw [e], by rw [e]⟩
    · obtain ⟨q, hq, hmq⟩ := List.mem_flatMap.1 hmv
      obtain ⟨k, hk, rfl⟩ := List.mem_iff_getElem.1 hq
      obtain ⟨t, ht, htl⟩ := hm.nat hml hk
      have htl' : t < sl.length := by omega
      unfold wkG at hmq
      split at hmq
      · rename_i ha
        rw [ht, Int.toNat_natCast, getD_lt htl'] at hmq
        obtain ⟨w, hw, rfl⟩ := List.mem_map.1 hmq
        obtain ⟨hw0, hwn⟩ := (hs t htl').2.1 w hw
        obtain ⟨u, hu⟩ := Int.eq_ofNat_of_zero_le hw0
        subst hu
        exact .inr ⟨hml, k, hk, t, u, ha, rfl, ht, ((hs t htl').2.2 u).1 hw, rfl⟩
      · cases hmq
  · rintro ⟨mid, hsm, h⟩
    have hml : mid < ms.length := hsm.lt hm (fun t ht => by omega)
    refine ⟨(mid : Int), (h3 mid).2 hsm, ?_⟩
    unfold wkF
    rw [Int.toNat_natCast, getD_lt hml]
    rcases h with ⟨ha, ht⟩ | ⟨_, k, hk, t, u, ha, hact, ht, hu, hto⟩
    · refine List.mem_cons.2 (.inl ?_)
      rw [← mv_eta m, ha, ht]
    · obtain ⟨t', ht', htl⟩ := hm.nat hml hk
      rw [ht] at ht'
      obtain rfl : t = t' := by omega
      have htl' : t < sl.length := by omega
      refine List.mem_cons.2 (.inr (List.mem_flatMap.2 ⟨_, List.getElem_mem hk, ?_⟩))
      unfold wkG
      rw [if_pos ha, ht, Int.toNat_natCast, getD_lt htl']
      refine List.mem_map.2 ⟨(u : Int), ((hs t htl').2.2 u).2 hu, ?_⟩
      rw [← mv_eta m, hact, hto]
theorem ws_mem {ms : List (List Move)} (hm : Leads ms) {sl : List (List Bool)} (hsn : sl.length = ms.length) (hs : ∀ (j : Nat) (hj : j < sl.length), (sl[j]).length = ms.length ∧ ∀ t : Nat, Tr sl[j] t ↔ Slip ms (fun s => s = j) t)
    (s : Nat) (hsl : s < sl.length) (m : Move) : m ∈ (List.range ms.length).flatMap (wsF false sl ms s) ↔ WkS ms s m := by
  obtain ⟨h1, h3⟩ := hs s hsl
  rw [List.mem_flatMap]
  constructor
  · rintro ⟨mid, hv, hmv⟩
    have hml := List.mem_range.1 hv
    unfold wsF at hmv
    rw [getD_lt hsl, getD_lt hml] at hmv
    split at hmv
    · rename_i hT
      have hslip := (h3 mid).1 hT
      rcases List.mem_append.1 hmv with e | hmv
      · have e : m ∈ [Move.mk 0 (mid : Int)] := e
        rw [List.mem_singleton] at e
        exact ⟨mid, hslip, .inl ⟨by rw [e], by rw [e]⟩⟩
      · obtain ⟨q, hq, hmq⟩ := List.mem_flatMap.1 hmv
        obtain ⟨k, hk, rfl⟩ := List.mem_iff_getElem.1 hq
        obtain ⟨t, ht, htl⟩ := hm.nat hml hk
        have htl' : t < sl.length := by omega
        unfold wsG at hmq
        rw [ht, Int.toNat_natCast, getD_lt htl'] at hmq
        obtain ⟨u, hu, rfl⟩ := List.mem_map.1 hmq
        have hu2 := (List.mem_filter.1 hu).2
        have hut := ((hs t htl').2 u).1 hu2
        by_cases ha : (ms[mid])[k].act = 0
        · refine ⟨u, hut.trans fun x hx => ?_, .inl ⟨ha, rfl⟩⟩
          subst hx
          exact .step mid x hslip hml k hk ha ht
        · exact ⟨mid, hslip, .inr ⟨hml, k, hk, t, u, ha, rfl, ht, hut, rfl⟩⟩
    · cases hmv
  · rintro ⟨mid, hsm, h⟩
    have hml : mid < ms.length := hsm.lt hm (fun t ht => by omega)
    refine ⟨mid, List.mem_range.2 hml, ?_⟩
    unfold wsF
    have hT : (sl[s]).getD mid false = true := (h3 mid).2 hsm
    rw [getD_lt hsl, getD_lt hml, if_pos hT]
    rcases h with ⟨ha, ht⟩ | ⟨_, k, hk, t, u, ha, hact, ht, hu, hto⟩
    · refine List.mem_append.2 (.inl (List.mem_singleton.2 ?_))
      rw [← mv_eta m, ha, ht]
    · obtain ⟨t', ht', htl⟩ := hm.nat hml hk
      rw [ht] at ht'
      obtain rfl : t = t' := by omega
      have htl' : t < sl.length := by omega
      refine List.mem_append.2 (.inr (List.mem_flatMap.2 ⟨_, List.getElem_mem hk, ?_⟩))
      unfold wsG
      rw [ht, Int.toNat_natCast, getD_lt htl']
      have hul : u < ms.length := hu.lt hm (fun x hx => by omega)
      refine List.mem_map.2 ⟨u, List.mem_filter.2 ⟨List.mem_range.2 hul, ((hs t htl').2 u).2 hu⟩, ?_⟩
      rw [← mv_eta m, hact, hto]
theorem weak_eq (L N : Nat) (ms : List (List Move)) (hm : Leads ms) (hL : 8589934592 ≤ L) :
    ∃ rows, f88 L N ⟨ms⟩ = some rows ∧ f87 L N ⟨ms⟩ false = some ⟨rows⟩ ∧ rows.length = ms.length ∧ ∀ (j : Nat) (hj : j < rows.length), RisesM rows[j] ∧ ∀ m, m ∈ rows[j] ↔ WkS ms j m := by
  obtain ⟨s1, a1, a2, a3⟩ := weakOf_ok L N ms hm (by omega)
  obtain ⟨s2, rows, b1, b2, b3, b4, b5⟩ := l5Weak_ok L N false ms hm hL
  have hmem : ∀ (j : Nat) (hj : j < rows.length), RisesM rows[j] ∧ ∀ m, m ∈ rows[j] ↔ WkS ms j m := fun j hj => ⟨(b5 j hj).1, fun m => ((b5 j hj).2 m).trans (ws_mem hm b1 b2 j (by omega) m)⟩
  have he : (s1.map fun li => tidyM (li.flatMap (wkF s1 ms))) = rows := by
    apply List.ext_getElem
    · rw [List.length_map]; omega
    · intro j h1 h2
      rw [List.getElem_map]
      have hj1 : j < s1.length := by omega
      exact risesM_ext (tidyM_rises _) (hmem j h2).1 fun x => ((tidyM_mem _ x).trans (wk_mem hm a1 a2 j hj1 x)).trans ((hmem j h2).2 x).symm
  rw [he] at a3
  exact ⟨rows, a3, b3, b4, hmem⟩
end Go.Proofs.Ytdfjdbpklbehoaa.Ev
namespace Go.Proofs.Ytdfjdbpklbehoaa.Ev
open Go
set_option linter.unusedVariables false
set_option linter.unusedSimpArgs false
end Go.Proofs.Ytdfjdbpklbehoaa.Ev
namespace Go.Proofs.Ytdfjdbpklbehoaa.Ev
open Go
set_option linter.unusedVariables false
set_option linter.unusedSimpArgs false
theorem allN_of {q : Nat → Bool} {k i : Nat} (h : ∀ j, i ≤ j → j < i + k → q j = true) : allN q k i = true := (allN_eq (q' := fun _ => true) k i h).trans (allN_true k i)
theorem graphOk_mk {ms : List (List Move)} (h1 : 1 ≤ ms.length) (h2 : ms.length ≤ 60) (h : ∀ (i : Nat) (hi : i < ms.length), RisesM ms[i] ∧ ∀ m ∈ ms[i], mvOk ms.length m = true) : graphOk ⟨ms⟩ = true := by
  unfold graphOk
  rw [Bool.and_eq_true]
  refine ⟨dt ⟨h1, h2⟩, allN_of fun i _ hi => ?_⟩
  have hi' : i < ms.length := by simpa using hi
  show rowOk ms.length (ms.getD i []) = true
  rw [getD_lt hi']
  obtain ⟨a1, a2⟩ := h i hi'
  refine allN_of fun k _ hk => ?_
  have hk' : k < (ms[i]).length := by simpa using hk
  unfold atOk
  rw [getD_lt hk', a2 _ (List.getElem_mem hk'), Bool.true_and]
  by_cases e : k = 0
  · rw [dt e]; rfl
  · rw [getD_lt (show k - 1 < (ms[i]).length by omega), List.pairwise_iff_getElem.1 a1 (k - 1) k (by omega) hk' (by omega), Bool.or_true]
end Go.Proofs.Ytdfjdbpklbehoaa.Ev
namespace Go.Proofs.Ytdfjdbpklbehoaa.Ev
open Go
set_option linter.unusedVariables false
set_option linter.unusedSimpArgs false
def NextE (E : Nat → Nat → Prop) (n : Nat) (q : List Int) : Prop := q.length = n ∧ ∀ (i : Nat) (hi : i < q.length), ∃ j : Nat, q[i] = (j : Int) ∧ j ≤ i ∧ E j i ∧ ∀ j', j' < j → ¬ E j' i
theorem NextE.uniq {E : Nat → Nat → Prop} {n : Nat} {q q' : List Int} (h : NextE E n q) (h' : NextE E n q') : q = q' := by
  apply List.ext_getElem
  · rw [h.1, h'.1]
  · intro i h1 h2
    obtain ⟨j, a1, a2, a3, a4⟩ := h.2 i h1
    obtain ⟨k, b1, b2, b3, b4⟩ := h'.2 i h2
    have : j = k := by
      rcases Nat.lt_trichotomy j k with h | h | h
      · exact absurd a3 (b4 j h)
      · exact h
      · exact absurd b3 (a4 k h)
    rw [a1, b1, this]
theorem NextE.congr {E F : Nat → Nat → Prop} {n : Nat} {q : List Int} (h : NextE E n q) (he : ∀ i j, j ≤ i → i < n → (E j i ↔ F j i)) : NextE F n q :=
  ⟨h.1, fun i hi => by
    obtain ⟨j, a1, a2, a3, a4⟩ := h.2 i hi
    have hn : i < n := by rw [← h.1]; exact hi
    exact ⟨j, a1, a2, (he i j a2 hn).1 a3, fun j' hj' hf => a4 j' hj' ((he i j' (by omega) hn).2 hf)⟩⟩
def Low (p : List Int) : Prop := ∀ (i : Nat) (hi : i < p.length), 0 ≤ p[i] ∧ p[i] ≤ (i : Int)
theorem low_zero (n : Nat) : Low (List.replicate n (0 : Int)) := fun i hi => by rw [List.getElem_replicate]; omega
theorem NextE.low {E : Nat → Nat → Prop} {n : Nat} {q : List Int} (h : NextE E n q) : Low q := fun i hi => by
  obtain ⟨j, a1, a2, -⟩ := h.2 i hi
  rw [a1]; omega
theorem NextE.ge {E : Nat → Nat → Prop} {n : Nat} {p q : List Int} (h : NextE E n q) (hp : p.length = n) (hl : Low p) (hE : ∀ j i, E j i → p.getD j 0 = p.getD i 0) : ∀ (i : Nat) (h1 : i < p.length) (h2 : i < q.length), p[i] ≤ q[i] := fun i h1 h2 => by
  obtain ⟨j, a1, a2, a3, -⟩ := h.2 i h2
  have e := hE j i a3
  have hj : j < p.length := by omega
  rw [getD_lt h1, getD_lt hj] at e
  have := (hl j hj).2
  rw [a1]; omega
def wgt (p : List Int) : Nat := (p.map Int.toNat).sum
theorem wgt_lt : ∀ {p q : List Int}, p.length = q.length → (∀ (i : Nat) (h1 : i < p.length) (h2 : i < q.length), 0 ≤ p[i] ∧ p[i] ≤ q[i]) → p ≠ q → wgt p < wgt q
  | [], [], _, _, h => absurd rfl h
  | [], _ :: _, h, _, _ => by simp at h
  | _ :: _, [], h, _, _ => by simp at h
  | a :: p, b :: q, hl, hle, hne => by
    have h0 := hle 0 (by simp) (by simp)
    have hl' : p.length = q.length := by simpa using hl
    have htl : ∀ (i : Nat) (h1 : i < p.length) (h2 : i < q.length), 0 ≤ p[i] ∧ p[i] ≤ q[i] := fun i h1 h2 => hle (i + 1) (by simp; omega) (by simp; omega)
    simp only [List.getElem_cons_zero] at h0
    unfold wgt
    rw [List.map_cons, List.map_cons, List.sum_cons, List.sum_cons]
    by_cases e : a = b
    · subst e
      have := wgt_lt hl' htl (fun e => hne (by rw [e]))
      unfold wgt at this
      omega
    · by_cases e2 : p = q
      · subst e2; omega
      · have := wgt_lt hl' htl e2
        unfold wgt at this
        omega
theorem wgt_le : ∀ {p : List Int} {B : Nat}, (∀ x ∈ p, x ≤ (B : Int)) → wgt p ≤ p.length * B
  | [], _, _ => by simp [wgt]
  | a :: p, B, h => by
    have h1 := h a (.head _)
    have h2 := wgt_le (p := p) (B := B) fun x hx => h x (.tail _ hx)
    unfold wgt at h2 ⊢
    rw [List.map_cons, List.sum_cons, List.length_cons, Nat.add_mul, Nat.one_mul]
    omega
def Sig (ms : List (List Move)) (p : List Int) (i : Nat) (m : Move) : Prop := ∃ (h : i < ms.length) (k : Nat) (hk : k < (ms[i]).length), m.act = (ms[i])[k].act ∧ m.to = p.getD (ms[i])[k].to.toNat 0
def Akin (ms : List (List Move)) (p : List Int) (j i : Nat) : Prop := p.getD j 0 = p.getD i 0 ∧ ∀ m, Sig ms p i m ↔ Sig ms p j m
theorem Akin.refl (ms : List (List Move)) (p : List Int) (i : Nat) : Akin ms p i i := ⟨rfl, fun _ => Iff.rfl⟩
theorem l4Has_ok (L N : Nat) (ms : List (List Move)) (hm : Leads ms) (hL : 1048576 < L) (p : List Int) (hp : p.length = ms.length) (b : Nat) (hb : b < ms.length) (act c : Int) :
    ∃ r, f183 L N ⟨ms⟩ (b : Int) act p c = some r ∧ (r = true ↔ Sig ms p b ⟨act, c⟩) := by
  have hrow := (hm.2 b hb).1
  show ∃ r, f183.b L N some ⟨ms⟩ (b : Int) act p c = some r ∧ _
  unfold f183.b f183.b'
  have key : ∀ (n k : Nat), k ≤ (ms[b]).length → (ms[b]).length - k < n → (∀ k' (hk' : k' < (ms[b]).length), k' < k → ¬ ((ms[b])[k'].act = act ∧ p.getD (ms[b])[k'].to.toNat 0 = c)) →
      ∃ r, f183.l0 L N (f183.p0_e0 L N some) (fun z13 => f183.p0_r L N some z13) n (b : Int) act p c (k : Int) ms = some r ∧ (r = true ↔ Sig ms p b ⟨act, c⟩) := by
    intro n
    induction n with
    | zero => intro k _ h; omega
    | succ n ih =>
      intro k hk hn hno
      show ∃ r, f183.s0 L N _ _ (f183.l0 L N _ _ n) (b : Int) act p c (k : Int) ms = some r ∧ _
      unfold f183.s0 f183.s0'
      by_cases hlt : k < (ms[b]).length
      · obtain ⟨t, ht, htl⟩ := hm.nat hb hlt
        have htp : t < p.length := by omega
        simp only [le0, lt_cast hb, Bool.and_true, cond_true, Int.toNat_natCast, at_lt hb, lt_cast hlt, at_lt hlt, ht, lt_cast htp, atD]
        have hpt : p.getD t 0 = p.getD (ms[b])[k].to.toNat 0 := by rw [ht, Int.toNat_natCast]
        by_cases h1 : (ms[b])[k].act = act
        · rw [show ((ms[b])[k].act == act) = true by simpa using h1, cond_true]
          by_cases h2 : p.getD t 0 = c
          · rw [show (p.getD t 0 == c) = true by simpa using h2, cond_true]
            exact ⟨true, rfl, by simp only [true_iff]; exact ⟨hb, k, hlt, h1.symm, by rw [← hpt]; exact h2.symm⟩⟩
          · rw [show (p.getD t 0 == c) = false by simpa using h2, cond_false, wi_nat (by omega)]
            refine ih (k + 1) (by omega) (by omega) fun k' hk' hlt' => ?_
            by_cases e : k' = k
            · subst e; rintro ⟨_, q⟩; exact h2 (by rw [hpt]; exact q)
            · exact hno k' hk' (by omega)
        · rw [show ((ms[b])[k].act == act) = false by simpa using h1, cond_false, wi_nat (by omega)]
          refine ih (k + 1) (by omega) (by omega) fun k' hk' hlt' => ?_
          by_cases e : k' = k
          · subst e; rintro ⟨q, _⟩; exact h1 q
          · exact hno k' hk' (by omega)
      · simp only [le0, lt_cast hb, Bool.and_true, cond_true, Int.toNat_natCast, at_lt hb, ge_cast hlt, cond_false]
        refine ⟨false, rfl, ?_⟩
        simp only [Bool.false_eq_true, false_iff]
        rintro ⟨_, k', hk', q1, q2⟩
        exact hno k' hk' (by omega) ⟨q1.symm, q2.symm⟩
  exact key L 0 (by omega) (by omega) (fun _ _ h => by omega)
theorem l4Covers_ok (L N : Nat) (ms : List (List Move)) (hm : Leads ms) (hL : 1048576 < L) (p : List Int) (hp : p.length = ms.length) (a b : Nat) (ha : a < ms.length) (hb : b < ms.length) :
    ∃ r, f157 L N ⟨ms⟩ (a : Int) (b : Int) p = some r ∧ (r = true ↔ ∀ m, Sig ms p a m → Sig ms p b m) := by
  have hrow := (hm.2 a ha).1
  show ∃ r, f157.b L N some ⟨ms⟩ (a : Int) (b : Int) p = some r ∧ _
  unfold f157.b f157.b'
  have key : ∀ (n k : Nat), k ≤ (ms[a]).length → (ms[a]).length - k < n → (∀ k' (hk' : k' < (ms[a]).length), k' < k → Sig ms p b ⟨(ms[a])[k'].act, p.getD (ms[a])[k'].to.toNat 0⟩) →
      ∃ r, f157.l0 L N (f157.p0_e0 L N some) (fun z6 => f157.p0_r L N some z6) n (a : Int) (b : Int) p (k : Int) ms = some r ∧ (r = true ↔ ∀ m, Sig ms p a m → Sig ms p b m) := by
    intro n
    induction n with
    | zero => intro k _ h; omega
    | succ n ih =>
      intro k hk hn hyes
      show ∃ r, f157.s0 L N _ _ (f157.l0 L N _ _ n) (a : Int) (b : Int) p (k : Int) ms = some r ∧ _
      unfold f157.s0 f157.s0'
      by_cases hlt : k < (ms[a]).length
      · obtain ⟨t, ht, htl⟩ := hm.nat ha hlt
        have htp : t < p.length := by omega
        obtain ⟨r, hr, hr2⟩ := l4Has_ok L N ms hm hL p hp b hb (ms[a])[k].act (p.getD t 0)
        have hpt : p.getD t 0 = p.getD (ms[a])[k].to.toNat 0 := by rw [ht, Int.toNat_natCast]
        simp only [le0, lt_cast ha, Bool.and_true, cond_true, Int.toNat_natCast, at_lt ha, lt_cast hlt, at_lt hlt, ht, lt_cast htp, atD, hr, Option.bind_some]
        cases r with
        | true =>
          rw [Bool.not_true, cond_false, wi_nat (by omega)]
          refine ih (k + 1) (by omega) (by omega) fun k' hk' hlt' => ?_
          by_cases e : k' = k
          · subst e; rw [← hpt]; exact hr2.1 rfl
          · exact hyes k' hk' (by omega)
        | false =>
          rw [Bool.not_false, cond_true]
          refine ⟨false, rfl, ?_⟩
          simp only [Bool.false_eq_true, false_iff]
          intro h
          exact absurd (hr2.2 (h _ ⟨ha, k, hlt, rfl, hpt⟩)) (by simp)
      · simp only [le0, lt_cast ha, Bool.and_true, cond_true, Int.toNat_natCast, at_lt ha, ge_cast hlt, cond_false]
        refine ⟨true, rfl, ?_⟩
        simp only [true_iff]
        rintro m ⟨_, k', hk', q1, q2⟩
        have := hyes k' hk' (by omega)
        rw [← q1, ← q2] at this
        exact this
  exact key L 0 (by omega) (by omega) (fun _ _ h => by omega)
theorem l4Next_ok (L N : Nat) (ms : List (List Move)) (hm : Leads ms) (hL : 1048576 < L) (p : List Int) (hp : p.length = ms.length) :
    ∃ q, f146 L N ⟨ms⟩ p = some q ∧ NextE (Akin ms p) ms.length q := by
  have hlim := lim_eq
  have hn60 := hm.1
  have inner : ∀ {R : Type} (K : List Int → Int → Int → List (List Move) → List Int → Option R) (i : Nat) (hi : i < ms.length) (out : List Int) (n c best : Nat) (z : Int), z = (c : Int) - 1 → c < n → c ≤ best → best ≤ i → Akin ms p best i → (∀ j', c ≤ j' → j' < best → ¬ Akin ms p j' i) →
      ∃ b' : Nat, b' ≤ i ∧ Akin ms p b' i ∧ (∀ j', j' < b' → ¬ Akin ms p j' i) ∧ f146.l1 L N K n p (i : Int) (best : Int) z ms out = K p (i : Int) (b' : Int) ms out := by
    intro R K i hi out n
    induction n with
    | zero => intro c best z _ h; omega
    | succ n ih =>
      intro c best z hz hn hcb hbi hE hno
      show ∃ b' : Nat, _ ∧ _ ∧ _ ∧ f146.s1 L N _ (f146.l1 L N _ n) p (i : Int) (best : Int) z ms out = _
      unfold f146.s1 f146.s1'
      cases c with
      | zero =>
        rw [show decide (z ≥ 0) = false from decide_eq_false (by omega), cond_false]
        exact ⟨best, hbi, hE, fun j' h => hno j' (by omega) h, rfl⟩
      | succ c =>
        have hz' : z = (c : Int) := by omega
        subst hz'
        have hc : c < p.length := by omega
        have hip : i < p.length := by omega
        have hw : wi ((c : Int) - 1) = (c : Int) - 1 := wi_id (by omega) (by omega)
        rw [show decide ((c : Int) ≥ 0) = true from decide_eq_true (by omega), cond_true]
        simp only [le0, lt_cast hc, lt_cast hip, Bool.and_true, cond_true, Int.toNat_natCast, atD, hw]
        have stay : ¬ Akin ms p c i → ∃ b' : Nat, b' ≤ i ∧ Akin ms p b' i ∧ (∀ j', j' < b' → ¬ Akin ms p j' i) ∧ f146.l1 L N K n p (i : Int) (best : Int) ((c : Int) - 1) ms out = K p (i : Int) (b' : Int) ms out := fun hne =>
          ih c best ((c : Int) - 1) rfl (by omega) (by omega) hbi hE fun j' h1 h2 => by
            by_cases e : j' = c
            · subst e; exact hne
            · exact hno j' (by omega) h2
        by_cases h1 : p.getD c 0 = p.getD i 0
        · obtain ⟨r1, e1, f1⟩ := l4Covers_ok L N ms hm hL p hp i c hi (by omega)
          obtain ⟨r2, e2, f2⟩ := l4Covers_ok L N ms hm hL p hp c i (by omega) hi
          rw [show (p.getD c 0 == p.getD i 0) = true by simpa using h1, cond_true]
          simp only [e1, e2, Option.bind_some]
          cases r1 with
          | false =>
            rw [cond_false]
            exact stay fun h => absurd (f1.2 fun m hm' => (h.2 m).1 hm') (by simp)
          | true =>
            rw [cond_true]
            cases r2 with
            | false =>
              rw [cond_false]
              exact stay fun h => absurd (f2.2 fun m hm' => (h.2 m).2 hm') (by simp)
            | true =>
              rw [cond_true]
              exact ih c c ((c : Int) - 1) rfl (by omega) (Nat.le_refl _) (by omega) ⟨h1, fun m => ⟨f1.1 rfl m, f2.1 rfl m⟩⟩ fun j' h1 h2 => by omega
        · rw [show (p.getD c 0 == p.getD i 0) = false by simpa using h1, cond_false]
          exact stay fun h => h1 h.1
  show ∃ q, f146.b L N some ⟨ms⟩ p = some q ∧ _
  unfold f146.b f146.b'
  have key : ∀ (n i : Nat) (out : List Int), out.length = i → i ≤ ms.length → ms.length - i < n → (∀ (i' : Nat) (hi : i' < out.length), ∃ j : Nat, out[i'] = (j : Int) ∧ j ≤ i' ∧ Akin ms p j i' ∧ ∀ j', j' < j → ¬ Akin ms p j' i') →
      ∃ q, f146.l0 L N (fun z4 => f146.p0_e0 L N some z4) n p (i : Int) ms out = some q ∧ NextE (Akin ms p) ms.length q := by
    intro n
    induction n with
    | zero => intro i out _ _ h; omega
    | succ n ih =>
      intro i out hl hi hn hout
      show ∃ q, f146.s0 L N _ (f146.l0 L N _ n) p (i : Int) ms out = some q ∧ _
      unfold f146.s0 f146.s0'
      by_cases hlt : i < ms.length
      · have hip : i < p.length := by omega
        have hw : wi ((i : Int) - 1) = (i : Int) - 1 := wi_id (by omega) (by omega)
        simp only [lt_cast hip, cond_true, hw]
        obtain ⟨b', q1, q2, q3, e⟩ := inner (fun z11 z12 z13 z14 z15 => f146.p1_e2 L N (fun z4 => f146.p0_e0 L N some z4) (f146.l0 L N (fun z4 => f146.p0_e0 L N some z4) n) z11 z12 z13 z14 z15) i hlt out L i i ((i : Int) - 1) rfl (by omega) (Nat.le_refl _) (Nat.le_refl _) (Akin.refl ms p i) (fun j' h1 h2 => by omega)
        rw [e]
        show ∃ q, f146.p1_e2' L N _ _ p (i : Int) (b' : Int) ms out = some q ∧ _
        unfold f146.p1_e2'
        have hle : decide (out.length + ([(b' : Int)] : List Int).length ≤ lim) = true := dt (by simp only [List.length_cons, List.length_nil]; omega)
        rw [hle, cond_true, wi_nat (by omega)]
        refine ih (i + 1) _ (by simp [hl]) (by omega) (by omega) fun i' hi' => ?_
        by_cases h : i' < out.length
        · rw [List.getElem_append_left h]; exact hout i' h
        · have : i' = i := by simp at hi'; omega
          subst this
          refine ⟨b', ?_, q1, q2, q3⟩
          rw [List.getElem_append_right (by omega)]
          simp
      · have hip : ¬ i < p.length := by omega
        simp only [ge_cast hip, cond_false]
        exact ⟨out, rfl, by omega, hout⟩
  exact key L 0 [] rfl (by omega) (by omega) (fun _ h => by simp at h)
theorem l4Same_ok (L N : Nat) (a b : List Int) (hL : a.length < L) (hl : a.length ≤ 1048576) : ∃ r, f116 L N a b = some r ∧ (r = true ↔ a = b) := by
  show ∃ r, f116.b L N some a b = some r ∧ _
  unfold f116.b f116.b'
  by_cases he : a.length = b.length
  · have : ((a.length : Int) != (b.length : Int)) = false := by simp [he]
    rw [this, cond_false]
    have key : ∀ (n i : Nat), i ≤ a.length → a.length - i < n → (∀ j (h1 : j < a.length) (h2 : j < b.length), j < i → a[j] = b[j]) →
        ∃ r, f116.l0 L N (f116.p0_e0 L N some) (fun z3 => f116.p0_r L N some z3) n a b (i : Int) = some r ∧ (r = true ↔ a = b) := by
      intro n
      induction n with
      | zero => intro i _ h; omega
      | succ n ih =>
        intro i hi hn hs
        show ∃ r, f116.s0 L N _ _ (f116.l0 L N _ _ n) a b (i : Int) = some r ∧ _
        unfold f116.s0 f116.s0'
        by_cases hlt : i < a.length
        · have hlt' : i < b.length := by omega
          simp only [le0, lt_cast hlt, lt_cast hlt', Bool.and_true, cond_true, Int.toNat_natCast, at_lt hlt, at_lt hlt']
          by_cases h1 : a[i] = b[i]
          · rw [show (a[i] != b[i]) = false by simpa using h1, cond_false, wi_nat (by omega)]
            refine ih (i + 1) (by omega) (by omega) fun j h2 h3 h4 => ?_
            by_cases e : j = i
            · subst e; exact h1
            · exact hs j h2 h3 (by omega)
          · rw [show (a[i] != b[i]) = true by simpa using h1, cond_true]
            refine ⟨false, rfl, ?_⟩
            simp only [Bool.false_eq_true, false_iff]
            intro e
            subst e
            exact h1 rfl
        · simp only [ge_cast hlt, cond_false]
          refine ⟨true, rfl, ?_⟩
          simp only [true_iff]
          exact List.ext_getElem he fun j h1 h2 => hs j h1 h2 (by omega)
    exact key L 0 (by omega) (by omega) (fun _ _ _ h => by omega)
  · have : ((a.length : Int) != (b.length : Int)) = true := by simp; omega
    rw [this, cond_true]
    refine ⟨false, rfl, ?_⟩
    simp only [Bool.false_eq_true, false_iff]
    intro e
    exact he (by rw [e])
theorem equalI_ok (L N : Nat) (a b : List Int) (hL : a.length < L) (hl : a.length ≤ 1048576) : ∃ r, f119 L N a b = some r ∧ (r = true ↔ a = b) := by
  show ∃ r, f119.b L N some a b = some r ∧ _
  unfold f119.b f119.b'
  by_cases he : a.length = b.length
  · have : ((a.length : Int) != (b.length : Int)) = false := by simp [he]
    rw [this, cond_false]
    have key : ∀ (n i : Nat), i ≤ a.length → a.length - i < n → (∀ j (h1 : j < a.length) (h2 : j < b.length), j < i → a[j] = b[j]) →
        ∃ r, f119.l0 L N (f119.p0_e0 L N some) (fun z3 => f119.p0_r L N some z3) n a b (a.length : Int) (i : Int) = some r ∧ (r = true ↔ a = b) := by
      intro n
      induction n with
      | zero => intro i _ h; omega
      | succ n ih =>
        intro i hi hn hs
        show ∃ r, f119.s0 L N _ _ (f119.l0 L N _ _ n) a b (a.length : Int) (i : Int) = some r ∧ _
        unfold f119.s0 f119.s0'
        by_cases hlt : i < a.length
        · have hlt' : i < b.length := by omega
          simp only [le0, lt_cast hlt, lt_cast hlt', Bool.and_true, cond_true, Int.toNat_natCast, at_lt hlt, at_lt hlt']
          by_cases h1 : a[i] = b[i]
          · rw [show (a[i] != b[i]) = false by simpa using h1, cond_false, wi_nat (by omega)]
            refine ih (i + 1) (by omega) (by omega) fun j h2 h3 h4 => ?_
            by_cases e : j = i
            · subst e; exact h1
            · exact hs j h2 h3 (by omega)
          · rw [show (a[i] != b[i]) = true by simpa using h1, cond_true]
            refine ⟨false, rfl, ?_⟩
            simp only [Bool.false_eq_true, false_iff]
            intro e
            subst e
            exact h1 rfl
        · simp only [ge_cast hlt, cond_false]
          refine ⟨true, rfl, ?_⟩
          simp only [true_iff]
          exact List.ext_getElem he fun j h1 h2 => hs j h1 h2 (by omega)
    exact key L 0 (by omega) (by omega) (fun _ _ _ h => by omega)
  · have : ((a.length : Int) != (b.length : Int)) = true := by simp; omega
    rw [this, cond_true]
    refine ⟨false, rfl, ?_⟩
    simp only [Bool.false_eq_true, false_iff]
    intro e
    exact he (by rw [e])
end Go.Proofs.Ytdfjdbpklbehoaa.Ev
namespace Go.Proofs.Ytdfjdbpklbehoaa.Ev
open Go
set_option linter.unusedVariables false
set_option linter.unusedSimpArgs false
theorem equalMA_ok (L N : Nat) (a b : List Move) (hL : a.length < L) (hl : a.length ≤ 1099511627776) : ∃ r, f142 L N a b = some r ∧ (r = true ↔ a = b) := by
  show ∃ r, f142.b L N some a b = some r ∧ _
  unfold f142.b f142.b'
  have eqb : ∀ x y : Move, Move.eqb x y = true ↔ x = y := fun x y => by
    constructor
    · intro h
      simp only [Move.eqb, Bool.and_eq_true, beq_iff_eq] at h
      rw [← mv_eta x, ← mv_eta y, h.1, h.2]
    · rintro rfl; simp [Move.eqb]
  by_cases he : a.length = b.length
  · have : ((a.length : Int) != (b.length : Int)) = false := by simp [he]
    rw [this, cond_false]
    have key : ∀ (n i : Nat), i ≤ a.length → a.length - i < n → (∀ j (h1 : j < a.length) (h2 : j < b.length), j < i → a[j] = b[j]) →
        ∃ r, f142.l0 L N (f142.p0_e0 L N some) (fun z4 => f142.p0_r L N some z4) n a b (a.length : Int) (i : Int) = some r ∧ (r = true ↔ a = b) := by
      intro n
      induction n with
      | zero => intro i _ h; omega
      | succ n ih =>
        intro i hi hn hs
        show ∃ r, f142.s0 L N _ _ (f142.l0 L N _ _ n) a b (a.length : Int) (i : Int) = some r ∧ _
        unfold f142.s0 f142.s0'
        by_cases hlt : i < a.length
        · have hlt' : i < b.length := by omega
          simp only [le0, lt_cast hlt, lt_cast hlt', Bool.and_true, cond_true, Int.toNat_natCast, at_lt hlt, at_lt hlt']
          cases h0 : Move.eqb a[i] b[i] with
          | true =>
            have h1 := (eqb _ _).1 h0
            rw [Bool.not_true, cond_false, wi_nat (by omega)]
            refine ih (i + 1) (by omega) (by omega) fun j h2 h3 h4 => ?_
            by_cases e : j = i
            · subst e; exact h1
            · exact hs j h2 h3 (by omega)
          | false =>
            rw [Bool.not_false, cond_true]
            refine ⟨false, rfl, ?_⟩
            simp only [Bool.false_eq_true, false_iff]
            intro e
            subst e
            rw [(eqb _ _).2 rfl] at h0; cases h0
        · simp only [ge_cast hlt, cond_false]
          refine ⟨true, rfl, ?_⟩
          simp only [true_iff]
          exact List.ext_getElem he fun j h1 h2 => hs j h1 h2 (by omega)
    exact key L 0 (by omega) (by omega) (fun _ _ _ h => by omega)
  · have : ((a.length : Int) != (b.length : Int)) = true := by simp; omega
    rw [this, cond_true]
    refine ⟨false, rfl, ?_⟩
    simp only [Bool.false_eq_true, false_iff]
    intro e
    exact he (by rw [e])
theorem refineA_ok (L N : Nat) (ms : List (List Move)) (hn60 : ms.length ≤ 60) (hL : 8589934592 ≤ L) (p : List Int) (hp : p.length = ms.length) (key : Nat → List Move) (hkl : ∀ i, (key i).length ≤ 3774873660)
    (hkey : ∀ i, i < ms.length → f118_2 L N (i : Int) ms p = some (key i)) :
    ∃ q, f117_2 L N p ms p = some q ∧ NextE (fun j i => p.getD j 0 = p.getD i 0 ∧ key j = key i) ms.length q := by
  have hlim := lim_eq
  have inner : ∀ {R : Type} (K : List Int → List (List Move) → List Int → Int → Int → List Int → List (List Move) → Option R) (i : Nat) (hi : i < ms.length) (out : List Int) (keys : List (List Move)), out.length = ms.length → keys.length = ms.length → (∀ j, j ≤ i → keys.getD j [] = key j) → ∀ (n j : Nat), j ≤ i → i - j < n → (∀ j', j' < j → ¬ (p.getD j' 0 = p.getD i 0 ∧ key j' = key i)) → out.getD i 0 = (i : Int) →
      ∃ (b : Nat) (out' : List Int), b ≤ i ∧ (p.getD b 0 = p.getD i 0 ∧ key b = key i) ∧ (∀ j', j' < b → ¬ (p.getD j' 0 = p.getD i 0 ∧ key j' = key i)) ∧ out' = out.set i (b : Int) ∧ f117_2.l1 L N K n p ms p (i : Int) (j : Int) (ms.length : Int) (i : Int) out keys = K p ms p (ms.length : Int) (i : Int) out' keys := by
    intro R K i hi out keys ho hk hks n
    induction n with
    | zero => intro j _ h; omega
    | succ n ih =>
      intro j hj hn hno hoi
      show ∃ (b : Nat) (out' : List Int), _ ∧ _ ∧ _ ∧ _ ∧ f117_2.s1 L N _ (f117_2.l1 L N _ n) p ms p (i : Int) (j : Int) (ms.length : Int) (i : Int) out keys = _
      unfold f117_2.s1 f117_2.s1'
      by_cases hlt : j < i
      · have hjp : j < p.length := by omega
        have hip : i < p.length := by omega
        have hjk : j < keys.length := by omega
        have hik : i < keys.length := by omega
        have hio : i < out.length := by omega
        simp only [lt_cast hlt, le0, lt_cast hjp, lt_cast hip, lt_cast hjk, lt_cast hik, Bool.and_true, cond_true, Int.toNat_natCast, atD, hks j (by omega), hks i (by omega)]
        have stay : ¬ (p.getD j 0 = p.getD i 0 ∧ key j = key i) → ∃ (b : Nat) (out' : List Int), b ≤ i ∧ (p.getD b 0 = p.getD i 0 ∧ key b = key i) ∧ (∀ j', j' < b → ¬ (p.getD j' 0 = p.getD i 0 ∧ key j' = key i)) ∧ out' = out.set i (b : Int) ∧ f117_2.l1 L N K n p ms p (i : Int) (wi ((j : Int) + 1)) (ms.length : Int) (i : Int) out keys = K p ms p (ms.length : Int) (i : Int) out' keys := fun hne => by
          rw [wi_nat (by omega)]
          refine ih (j + 1) (by omega) (by omega) (fun j' h => ?_) hoi
          by_cases e : j' = j
          · subst e; exact hne
          · exact hno j' (by omega)
        by_cases h1 : p.getD j 0 = p.getD i 0
        · obtain ⟨r, e1, f1⟩ := equalMA_ok L N (key j) (key i) (by have := hkl j; omega) (by have := hkl j; omega)
          rw [show (p.getD j 0 == p.getD i 0) = true by simpa using h1, cond_true, e1, Option.bind_some]
          unfold f117_2.j0'
          cases r with
          | true =>
            simp only [cond_true, le0, lt_cast hio, Bool.and_true, Int.toNat_natCast]
            exact ⟨j, _, by omega, ⟨h1, f1.1 rfl⟩, hno, rfl, rfl⟩
          | false =>
            rw [cond_false]
            exact stay fun h => absurd (f1.2 h.2) (by simp)
        · rw [show (p.getD j 0 == p.getD i 0) = false by simpa using h1, cond_false]
          unfold f117_2.j0'
          rw [cond_false]
          exact stay fun h => h1 h.1
      · have hji : j = i := by omega
        subst hji
        simp only [ge_cast (Nat.lt_irrefl _), cond_false]
        refine ⟨j, _, Nat.le_refl _, ⟨rfl, rfl⟩, hno, rfl, ?_⟩
        have hio : j < out.length := by omega
        rw [getD_lt hio] at hoi
        rw [← hoi, List.set_getElem_self]
  show ∃ q, f117_2.b L N some p ms p = some q ∧ _
  unfold f117_2.b f117_2.b'
  have h0 : decide ((ms.length : Int) ≤ (lim : Int)) = true := dt (by omega)
  have e0 : ((ms.length : Int)).toNat = ms.length := rfl
  simp only [hp, le0, h0, Bool.and_true, cond_true, e0]
  have key0 : ∀ (n i : Nat) (out : List Int) (keys : List (List Move)), out.length = ms.length → keys.length = ms.length → i ≤ ms.length → ms.length - i < n → (∀ j, j < i → keys.getD j [] = key j) → (∀ i', i' < i → ∃ j : Nat, out.getD i' 0 = (j : Int) ∧ j ≤ i' ∧ (p.getD j 0 = p.getD i' 0 ∧ key j = key i') ∧ ∀ j', j' < j → ¬ (p.getD j' 0 = p.getD i' 0 ∧ key j' = key i')) →
      ∃ q, f117_2.l0 L N (fun z7 => f117_2.p0_e0 L N some z7) n p ms p (ms.length : Int) (i : Int) out keys = some q ∧ NextE (fun j i => p.getD j 0 = p.getD i 0 ∧ key j = key i) ms.length q := by
    intro n
    induction n with
    | zero => intro i out keys _ _ _ h; omega
    | succ n ih =>
      intro i out keys ho hk hi hn hks hout
      show ∃ q, f117_2.s0 L N _ (f117_2.l0 L N _ n) p ms p (ms.length : Int) (i : Int) out keys = some q ∧ _
      unfold f117_2.s0 f117_2.s0'
      by_cases hlt : i < ms.length
      · have hio : i < out.length := by omega
        have hik : i < keys.length := by omega
        simp only [lt_cast hlt, cond_true, hkey i hlt, Option.bind_some, le0, lt_cast hio, lt_cast hik, Bool.and_true, Int.toNat_natCast]
        have hks' : ∀ j, j ≤ i → (keys.set i (key i)).getD j [] = key j := fun j hj => by
          by_cases e : j = i
          · subst e; rw [getD_lt (by simpa using hik), List.getElem_set_self]
          · rw [List.getD, List.getElem?_set_ne (by omega), ← List.getD]; exact hks j (by omega)
        obtain ⟨b, out', q1, q2, q3, q4, e⟩ := inner (fun z18 z19 z20 z21 z22 z23 z24 => f117_2.p1_e2 L N (fun z7 => f117_2.p0_e0 L N some z7) (f117_2.l0 L N (fun z7 => f117_2.p0_e0 L N some z7) n) z18 z19 z20 z21 z22 z23 z24) i hlt (out.set i (i : Int)) (keys.set i (key i)) (by simp [ho]) (by simp [hk]) hks' L 0 (by omega) (by omega) (fun j' h => by omega) (by rw [getD_lt (by simpa using hio), List.getElem_set_self])
        refine (show ∃ q, _ = some q ∧ _ from ?_)
        have e' : f117_2.l1 L N (fun z18 z19 z20 z21 z22 z23 z24 => f117_2.p1_e2 L N (fun z7 => f117_2.p0_e0 L N some z7) (f117_2.l0 L N (fun z7 => f117_2.p0_e0 L N some z7) n) z18 z19 z20 z21 z22 z23 z24) L p ms p (i : Int) (0 : Int) (ms.length : Int) (i : Int) (out.set i (i : Int)) (keys.set i (key i)) = _ := e
        rw [e']
        show ∃ q, f117_2.p1_e2' L N _ _ p ms p (ms.length : Int) (i : Int) out' (keys.set i (key i)) = some q ∧ _
        unfold f117_2.p1_e2'
        rw [wi_nat (by omega)]
        have hset : (out.set i (i : Int)).set i (b : Int) = out.set i (b : Int) := by rw [List.set_set]
        refine ih (i + 1) out' _ (by rw [q4]; simp [ho]) (by simp [hk]) (by omega) (by omega) (fun j hj => hks' j (by omega)) fun i' hi' => ?_
        rw [q4, hset]
        by_cases e : i' = i
        · subst e
          exact ⟨b, by rw [getD_lt (by simpa using hio), List.getElem_set_self], q1, q2, q3⟩
        · obtain ⟨j, r1, r2⟩ := hout i' (by omega)
          exact ⟨j, by rw [List.getD, List.getElem?_set_ne (by omega), ← List.getD]; exact r1, r2⟩
      · simp only [ge_cast hlt, cond_false]
        have hi' : i = ms.length := by omega
        subst hi'
        refine ⟨out, rfl, ho, fun i hi => ?_⟩
        obtain ⟨j, r1, r2⟩ := hout i (by omega)
        rw [getD_lt hi] at r1
        exact ⟨j, r1, r2⟩
  exact key0 L 0 (List.replicate ms.length (0 : Int)) (List.replicate ms.length ([] : List Move)) List.length_replicate List.length_replicate (by omega) (by omega) (fun j h => by omega) (fun i' h => by omega)
end Go.Proofs.Ytdfjdbpklbehoaa.Ev
namespace Go.Proofs.Ytdfjdbpklbehoaa.Ev
open Go
set_option linter.unusedVariables false
set_option linter.unusedSimpArgs false
def sigRow (ms : List (List Move)) (p : List Int) (i : Nat) : List Move := (ms.getD i []).map fun m => Move.mk m.act (p.getD m.to.toNat 0)
def alikeKey (ms : List (List Move)) (p : List Int) (i : Nat) : List Move := tidyM (sigRow ms p i)
theorem sigRow_len {ms : List (List Move)} (hm : Leads ms) (p : List Int) (i : Nat) : (sigRow ms p i).length ≤ 1048576 := by
  unfold sigRow
  rw [List.length_map]
  by_cases h : i < ms.length
  · rw [getD_lt h]; exact (hm.2 i h).1
  · rw [List.getD, List.getElem?_eq_none (by omega)]; simp
theorem sigRow_mem (ms : List (List Move)) (p : List Int) (i : Nat) (m : Move) : m ∈ sigRow ms p i ↔ Sig ms p i m := by
  unfold sigRow Sig
  rw [List.mem_map]
  by_cases h : i < ms.length
  · rw [getD_lt h]
    constructor
    · rintro ⟨x, hx, rfl⟩
      obtain ⟨k, hk, rfl⟩ := List.mem_iff_getElem.1 hx
      exact ⟨h, k, hk, rfl, rfl⟩
    · rintro ⟨_, k, hk, h1, h2⟩
      exact ⟨_, List.getElem_mem hk, by rw [← mv_eta m, h1, h2]⟩
  · rw [List.getD, List.getElem?_eq_none (by omega)]
    constructor
    · rintro ⟨x, hx, -⟩; simp at hx
    · rintro ⟨h', -⟩; exact absurd h' h
theorem alikeKey_len {ms : List (List Move)} (hm : Leads ms) (p : List Int) (i : Nat) : (alikeKey ms p i).length ≤ 3774873660 := by
  have h1 := tidyM_le (sigRow ms p i)
  have h2 := sigRow_len hm p i
  unfold alikeKey
  omega
theorem alikeKey_iff (ms : List (List Move)) (p : List Int) (j i : Nat) : alikeKey ms p j = alikeKey ms p i ↔ ∀ m, Sig ms p i m ↔ Sig ms p j m := by
  have hmem : ∀ k m, m ∈ alikeKey ms p k ↔ Sig ms p k m := fun k m => (tidyM_mem _ m).trans (sigRow_mem ms p k m)
  constructor
  · intro h m
    rw [← hmem i m, ← hmem j m, h]
  · intro h
    exact risesM_ext (tidyM_rises _) (tidyM_rises _) fun m => (hmem j m).trans ((h m).symm.trans (hmem i m).symm)
theorem keyA_ok (L N : Nat) (ms : List (List Move)) (hm : Leads ms) (hL : 8589934592 ≤ L) (p : List Int) (hp : p.length = ms.length) (i : Nat) (hi : i < ms.length) : f118_2 L N (i : Int) ms p = some (alikeKey ms p i) := by
  have hlim := lim_eq
  have hrow := hm.2 i hi
  have h1 : f145_1 L N p (i : Int) ms = some (alikeKey ms p i) := by
    show f145_1.b L N some p (i : Int) ms = _
    unfold f145_1.b f145_1.b'
    simp only [le0, lt_cast hi, Bool.and_true, cond_true, Int.toNat_natCast, at_lt hi]
    have key : ∀ (n k : Nat) (out : List Move), k ≤ (ms[i]).length → (ms[i]).length - k < n → out.length = k →
        f145_1.l0 L N (fun z5 => f145_1.p0_e0 L N some z5) n p ms[i] ((ms[i]).length : Int) (k : Int) out = some (tidyM (out ++ ((ms[i]).drop k).map fun m => Move.mk m.act (p.getD m.to.toNat 0))) := by
      intro n
      induction n with
      | zero => intro k out _ h; omega
      | succ n ih =>
        intro k out hk hn ho
        show f145_1.s0 L N _ (f145_1.l0 L N _ n) p ms[i] ((ms[i]).length : Int) (k : Int) out = _
        unfold f145_1.s0 f145_1.s0'
        by_cases hlt : k < (ms[i]).length
        · obtain ⟨t, ht, htl⟩ := hm.nat hi hlt
          have htp : t < p.length := by omega
          have hle : decide (out.length + ([(Move.mk ((ms[i])[k]).act (p.getD t 0))] : (List Move)).length ≤ lim) = true := dt (by simp only [List.length_cons, List.length_nil]; omega)
          simp only [lt_cast hlt, le0, Bool.and_true, cond_true, Int.toNat_natCast, at_lt hlt, ht, lt_cast htp, atD, hle]
          rw [wi_nat (by omega), ih (k + 1) _ (by omega) (by omega) (by simp [ho]), List.drop_eq_getElem_cons hlt, List.map_cons, ht, Int.toNat_natCast, List.append_assoc]
          rfl
        · simp only [ge_cast hlt, cond_false]
          rw [List.drop_eq_nil_of_le (by omega), List.map_nil, List.append_nil]
          show f145_1.p0_e0' L N some out = _
          unfold f145_1.p0_e0'
          rw [fsortM_some (by omega), Option.bind_some]
    have h := key L 0 [] (by omega) (by omega) rfl
    rw [List.drop_zero, List.nil_append] at h
    have hs : alikeKey ms p i = tidyM ((ms[i]).map fun m => Move.mk m.act (p.getD m.to.toNat 0)) := by
      unfold alikeKey sigRow; rw [getD_lt hi]
    rw [hs]
    exact h
  show f118_2.b' L N some (i : Int) ms p = _
  unfold f118_2.b'
  rw [h1, Option.bind_some]
theorem refineAkin (L N : Nat) (ms : List (List Move)) (hm : Leads ms) (hL : 8589934592 ≤ L) (p : List Int) (hp : p.length = ms.length) :
    ∃ q, f117_2 L N p ms p = some q ∧ NextE (Akin ms p) ms.length q := by
  obtain ⟨q, h1, h2⟩ := refineA_ok L N ms hm.1 hL p hp (alikeKey ms p) (alikeKey_len hm p) (fun i hi => keyA_ok L N ms hm hL p hp i hi)
  exact ⟨q, h1, h2.congr fun i j _ _ => and_congr Iff.rfl (alikeKey_iff ms p j i)⟩
theorem last_cast {α : Type} (pre : List α) (p d : α) (h : pre.length ≤ 1048576) : wi (((pre ++ [p]).length : Int) - 1) = (pre.length : Int) ∧ pre.length < (pre ++ [p]).length ∧ listAt (pre ++ [p]) d pre.length = p := by
  refine ⟨?_, by simp, ?_⟩
  · rw [List.length_append, List.length_cons, List.length_nil, wi_id (by omega) (by omega)]; omega
  · rw [at_lt (by simp)]; simp
end Go.Proofs.Ytdfjdbpklbehoaa.Ev
namespace Go.Proofs.Ytdfjdbpklbehoaa.Ev
open Go
set_option linter.unusedVariables false
set_option linter.unusedSimpArgs false
inductive Chain (E : List Int → Nat → Nat → Prop) (n : Nat) : List (List Int) → List Int → Prop
  | zero : Chain E n [] (List.replicate n 0)
  | snoc (pre : List (List Int)) (p q : List Int) (h : Chain E n pre p) (hq : NextE (E p) n q) : Chain E n (pre ++ [p]) q
structure EqE (E : List Int → Nat → Nat → Prop) : Prop where
  refl : ∀ p i, E p i i
  symm : ∀ p i j, E p i j → E p j i
  trans : ∀ p i j k, E p i j → E p j k → E p i k
  fine : ∀ p i j, E p i j → p.getD i 0 = p.getD j 0
theorem NextE.same {E : Nat → Nat → Prop} {n : Nat} {q : List Int} (h : NextE E n q) (sy : ∀ i j, E i j → E j i) (tr : ∀ i j k, E i j → E j k → E i k) {i i' : Nat} (hi : i < n) (hi' : i' < n) : q.getD i 0 = q.getD i' 0 ↔ E i i' := by
  have hl := h.1
  rw [getD_lt (show i < q.length by omega), getD_lt (show i' < q.length by omega)]
  obtain ⟨j, a1, a2, a3, a4⟩ := h.2 i (by omega)
  obtain ⟨j', b1, b2, b3, b4⟩ := h.2 i' (by omega)
  rw [a1, b1]
  constructor
  · intro e
    obtain rfl : j = j' := by omega
    exact tr _ _ _ (sy _ _ a3) b3
  · intro e
    have h1 : ¬ j < j' := fun hlt => b4 j hlt (tr _ _ _ a3 e)
    have h2 : ¬ j' < j := fun hlt => a4 j' hlt (tr _ _ _ b3 (sy _ _ e))
    have : j = j' := by omega
    rw [this]
theorem Chain.len {E : List Int → Nat → Nat → Prop} {n : Nat} {pre : List (List Int)} {p : List Int} (h : Chain E n pre p) : p.length = n := by
  cases h with
  | zero => simp
  | snoc pre p q h hq => exact hq.1
theorem Chain.low {E : List Int → Nat → Nat → Prop} {n : Nat} {pre : List (List Int)} {p : List Int} (h : Chain E n pre p) : Low p := by
  cases h with
  | zero => exact low_zero n
  | snoc pre p q h hq => exact hq.low
theorem Chain.keeps {E : List Int → Nat → Nat → Prop} (hE : EqE E) {n : Nat} {pre : List (List Int)} {p : List Int} (h : Chain E n pre p) (R : Nat → Nat → Prop)
    (hR : ∀ p, p.length = n → (∀ i j, i < n → j < n → R i j → p.getD i 0 = p.getD j 0) → ∀ i j, i < n → j < n → R i j → E p i j) :
    ∀ i j, i < n → j < n → R i j → p.getD i 0 = p.getD j 0 := by
  induction h with
  | zero =>
    intro i j hi hj _
    rw [getD_lt (by simpa using hi), getD_lt (by simpa using hj), List.getElem_replicate, List.getElem_replicate]
  | snoc pre p q h hq ih =>
    intro i j hi hj hr
    exact (hq.same (hE.symm p) (hE.trans p) hi hj).2 (hR p h.len ih i j hi hj hr)
def Fix (E : List Int → Nat → Nat → Prop) (n : Nat) (q : List Int) : Prop := q.length = n ∧ NextE (E q) n q
theorem Fix.same {E : List Int → Nat → Nat → Prop} (hE : EqE E) {n : Nat} {q : List Int} (h : Fix E n q) {i j : Nat} (hi : i < n) (hj : j < n) : q.getD i 0 = q.getD j 0 ↔ E q i j := h.2.same (hE.symm q) (hE.trans q) hi hj
theorem akinEq (ms : List (List Move)) : EqE (Akin ms) where
  refl p i := Akin.refl ms p i
  symm p i j h := ⟨h.1.symm, fun m => (h.2 m).symm⟩
  trans p i j k h1 h2 := ⟨h1.1.trans h2.1, fun m => (h2.2 m).trans (h1.2 m)⟩
  fine p i j h := h.1
theorem roundsI (L N : Nat) (ms : List (List Move)) (hm : Leads ms) (hL : 8589934592 ≤ L) : ∀ (n : Nat) (pre : List (List Int)) (p : List Int), p.length = ms.length → Low p → pre.length ≤ wgt p → 3600 - wgt p < n → Chain (Akin ms) ms.length pre p →
    ∃ pre' q, f81_2.l0 L N (fun z4 => f81_2.p0_r L N some z4) n ms (pre ++ [p]) = some (pre' ++ [q]) ∧ pre'.length ≤ 3600 ∧ Chain (Akin ms) ms.length pre' q ∧ Fix (Akin ms) ms.length q := by
  have hlim := lim_eq
  have hn60 := hm.1
  have hw : ∀ p : List Int, p.length = ms.length → Low p → wgt p ≤ 3600 := fun p hp hl => by
    have h1 := wgt_le (p := p) (B := 60) fun x hx => by
      obtain ⟨i, hi, rfl⟩ := List.mem_iff_getElem.1 hx
      have := hl i hi; omega
    omega
  intro n
  induction n with
  | zero => intro pre p _ _ _ h; omega
  | succ n ih =>
    intro pre p hp hl hpre hn hch
    have hwp := hw p hp hl
    obtain ⟨e1, e2, e3⟩ := last_cast pre p [] (by omega)
    obtain ⟨q1, b1, a2⟩ := refineAkin L N ms hm hL p hp
    have hq : q1.length = ms.length := a2.1
    obtain ⟨r1, d1, c2⟩ := equalI_ok L N q1 p (by omega) (by omega)
    have hle : decide ((pre ++ [p]).length + ([q1] : List (List Int)).length ≤ lim) = true := dt (by simp only [List.length_append, List.length_cons, List.length_nil]; omega)
    have s2 : f81_2.l0 L N (fun z4 => f81_2.p0_r L N some z4) (n + 1) ms (pre ++ [p]) = bif r1 then some (pre ++ [p]) else f81_2.l0 L N (fun z4 => f81_2.p0_r L N some z4) n ms (pre ++ [p] ++ [q1]) := by
      show f81_2.s0 L N _ (f81_2.l0 L N _ n) ms (pre ++ [p]) = _
      unfold f81_2.s0 f81_2.s0'
      simp only [e1, le0, lt_cast e2, Bool.and_true, cond_true, Int.toNat_natCast, e3, b1, d1, Option.bind_some, hle]
      rfl
    rw [s2]
    cases r1 with
    | true =>
      have heq : q1 = p := c2.1 rfl
      subst heq
      exact ⟨pre, q1, rfl, by omega, hch, hp, a2⟩
    | false =>
      have hne : p ≠ q1 := fun e => absurd (c2.2 e.symm) (by simp)
      have hlt := wgt_lt (by omega) (fun i h1 h2 => ⟨(hl i h1).1, a2.ge hp hl (fun j i h => h.1) i h1 h2⟩) hne
      have hwq := hw q1 hq a2.low
      exact ih (pre ++ [p]) q1 hq a2.low (by simp only [List.length_append, List.length_cons, List.length_nil]; omega) (by omega) (.snoc _ _ _ hch a2)
theorem chainI (L N : Nat) (ms : List (List Move)) (hm : Leads ms) (hL : 8589934592 ≤ L) : ∃ pre q, f121 L N ⟨ms⟩ = some (pre ++ [q]) ∧ pre.length ≤ 3600 ∧ Chain (Akin ms) ms.length pre q ∧ Fix (Akin ms) ms.length q := by
  have hlim := lim_eq
  have hn60 := hm.1
  obtain ⟨pre, q, h2, h4, h5, h6⟩ := roundsI L N ms hm hL L [] (List.replicate ms.length 0) (by simp) (low_zero _) (by simp) (by omega) .zero
  have h0 : decide ((ms.length : Int) ≤ (lim : Int)) = true := dt (by omega)
  have e0 : ((ms.length : Int)).toNat = ms.length := rfl
  have r2 : f121 L N ⟨ms⟩ = some (pre ++ [q]) := by
    have hrr : f81_2 L N (ms.length : Int) ms = some (pre ++ [q]) := by
      show f81_2.b L N some (ms.length : Int) ms = _
      unfold f81_2.b f81_2.b'
      simp only [le0, h0, Bool.and_true, cond_true, e0]
      exact h2
    show f121.b' L N some ⟨ms⟩ = _
    unfold f121.b'
    simp only [hrr, Option.bind_some]
  exact ⟨pre, q, r2, h4, h5, h6⟩
theorem classesI (L N : Nat) (ms : List (List Move)) {pre : List (List Int)} {q : List Int} (hr : f121 L N ⟨ms⟩ = some (pre ++ [q])) (hp : pre.length ≤ 3600) (hq : q.length ≤ 60) : f86 L N ⟨ms⟩ = some q := by
  have hlim := lim_eq
  obtain ⟨e1, e2, e3⟩ := last_cast pre q [] (by omega)
  show f86.b' L N some ⟨ms⟩ = _
  unfold f86.b'
  have hfc : fclone q = some () := by unfold fclone; rw [dt (by omega)]; rfl
  simp only [hr, Option.bind_some, e1, le0, lt_cast e2, Bool.and_true, cond_true, Int.toNat_natCast, e3, hfc]
theorem roundsC (L N : Nat) (ms : List (List Move)) (hm : Leads ms) (hL : 8589934592 ≤ L) : ∀ (n : Nat) (pre : List (List Int)) (p : List Int), p.length = ms.length → Low p → pre.length ≤ wgt p → 3600 - wgt p < n → Chain (Akin ms) ms.length pre p →
    ∃ pre' q, f127.l0 L N (fun z4 => f127.p0_r L N some z4) n ms (pre ++ [p]) = some (pre' ++ [q]) ∧ f81_2.l0 L N (fun z4 => f81_2.p0_r L N some z4) n ms (pre ++ [p]) = some (pre' ++ [q]) ∧ pre'.length ≤ 3600 ∧ Chain (Akin ms) ms.length pre' q ∧ Fix (Akin ms) ms.length q := by
  have hlim := lim_eq
  have hn60 := hm.1
  have hw : ∀ p : List Int, p.length = ms.length → Low p → wgt p ≤ 3600 := fun p hp hl => by
    have h1 := wgt_le (p := p) (B := 60) fun x hx => by
      obtain ⟨i, hi, rfl⟩ := List.mem_iff_getElem.1 hx
      have := hl i hi; omega
    omega
  intro n
  induction n with
  | zero => intro pre p _ _ _ h; omega
  | succ n ih =>
    intro pre p hp hl hpre hn hch
    have hwp := hw p hp hl
    obtain ⟨e1, e2, e3⟩ := last_cast pre p [] (by omega)
    obtain ⟨q1, a1, a2⟩ := l4Next_ok L N ms hm (by omega) p hp
    obtain ⟨q2, b1, b2⟩ := refineAkin L N ms hm hL p hp
    obtain rfl := a2.uniq b2
    have hq : q1.length = ms.length := a2.1
    obtain ⟨r1, c1, c2⟩ := l4Same_ok L N q1 p (by omega) (by omega)
    obtain ⟨r2, d1, d2⟩ := equalI_ok L N q1 p (by omega) (by omega)
    have hr : r1 = r2 := by rw [Bool.eq_iff_iff, c2, d2]
    subst hr
    have hle : decide ((pre ++ [p]).length + ([q1] : List (List Int)).length ≤ lim) = true := dt (by simp only [List.length_append, List.length_cons, List.length_nil]; omega)
    have s1 : f127.l0 L N (fun z4 => f127.p0_r L N some z4) (n + 1) ms (pre ++ [p]) = bif r1 then some (pre ++ [p]) else f127.l0 L N (fun z4 => f127.p0_r L N some z4) n ms (pre ++ [p] ++ [q1]) := by
      show f127.s0 L N _ (f127.l0 L N _ n) ms (pre ++ [p]) = _
      unfold f127.s0 f127.s0'
      simp only [e1, le0, lt_cast e2, Bool.and_true, cond_true, Int.toNat_natCast, e3, a1, c1, Option.bind_some, hle]
      rfl
    have s2 : f81_2.l0 L N (fun z4 => f81_2.p0_r L N some z4) (n + 1) ms (pre ++ [p]) = bif r1 then some (pre ++ [p]) else f81_2.l0 L N (fun z4 => f81_2.p0_r L N some z4) n ms (pre ++ [p] ++ [q1]) := by
      show f81_2.s0 L N _ (f81_2.l0 L N _ n) ms (pre ++ [p]) = _
      unfold f81_2.s0 f81_2.s0'
      simp only [e1, le0, lt_cast e2, Bool.and_true, cond_true, Int.toNat_natCast, e3, b1, d1, Option.bind_some, hle]
      rfl
    rw [s1, s2]
    cases r1 with
    | true =>
      have heq : q1 = p := c2.1 rfl
      subst heq
      exact ⟨pre, q1, rfl, rfl, by omega, hch, hp, a2⟩
    | false =>
      have hne : p ≠ q1 := fun e => absurd (c2.2 e.symm) (by simp)
      have hlt := wgt_lt (by omega) (fun i h1 h2 => ⟨(hl i h1).1, a2.ge hp hl (fun j i h => h.1) i h1 h2⟩) hne
      have hwq := hw q1 hq a2.low
      exact ih (pre ++ [p]) q1 hq a2.low (by simp only [List.length_append, List.length_cons, List.length_nil]; omega) (by omega) (.snoc _ _ _ hch a2)
theorem chainS (L N : Nat) (ms : List (List Move)) (hm : Leads ms) (hL : 8589934592 ≤ L) {pre : List (List Int)} {q : List Int} (hr : f121 L N ⟨ms⟩ = some (pre ++ [q])) : f127 L N ⟨ms⟩ = some (pre ++ [q]) := by
  have hlim := lim_eq
  have hn60 := hm.1
  obtain ⟨pre', q', h1, h2, h4, h5, h6⟩ := roundsC L N ms hm hL L [] (List.replicate ms.length 0) (by simp) (low_zero _) (by simp) (by omega) .zero
  have h0 : decide ((ms.length : Int) ≤ (lim : Int)) = true := dt (by omega)
  have e0 : ((ms.length : Int)).toNat = ms.length := rfl
  have r2 : f121 L N ⟨ms⟩ = some (pre' ++ [q']) := by
    have hrr : f81_2 L N (ms.length : Int) ms = some (pre' ++ [q']) := by
      show f81_2.b L N some (ms.length : Int) ms = _
      unfold f81_2.b f81_2.b'
      simp only [le0, h0, Bool.and_true, cond_true, e0]
      exact h2
    show f121.b' L N some ⟨ms⟩ = _
    unfold f121.b'
    simp only [hrr, Option.bind_some]
  rw [r2] at hr
  rw [← Option.some.inj hr]
  show f127.b L N some ⟨ms⟩ = _
  unfold f127.b f127.b'
  simp only [le0, h0, Bool.and_true, cond_true, e0]
  exact h1
theorem classesS (L N : Nat) (ms : List (List Move)) {pre : List (List Int)} {q : List Int} (hr : f127 L N ⟨ms⟩ = some (pre ++ [q])) (hp : pre.length ≤ 3600) : f94 L N ⟨ms⟩ = some q := by
  have hlim := lim_eq
  obtain ⟨e1, e2, e3⟩ := last_cast pre q [] (by omega)
  show f94.b' L N some ⟨ms⟩ = _
  unfold f94.b'
  simp only [hr, Option.bind_some, e1, le0, lt_cast e2, Bool.and_true, cond_true, Int.toNat_natCast, e3]
end Go.Proofs.Ytdfjdbpklbehoaa.Ev
namespace Go.Proofs.Ytdfjdbpklbehoaa.Ev
open Go
set_option linter.unusedVariables false
set_option linter.unusedSimpArgs false
def WeakOf (ms rows : List (List Move)) : Prop := rows.length = ms.length ∧ ∀ (j : Nat) (hj : j < rows.length), ∀ m, m ∈ rows[j] ↔ WkS ms j m
structure WeakFine (g : Graph) (rows : List (List Move)) : Prop where
  weak : WeakOf g.moves rows
  lead : Leads rows
  size : rows.length + gsize rows ≤ 1048576
  len : ∀ r ∈ rows, r.length ≤ 540
  ok : graphOk ⟨rows⟩ = true
theorem weak_fine {g : Graph} (hg : g.moves.length + gsize g.moves ≤ 1048576) (hok : graphOk g = true) {rows : List (List Move)} (hw : WeakOf g.moves rows) (hr : ∀ (j : Nat) (hj : j < rows.length), RisesM rows[j]) : WeakFine g rows := by
  have hm := leads_of hok hg
  have hn := hm.1
  obtain ⟨hn1, -, hmv⟩ := graphOk_mv hok
  have hl := hw.1
  have hto : ∀ (j : Nat) (hj : j < rows.length), ∀ m ∈ rows[j], -4 ≤ m.act ∧ m.act ≤ 4 ∧ 0 ≤ m.to ∧ m.to < (g.moves.length : Int) := fun j hj m hmm => by
    obtain ⟨mid, hs, q⟩ := (hw.2 j hj m).1 hmm
    have hml : mid < g.moves.length := hs.lt hm (fun t ht => by omega)
    rcases q with ⟨ha, ht⟩ | ⟨_, k, hk, t, u, ha, hact, ht, hu, hto⟩
    · omega
    · have hb := hmv mid hml k hk
      have hul : u < g.moves.length := hu.lt hm (fun x hx => by omega)
      omega
  have hrow : ∀ r ∈ rows, r.length ≤ 540 := fun r hr' => by
    obtain ⟨j, hj, rfl⟩ := List.mem_iff_getElem.1 hr'
    exact risesM_len (hr j hj) fun m hmm => by have := hto j hj m hmm; omega
  have hgs := gsize_le hrow
  refine ⟨hw, ⟨by omega, fun i hi => ⟨?_, fun k hk => ?_⟩⟩, by omega, hrow, graphOk_mk (by omega) (by omega) fun i hi => ⟨hr i hi, fun m hmm => ?_⟩⟩
  · have := hrow _ (List.getElem_mem hi); omega
  · have := hto i hi _ (List.getElem_mem hk); omega
  · have := hto i hi m hmm
    unfold mvOk
    rw [dt (by omega), dt (by omega)]; rfl
theorem weakI (L N : Nat) (ms : List (List Move)) (hm : Leads ms) (hL : 8589934592 ≤ L) : ∃ rows, f88 L N ⟨ms⟩ = some rows ∧ WeakOf ms rows ∧ ∀ (j : Nat) (hj : j < rows.length), RisesM rows[j] := by
  obtain ⟨s1, a1, a2, a3⟩ := weakOf_ok L N ms hm (by omega)
  refine ⟨_, a3, ⟨by rw [List.length_map]; omega, fun j hj m => ?_⟩, fun j hj => ?_⟩
  · have hj1 : j < s1.length := by simpa using hj
    rw [List.getElem_map, tidyM_mem]
    exact wk_mem hm a1 a2 j hj1 m
  · rw [List.getElem_map]; exact tidyM_rises _
theorem weakF (L N : Nat) (g : Graph) (hg : g.moves.length + gsize g.moves ≤ 1048576) (hok : graphOk g = true) (hL : 8589934592 ≤ L) : ∃ rows, f88 L N g = some rows ∧ WeakFine g rows := by
  have hge : Graph.mk g.moves = g := by cases g; rfl
  obtain ⟨rows, h1, h2, h3⟩ := weakI L N g.moves (leads_of hok hg) hL
  exact ⟨rows, by rw [← hge]; exact h1, weak_fine hg hok h2 h3⟩
theorem weakGraphN (L N : Nat) (g : Graph) (hg : g.moves.length + gsize g.moves ≤ 1048576) (hL : 8589934592 ≤ L) :
    ∃ rows, f47 L N g = some (rows, graphOk g) ∧ (graphOk g = true → f88 L N g = some rows ∧ WeakFine g rows) := by
  have hge : Graph.mk g.moves = g := by cases g; rfl
  have h1 := gok1_ok L N g (by omega) hg
  cases hok : graphOk g with
  | false =>
    refine ⟨[], ?_, (fun h => by cases h)⟩
    show f47.b' L N (fun a0 a1 => some (a0, a1)) g = _
    unfold f47.b'
    rw [hge, h1, Option.bind_some, hok, Bool.not_false, cond_true]
  | true =>
    obtain ⟨rows, w1, w2⟩ := weakF L N g hg hok hL
    refine ⟨rows, ?_, fun _ => ⟨w1, w2⟩⟩
    show f47.b' L N (fun a0 a1 => some (a0, a1)) g = _
    unfold f47.b'
    rw [hge, h1, Option.bind_some, hok, Bool.not_true, cond_false, w1, Option.bind_some]
theorem weakClassesC (L N : Nat) (g : Graph) (hg : g.moves.length + gsize g.moves ≤ 1048576) (hL : 8589934592 ≤ L) :
    ∃ q, f51 L N g = some q ∧ f52 L N g = some q ∧ q.length ≤ 60 ∧ (graphOk g = false → q = []) ∧
      (graphOk g = true → ∃ rows pre, f88 L N g = some rows ∧ WeakFine g rows ∧ Chain (Akin rows) rows.length pre q ∧ Fix (Akin rows) rows.length q) := by
  have hge : Graph.mk g.moves = g := by cases g; rfl
  have h1 := gok1_ok L N g (by omega) hg
  have h2 := gok2_ok L N g (by omega) hg
  cases hok : graphOk g with
  | false =>
    refine ⟨[], ?_, ?_, by simp, fun _ => rfl, (fun h => by cases h)⟩
    · show f51.b' L N some g = _
      unfold f51.b'
      rw [hge, h2, Option.bind_some, hok, Bool.not_false, cond_true]
    · show f52.b' L N some g = _
      unfold f52.b'
      rw [hge, h1, Option.bind_some, hok, Bool.not_false, cond_true]
  | true =>
    obtain ⟨rows, w1, w2⟩ := weakF L N g hg hok hL
    obtain ⟨rows', v1, v2, -, -⟩ := weak_eq L N g.moves (leads_of hok hg) hL
    have e : rows' = rows := by rw [hge, w1] at v1; exact (Option.some.inj v1).symm
    subst e
    have hl := w2.weak.1
    have hn := (leads_of hok hg).1
    obtain ⟨pre, q, c3, c5, c6, c7⟩ := chainI L N rows' w2.lead hL
    have hql := c7.1
    have c4 := classesI L N rows' c3 c5 (by omega)
    have c8 := classesS L N rows' (chainS L N rows' w2.lead hL c3) c5
    refine ⟨q, ?_, ?_, by omega, (fun h => by cases h), fun _ => ⟨rows', pre, w1, w2, c6, c7⟩⟩
    · show f51.b' L N some g = _
      unfold f51.b'
      have w2' : f87 L N g false = some ⟨rows'⟩ := by rw [← hge]; exact v2
      rw [hge, h2, Option.bind_some, hok, Bool.not_true, cond_false, w2', Option.bind_some, c8, Option.bind_some]
    · show f52.b' L N some g = _
      unfold f52.b'
      rw [hge, h1, Option.bind_some, hok, Bool.not_true, cond_false, w1, Option.bind_some, c4, Option.bind_some]
end Go.Proofs.Ytdfjdbpklbehoaa.Ev
namespace Go.Proofs.Ytdfjdbpklbehoaa.Ev
open Go
set_option linter.unusedVariables false
set_option linter.unusedSimpArgs false
theorem equalMB_ok (L N : Nat) (a b : List Move) (hL : a.length < L) (hl : a.length ≤ 1099511627776) : ∃ r, f142 L N a b = some r ∧ (r = true ↔ a = b) := by
  show ∃ r, f142.b L N some a b = some r ∧ _
  unfold f142.b f142.b'
  have eqb : ∀ x y : Move, Move.eqb x y = true ↔ x = y := fun x y => by
    constructor
    · intro h
      simp only [Move.eqb, Bool.and_eq_true, beq_iff_eq] at h
      rw [← mv_eta x, ← mv_eta y, h.1, h.2]
    · rintro rfl; simp [Move.eqb]
  by_cases he : a.length = b.length
  · have : ((a.length : Int) != (b.length : Int)) = false := by simp [he]
    rw [this, cond_false]
    have key : ∀ (n i : Nat), i ≤ a.length → a.length - i < n → (∀ j (h1 : j < a.length) (h2 : j < b.length), j < i → a[j] = b[j]) →
        ∃ r, f142.l0 L N (f142.p0_e0 L N some) (fun z4 => f142.p0_r L N some z4) n a b (a.length : Int) (i : Int) = some r ∧ (r = true ↔ a = b) := by
      intro n
      induction n with
      | zero => intro i _ h; omega
      | succ n ih =>
        intro i hi hn hs
        show ∃ r, f142.s0 L N _ _ (f142.l0 L N _ _ n) a b (a.length : Int) (i : Int) = some r ∧ _
        unfold f142.s0 f142.s0'
        by_cases hlt : i < a.length
        · have hlt' : i < b.length := by omega
          simp only [le0, lt_cast hlt, lt_cast hlt', Bool.and_true, cond_true, Int.toNat_natCast, at_lt hlt, at_lt hlt']
          cases h0 : Move.eqb a[i] b[i] with
          | true =>
            have h1 := (eqb _ _).1 h0
            rw [Bool.not_true, cond_false, wi_nat (by omega)]
            refine ih (i + 1) (by omega) (by omega) fun j h2 h3 h4 => ?_
            by_cases e : j = i
            · subst e; exact h1
            · exact hs j h2 h3 (by omega)
          | false =>
            rw [Bool.not_false, cond_true]
            refine ⟨false, rfl, ?_⟩
            simp only [Bool.false_eq_true, false_iff]
            intro e
            subst e
            rw [(eqb _ _).2 rfl] at h0; cases h0
        · simp only [ge_cast hlt, cond_false]
          refine ⟨true, rfl, ?_⟩
          simp only [true_iff]
          exact List.ext_getElem he fun j h1 h2 => hs j h1 h2 (by omega)
    exact key L 0 (by omega) (by omega) (fun _ _ _ h => by omega)
  · have : ((a.length : Int) != (b.length : Int)) = true := by simp; omega
    rw [this, cond_true]
    refine ⟨false, rfl, ?_⟩
    simp only [Bool.false_eq_true, false_iff]
    intro e
    exact he (by rw [e])
theorem refineB_ok (L N : Nat) (ms : List (List Move)) (hn60 : ms.length ≤ 60) (hL : 8589934592 ≤ L) (p : List Int) (hp : p.length = ms.length) (key : Nat → List Move) (hkl : ∀ i, (key i).length ≤ 3774873660)
    (hkey : ∀ i, i < ms.length → f118_1 L N (i : Int) ms p = some (key i)) :
    ∃ q, f117_1 L N p ms p = some q ∧ NextE (fun j i => p.getD j 0 = p.getD i 0 ∧ key j = key i) ms.length q := by
  have hlim := lim_eq
  have inner : ∀ {R : Type} (K : List Int → List (List Move) → List Int → Int → Int → List Int → List (List Move) → Option R) (i : Nat) (hi : i < ms.length) (out : List Int) (keys : List (List Move)), out.length = ms.length → keys.length = ms.length → (∀ j, j ≤ i → keys.getD j [] = key j) → ∀ (n j : Nat), j ≤ i → i - j < n → (∀ j', j' < j → ¬ (p.getD j' 0 = p.getD i 0 ∧ key j' = key i)) → out.getD i 0 = (i : Int) →
      ∃ (b : Nat) (out' : List Int), b ≤ i ∧ (p.getD b 0 = p.getD i 0 ∧ key b = key i) ∧ (∀ j', j' < b → ¬ (p.getD j' 0 = p.getD i 0 ∧ key j' = key i)) ∧ out' = out.set i (b : Int) ∧ f117_1.l1 L N K n p ms p (i : Int) (j : Int) (ms.length : Int) (i : Int) out keys = K p ms p (ms.length : Int) (i : Int) out' keys := by
    intro R K i hi out keys ho hk hks n
    induction n with
    | zero => intro j _ h; omega
    | succ n ih =>
      intro j hj hn hno hoi
      show ∃ (b : Nat) (out' : List Int), _ ∧ _ ∧ _ ∧ _ ∧ f117_1.s1 L N _ (f117_1.l1 L N _ n) p ms p (i : Int) (j : Int) (ms.length : Int) (i : Int) out keys = _
      unfold f117_1.s1 f117_1.s1'
      by_cases hlt : j < i
      · have hjp : j < p.length := by omega
        have hip : i < p.length := by omega
        have hjk : j < keys.length := by omega
        have hik : i < keys.length := by omega
        have hio : i < out.length := by omega
        simp only [lt_cast hlt, le0, lt_cast hjp, lt_cast hip, lt_cast hjk, lt_cast hik, Bool.and_true, cond_true, Int.toNat_natCast, atD, hks j (by omega), hks i (by omega)]
        have stay : ¬ (p.getD j 0 = p.getD i 0 ∧ key j = key i) → ∃ (b : Nat) (out' : List Int), b ≤ i ∧ (p.getD b 0 = p.getD i 0 ∧ key b = key i) ∧ (∀ j', j' < b → ¬ (p.getD j' 0 = p.getD i 0 ∧ key j' = key i)) ∧ out' = out.set i (b : Int) ∧ f117_1.l1 L N K n p ms p (i : Int) (wi ((j : Int) + 1)) (ms.length : Int) (i : Int) out keys = K p ms p (ms.length : Int) (i : Int) out' keys := fun hne => by
          rw [wi_nat (by omega)]
          refine ih (j + 1) (by omega) (by omega) (fun j' h => ?_) hoi
          by_cases e : j' = j
          · subst e; exact hne
          · exact hno j' (by omega)
        by_cases h1 : p.getD j 0 = p.getD i 0
        · obtain ⟨r, e1, f1⟩ := equalMB_ok L N (key j) (key i) (by have := hkl j; omega) (by have := hkl j; omega)
          rw [show (p.getD j 0 == p.getD i 0) = true by simpa using h1, cond_true, e1, Option.bind_some]
          unfold f117_1.j0'
          cases r with
          | true =>
            simp only [cond_true, le0, lt_cast hio, Bool.and_true, Int.toNat_natCast]
            exact ⟨j, _, by omega, ⟨h1, f1.1 rfl⟩, hno, rfl, rfl⟩
          | false =>
            rw [cond_false]
            exact stay fun h => absurd (f1.2 h.2) (by simp)
        · rw [show (p.getD j 0 == p.getD i 0) = false by simpa using h1, cond_false]
          unfold f117_1.j0'
          rw [cond_false]
          exact stay fun h => h1 h.1
      · have hji : j = i := by omega
        subst hji
        simp only [ge_cast (Nat.lt_irrefl _), cond_false]
        refine ⟨j, _, Nat.le_refl _, ⟨rfl, rfl⟩, hno, rfl, ?_⟩
        have hio : j < out.length := by omega
        rw [getD_lt hio] at hoi
        rw [← hoi, List.set_getElem_self]
  show ∃ q, f117_1.b L N some p ms p = some q ∧ _
  unfold f117_1.b f117_1.b'
  have h0 : decide ((ms.length : Int) ≤ (lim : Int)) = true := dt (by omega)
  have e0 : ((ms.length : Int)).toNat = ms.length := rfl
  simp only [hp, le0, h0, Bool.and_true, cond_true, e0]
  have key0 : ∀ (n i : Nat) (out : List Int) (keys : List (List Move)), out.length = ms.length → keys.length = ms.length → i ≤ ms.length → ms.length - i < n → (∀ j, j < i → keys.getD j [] = key j) → (∀ i', i' < i → ∃ j : Nat, out.getD i' 0 = (j : Int) ∧ j ≤ i' ∧ (p.getD j 0 = p.getD i' 0 ∧ key j = key i') ∧ ∀ j', j' < j → ¬ (p.getD j' 0 = p.getD i' 0 ∧ key j' = key i')) →
      ∃ q, f117_1.l0 L N (fun z7 => f117_1.p0_e0 L N some z7) n p ms p (ms.length : Int) (i : Int) out keys = some q ∧ NextE (fun j i => p.getD j 0 = p.getD i 0 ∧ key j = key i) ms.length q := by
    intro n
    induction n with
    | zero => intro i out keys _ _ _ h; omega
    | succ n ih =>
      intro i out keys ho hk hi hn hks hout
      show ∃ q, f117_1.s0 L N _ (f117_1.l0 L N _ n) p ms p (ms.length : Int) (i : Int) out keys = some q ∧ _
      unfold f117_1.s0 f117_1.s0'
      by_cases hlt : i < ms.length
      · have hio : i < out.length := by omega
        have hik : i < keys.length := by omega
        simp only [lt_cast hlt, cond_true, hkey i hlt, Option.bind_some, le0, lt_cast hio, lt_cast hik, Bool.and_true, Int.toNat_natCast]
        have hks' : ∀ j, j ≤ i → (keys.set i (key i)).getD j [] = key j := fun j hj => by
          by_cases e : j = i
          · subst e; rw [getD_lt (by simpa using hik), List.getElem_set_self]
          · rw [List.getD, List.getElem?_set_ne (by omega), ← List.getD]; exact hks j (by omega)
        obtain ⟨b, out', q1, q2, q3, q4, e⟩ := inner (fun z18 z19 z20 z21 z22 z23 z24 => f117_1.p1_e2 L N (fun z7 => f117_1.p0_e0 L N some z7) (f117_1.l0 L N (fun z7 => f117_1.p0_e0 L N some z7) n) z18 z19 z20 z21 z22 z23 z24) i hlt (out.set i (i : Int)) (keys.set i (key i)) (by simp [ho]) (by simp [hk]) hks' L 0 (by omega) (by omega) (fun j' h => by omega) (by rw [getD_lt (by simpa using hio), List.getElem_set_self])
        refine (show ∃ q, _ = some q ∧ _ from ?_)
        have e' : f117_1.l1 L N (fun z18 z19 z20 z21 z22 z23 z24 => f117_1.p1_e2 L N (fun z7 => f117_1.p0_e0 L N some z7) (f117_1.l0 L N (fun z7 => f117_1.p0_e0 L N some z7) n) z18 z19 z20 z21 z22 z23 z24) L p ms p (i : Int) (0 : Int) (ms.length : Int) (i : Int) (out.set i (i : Int)) (keys.set i (key i)) = _ := e
        rw [e']
        show ∃ q, f117_1.p1_e2' L N _ _ p ms p (ms.length : Int) (i : Int) out' (keys.set i (key i)) = some q ∧ _
        unfold f117_1.p1_e2'
        rw [wi_nat (by omega)]
        have hset : (out.set i (i : Int)).set i (b : Int) = out.set i (b : Int) := by rw [List.set_set]
        refine ih (i + 1) out' _ (by rw [q4]; simp [ho]) (by simp [hk]) (by omega) (by omega) (fun j hj => hks' j (by omega)) fun i' hi' => ?_
        rw [q4, hset]
        by_cases e : i' = i
        · subst e
          exact ⟨b, by rw [getD_lt (by simpa using hio), List.getElem_set_self], q1, q2, q3⟩
        · obtain ⟨j, r1, r2⟩ := hout i' (by omega)
          exact ⟨j, by rw [List.getD, List.getElem?_set_ne (by omega), ← List.getD]; exact r1, r2⟩
      · simp only [ge_cast hlt, cond_false]
        have hi' : i = ms.length := by omega
        subst hi'
        refine ⟨out, rfl, ho, fun i hi => ?_⟩
        obtain ⟨j, r1, r2⟩ := hout i (by omega)
        rw [getD_lt hi] at r1
        exact ⟨j, r1, r2⟩
  exact key0 L 0 (List.replicate ms.length (0 : Int)) (List.replicate ms.length ([] : List Move)) List.length_replicate List.length_replicate (by omega) (by omega) (fun j h => by omega) (fun i' h => by omega)
end Go.Proofs.Ytdfjdbpklbehoaa.Ev
namespace Go.Proofs.Ytdfjdbpklbehoaa.Ev
open Go
set_option linter.unusedVariables false
set_option linter.unusedSimpArgs false
def bStep (p : List Int) (s : Nat) (st : List Int × List Move) (m : Move) : List Int × List Move :=
  if m.act = 0 ∧ p.getD m.to.toNat 0 = p.getD s 0 then (if m.to ∈ st.1 then st else (st.1 ++ [m.to], st.2)) else (st.1, st.2 ++ [Move.mk m.act (p.getD m.to.toNat 0)])
def bRow (p : List Int) (s : Nat) (row : List Move) (st : List Int × List Move) : List Int × List Move := row.foldl (bStep p s) st
def bLoop (ms : List (List Move)) (p : List Int) (s : Nat) : Nat → Nat → List Int × List Move → List Move
  | 0, _, st => st.2
  | n + 1, k, st => if k < st.1.length then bLoop ms p s n (k + 1) (bRow p s (ms.getD (st.1.getD k 0).toNat []) st) else st.2
def bOut (ms : List (List Move)) (p : List Int) (s : Nat) : List Move := bLoop ms p s 62 0 ([(s : Int)], [])
theorem bRow_cons (p : List Int) (s : Nat) (row : List Move) (k : Nat) (hk : k < row.length) (st : List Int × List Move) : bRow p s (row.drop k) st = bRow p s (row.drop (k + 1)) (bStep p s st row[k]) := by
  unfold bRow; rw [List.drop_eq_getElem_cons hk, List.foldl_cons]
theorem bRow_nil (p : List Int) (s : Nat) (row : List Move) (k : Nat) (hk : ¬ k < row.length) (st : List Int × List Move) : bRow p s (row.drop k) st = st := by
  unfold bRow; rw [List.drop_eq_nil_of_le (by omega), List.foldl_nil]
theorem qok_mem {ms : List (List Move)} {seen : List Bool} {q : List Int} (h : QOk ms seen q) {t : Nat} (ht : t < ms.length) : seen.getD t false = decide ((t : Int) ∈ q) := by
  rw [Bool.eq_iff_iff, decide_eq_true_iff]
  constructor
  · intro hT; exact h.2.2.1 t hT
  · intro hq
    obtain ⟨t', h1, h2⟩ := h.2.1 _ hq
    obtain rfl : t = t' := by omega
    exact h2
theorem mapI_put (x y : Int) (b : Bool) : ∀ mp : List (Int × Bool), (mapFind i64 .bool y (mapPut i64 .bool x b mp) : Option Bool) = if y = x then some b else (mapFind i64 .bool y mp : Option Bool)
  | [] => by
    show (bif (y == x) then some b else none) = _
    by_cases h : y = x
    · rw [if_pos h, show (y == x) = true by simpa using h, cond_true]
    · rw [if_neg h, show (y == x) = false by simpa using h, cond_false]; rfl
  | e :: r => by
    show mapFind i64 .bool y (bif (x == e.1) then (x, b) :: r else e :: mapPut i64 .bool x b r) = if y = x then some b else (bif (y == e.1) then some e.2 else mapFind i64 .bool y r)
    by_cases h1 : x = e.1
    · rw [show (x == e.1) = true by simpa using h1, cond_true]
      show (bif (y == x) then some b else mapFind i64 .bool y r) = _
      by_cases h : y = x
      · rw [if_pos h, show (y == x) = true by simpa using h, cond_true]
      · rw [if_neg h, show (y == x) = false by simpa using h, cond_false, show (y == e.1) = false by rw [← h1]; simpa using h, cond_false]
    · rw [show (x == e.1) = false by simpa using h1, cond_false]
      show (bif (y == e.1) then some e.2 else mapFind i64 .bool y (mapPut i64 .bool x b r)) = _
      rw [mapI_put x y b r]
      by_cases h : y = x
      · subst h
        rw [if_pos rfl, if_pos rfl, show (y == e.1) = false by simpa using h1, cond_false]
      · rw [if_neg h, if_neg h]
def MapOk (ms : List (List Move)) (mp : List (Int × Bool)) (q : List Int) : Prop := (∃ seen, QOk ms seen q) ∧ ∀ t : Nat, t < ms.length → ((mapFind i64 .bool (t : Int) mp : Option Bool).getD false) = decide ((t : Int) ∈ q)
theorem MapOk.add {ms : List (List Move)} {mp : List (Int × Bool)} {q : List Int} (h : MapOk ms mp q) {t : Nat} (ht : t < ms.length) (hf : (t : Int) ∉ q) : MapOk ms (mapPut i64 .bool (t : Int) true mp) (q ++ [(t : Int)]) := by
  obtain ⟨⟨seen, hq⟩, h2⟩ := h
  refine ⟨⟨seen.set t true, hq.add ht (by rw [qok_mem hq ht]; exact df hf)⟩, fun u hu => ?_⟩
  rw [mapI_put]
  by_cases e : (u : Int) = (t : Int)
  · rw [if_pos e, Option.getD_some]
    exact (dt (List.mem_append_right _ (List.mem_singleton.2 e))).symm
  · rw [if_neg e, h2 u hu]
    rw [Bool.eq_iff_iff, decide_eq_true_iff, decide_eq_true_iff, List.mem_append, List.mem_singleton]
    exact ⟨.inl, fun h => h.elim id fun h => absurd h e⟩
theorem bimpl1 {R : Type} (L N : Nat) (K : List Int → Int → Int → List (List Move) → List Move → List (Int × Bool) → List Int → Option R) (ms : List (List Move)) (hm : Leads ms) (p : List Int) (hp : p.length = ms.length) (s : Nat) (hs : s < ms.length) (k : Int) (v : Nat) (hv : v < ms.length) :
    ∀ (n i : Nat) (q : List Int) (mp : List (Int × Bool)) (out : List Move), i ≤ (ms[v]).length → (ms[v]).length - i < n → MapOk ms mp q → out.length + ((ms[v]).length - i) ≤ 62914560 →
      ∃ mp', MapOk ms mp' (bRow p s ((ms[v]).drop i) (q, out)).1 ∧ (bRow p s ((ms[v]).drop i) (q, out)).2.length ≤ out.length + ((ms[v]).length - i) ∧ q.length ≤ (bRow p s ((ms[v]).drop i) (q, out)).1.length ∧
        f83.l1 L N K n p (s : Int) k ms[v] ((ms[v]).length : Int) (i : Int) ms out mp q = K p (s : Int) k ms (bRow p s ((ms[v]).drop i) (q, out)).2 mp' (bRow p s ((ms[v]).drop i) (q, out)).1 := by
  have hlim := lim_eq
  have hn60 := hm.1
  have hrow := (hm.2 v hv).1
  intro n
  induction n with
  | zero => intro i q mp out _ h; omega
  | succ n ih =>
    intro i q mp out hi hn hq ho
    show ∃ mp', _ ∧ _ ∧ _ ∧ f83.s1 L N _ (f83.l1 L N _ n) p (s : Int) k ms[v] ((ms[v]).length : Int) (i : Int) ms out mp q = _
    unfold f83.s1 f83.s1'
    by_cases hlt : i < (ms[v]).length
    · obtain ⟨t, ht, htl⟩ := hm.nat hv hlt
      rw [bRow_cons p s ms[v] i hlt]
      generalize hmv : (ms[v])[i] = m at ht
      have htp : t < p.length := by omega
      have hsp : s < p.length := by omega
      have hql : q.length ≤ ms.length := by obtain ⟨⟨seen, h⟩, -⟩ := hq; exact h.len
      have hst : m.to.toNat = t := by rw [ht, Int.toNat_natCast]
      simp only [lt_cast hlt, le0, Bool.and_true, Bool.true_and, cond_true, Int.toNat_natCast, at_lt hlt, hmv, ht, lt_cast htp, lt_cast hsp, atD]
      have hw : wi ((i : Int) + 1) = ((i + 1 : Nat) : Int) := wi_nat (by omega)
      have hle : decide (out.length + ([(Move.mk m.act (p.getD t 0))] : (List Move)).length ≤ lim) = true := dt (by simp only [List.length_cons, List.length_nil]; omega)
      have lay : ¬ (m.act = 0 ∧ p.getD t 0 = p.getD s 0) → ∃ mp', MapOk ms mp' (bRow p s ((ms[v]).drop (i + 1)) (bStep p s (q, out) m)).1 ∧ (bRow p s ((ms[v]).drop (i + 1)) (bStep p s (q, out) m)).2.length ≤ out.length + ((ms[v]).length - i) ∧ q.length ≤ (bRow p s ((ms[v]).drop (i + 1)) (bStep p s (q, out) m)).1.length ∧
          f83.j0' L N K (f83.l1 L N K n) p (s : Int) k ms[v] ((ms[v]).length : Int) (i : Int) true ms m.act (t : Int) out mp q = K p (s : Int) k ms (bRow p s ((ms[v]).drop (i + 1)) (bStep p s (q, out) m)).2 mp' (bRow p s ((ms[v]).drop (i + 1)) (bStep p s (q, out) m)).1 := fun hno => by
        have he : bStep p s (q, out) m = (q, out ++ [Move.mk m.act (p.getD t 0)]) := by unfold bStep; rw [hst, if_neg hno]
        rw [he]
        unfold f83.j0'
        simp only [cond_true, le0, lt_cast htp, Bool.and_true, Int.toNat_natCast, atD, hle, hw]
        obtain ⟨mp', a1, a2, a3, a4⟩ := ih (i + 1) q mp (out ++ [Move.mk m.act (p.getD t 0)]) (by omega) (by omega) hq (by simp only [List.length_append, List.length_cons, List.length_nil]; omega)
        refine ⟨mp', a1, ?_, a3, a4⟩
        simp only [List.length_append, List.length_cons, List.length_nil] at a2
        omega
      by_cases ha : m.act = 0
      · rw [show (m.act != 0) = false by simpa using ha, cond_false]
        by_cases hc : p.getD t 0 = p.getD s 0
        · rw [show (p.getD t 0 != p.getD s 0) = false by simpa using hc]
          unfold f83.j0'
          have hmf : ((mapFind i64 .bool (t : Int) mp : Option Bool).getD (Ty.dflt .bool)) = decide ((t : Int) ∈ q) := hq.2 t htl
          rw [cond_false]
          by_cases hmem : (t : Int) ∈ q
          · have he : bStep p s (q, out) m = (q, out) := by unfold bStep; rw [hst, if_pos ⟨ha, hc⟩, ht, if_pos hmem]
            rw [dt hmem] at hmf
            have hmf' : (!((mapFind i64 .bool (t : Int) mp).getD (Ty.dflt .bool) : Bool)) = false := by
              show (!((mapFind i64 .bool (t : Int) mp : Option Bool).getD (Ty.dflt .bool))) = false
              rw [hmf]; rfl
            rw [he, hmf', cond_false, hw]
            obtain ⟨mp', a1, a2, a3, a4⟩ := ih (i + 1) q mp out (by omega) (by omega) hq (by omega)
            exact ⟨mp', a1, by omega, a3, a4⟩
          · have he : bStep p s (q, out) m = (q ++ [(t : Int)], out) := by unfold bStep; rw [hst, if_pos ⟨ha, hc⟩, ht, if_neg hmem]
            have hle2 : decide (q.length + ([(t : Int)] : (List Int)).length ≤ lim) = true := dt (by simp only [List.length_cons, List.length_nil]; omega)
            rw [df hmem] at hmf
            have hmf' : (!((mapFind i64 .bool (t : Int) mp).getD (Ty.dflt .bool) : Bool)) = true := by
              show (!((mapFind i64 .bool (t : Int) mp : Option Bool).getD (Ty.dflt .bool))) = true
              rw [hmf]; rfl
            rw [he, hmf', cond_true, hle2, cond_true, hw]
            obtain ⟨mp', a1, a2, a3, a4⟩ := ih (i + 1) (q ++ [(t : Int)]) (mapPut i64 .bool (t : Int) true mp) out (by omega) (by omega) (hq.add htl hmem) (by omega)
            refine ⟨mp', a1, by omega, ?_, a4⟩
            simp only [List.length_append, List.length_cons, List.length_nil] at a3
            omega
        · rw [show (p.getD t 0 != p.getD s 0) = true by simpa using hc]
          exact lay fun h => hc h.2
      · rw [show (m.act != 0) = true by simpa using ha, cond_true]
        exact lay fun h => ha h.1
    · rw [bRow_nil p s ms[v] i hlt]
      simp only [ge_cast hlt, cond_false]
      exact ⟨mp, hq, by simp, Nat.le_refl _, rfl⟩
theorem branchMark_ok (L N : Nat) (ms : List (List Move)) (hm : Leads ms) (hL : 8589934592 ≤ L) (p : List Int) (hp : p.length = ms.length) (s : Nat) (hs : s < ms.length) :
    f83 L N ⟨ms⟩ p (s : Int) = some (tidyM (bOut ms p s)) := by
  have hlim := lim_eq
  have hn60 := hm.1
  show f83.b L N some ⟨ms⟩ p (s : Int) = _
  unfold f83.b f83.b'
  have key : ∀ (m n k : Nat) (q : List Int) (mp : List (Int × Bool)) (out : List Move), k ≤ q.length → ms.length + 1 - k < m → ms.length + 1 - k < n → MapOk ms mp q → out.length ≤ k * 1048576 →
      f83.l0 L N (fun z7 => f83.p0_e0 L N some z7) n p (s : Int) (k : Int) ms out mp q = some (tidyM (bLoop ms p s m k (q, out))) := by
    intro m
    induction m with
    | zero => intro n k q mp out _ h; omega
    | succ m ih =>
      intro n k q mp out hk hmk hnk hq ho
      obtain ⟨⟨seen, hqs⟩, -⟩ := id hq
      have hql := hqs.len
      obtain ⟨n, rfl⟩ : ∃ n', n = n' + 1 := ⟨n - 1, by omega⟩
      show f83.s0 L N _ (f83.l0 L N _ n) p (s : Int) (k : Int) ms out mp q = _
      unfold f83.s0 f83.s0'
      by_cases hlt : k < q.length
      · obtain ⟨v, hvq, hTv⟩ := hqs.2.1 _ (List.getElem_mem hlt)
        have hvn : v < ms.length := by have := Tr_lt hTv; rw [hqs.1] at this; exact this
        have hrow := (hm.2 v hvn).1
        simp only [lt_cast hlt, le0, Bool.and_true, cond_true, Int.toNat_natCast, at_lt hlt, hvq, lt_cast hvn, at_lt hvn]
        obtain ⟨mp', a1, a2, a3, a4⟩ := bimpl1 L N (fun z18 z19 z20 z21 z22 z23 z24 => f83.p1_e2 L N (fun z7 => f83.p0_e0 L N some z7) (f83.l0 L N (fun z7 => f83.p0_e0 L N some z7) n) z18 z19 z20 z21 z22 z23 z24) ms hm p hp s hs (k : Int) v hvn L 0 q mp out (by omega) (by omega) hq (by omega)
        rw [List.drop_zero] at a1 a2 a3 a4
        refine (show _ = _ from a4).trans ?_
        show f83.l0 L N _ n p (s : Int) (wi ((k : Int) + 1)) ms (bRow p s ms[v] (q, out)).2 mp' (bRow p s ms[v] (q, out)).1 = _
        have hb : bLoop ms p s (m + 1) k (q, out) = bLoop ms p s m (k + 1) (bRow p s ms[v] (q, out)) := by
          show (if k < q.length then _ else _) = _
          rw [if_pos hlt]
          show bLoop ms p s m (k + 1) (bRow p s (ms.getD (q.getD k 0).toNat []) (q, out)) = _
          rw [getD_lt hlt, hvq, Int.toNat_natCast, getD_lt hvn]
        rw [hb, wi_nat (by omega)]
        exact ih n (k + 1) _ mp' _ (by omega) (by omega) (by omega) a1 (by omega)
      · simp only [ge_cast hlt, cond_false]
        have hb : bLoop ms p s (m + 1) k (q, out) = out := by
          show (if k < q.length then _ else _) = _
          rw [if_neg hlt]
        rw [hb]
        show f83.p0_e0' L N some out = _
        unfold f83.p0_e0'
        rw [fsortM_some (by omega), Option.bind_some]
  have hM : MapOk ms (mapPut i64 .bool (s : Int) true ([] : List (Int × Bool))) [(s : Int)] := by
    have h : QOk ms (List.replicate ms.length false) [] := ⟨by simp, fun v hv => by simp at hv, fun t h => absurd h (Tr_replicate _ t), by rw [cnt_replicate]; rfl, List.nodup_nil⟩
    have h2 : MapOk ms [] [] := ⟨⟨_, h⟩, fun t _ => rfl⟩
    exact h2.add hs (by simp)
  exact key 62 L 0 _ _ [] (by simp) (by omega) (by omega) hM (by simp)
end Go.Proofs.Ytdfjdbpklbehoaa.Ev
namespace Go.Proofs.Ytdfjdbpklbehoaa.Ev
open Go
set_option linter.unusedVariables false
set_option linter.unusedSimpArgs false
theorem bRow_len (p : List Int) (s : Nat) : ∀ (row : List Move) (st : List Int × List Move), (bRow p s row st).2.length ≤ st.2.length + row.length
  | [], st => by simp [bRow]
  | m :: row, st => by
    have e : bRow p s (m :: row) st = bRow p s row (bStep p s st m) := by unfold bRow; rw [List.foldl_cons]
    rw [e]
    have h1 := bRow_len p s row (bStep p s st m)
    have h2 : (bStep p s st m).2.length ≤ st.2.length + 1 := by
      unfold bStep
      split
      · split <;> simp
      · simp
    simp only [List.length_cons]
    omega
theorem bLoop_len {ms : List (List Move)} {B : Nat} (hB : ∀ i, (ms.getD i []).length ≤ B) (p : List Int) (s : Nat) : ∀ (n k : Nat) (st : List Int × List Move), (bLoop ms p s n k st).length ≤ st.2.length + n * B
  | 0, k, st => by simp [bLoop]
  | n + 1, k, st => by
    unfold bLoop
    split
    · have h1 := bLoop_len hB p s n (k + 1) (bRow p s (ms.getD (st.1.getD k 0).toNat []) st)
      have h2 := bRow_len p s (ms.getD (st.1.getD k 0).toNat []) st
      have h3 := hB (st.1.getD k 0).toNat
      rw [Nat.succ_mul]
      omega
    · omega
theorem bOut_len {ms : List (List Move)} (hm : Leads ms) (p : List Int) (s : Nat) : (bOut ms p s).length ≤ 65011712 := by
  have h0 : ∀ i, (ms.getD i []).length ≤ 1048576 := fun i => by
    by_cases h : i < ms.length
    · rw [getD_lt h]; exact (hm.2 _ h).1
    · rw [List.getD, List.getElem?_eq_none (by omega)]; simp
  have h1 := bLoop_len h0 p s 62 0 ([(s : Int)], [])
  exact Nat.le_trans h1 (show 0 + 62 * 1048576 ≤ 65011712 from Nat.le_of_ble_eq_true rfl)
def BAkin (ms : List (List Move)) (p : List Int) (j i : Nat) : Prop := p.getD j 0 = p.getD i 0 ∧ tidyM (bOut ms p j) = tidyM (bOut ms p i)
theorem keyB_ok (L N : Nat) (ms : List (List Move)) (hm : Leads ms) (hL : 8589934592 ≤ L) (p : List Int) (hp : p.length = ms.length) (i : Nat) (hi : i < ms.length) : f118_1 L N (i : Int) ms p = some (tidyM (bOut ms p i)) := by
  have h := branchMark_ok L N ms hm hL p hp i hi
  have h1 : f82_1 L N p (i : Int) ms = some (tidyM (bOut ms p i)) := by
    show f82_1.b' L N some p (i : Int) ms = _
    unfold f82_1.b'
    rw [h, Option.bind_some]
  show f118_1.b' L N some (i : Int) ms p = _
  unfold f118_1.b'
  rw [h1, Option.bind_some]
theorem refineBAkin (L N : Nat) (ms : List (List Move)) (hm : Leads ms) (hL : 8589934592 ≤ L) (p : List Int) (hp : p.length = ms.length) :
    ∃ q, f117_1 L N p ms p = some q ∧ NextE (BAkin ms p) ms.length q := by
  have hn60 := hm.1
  obtain ⟨q, h1, h2⟩ := refineB_ok L N ms hm.1 hL p hp (fun i => if i < ms.length then tidyM (bOut ms p i) else []) (fun i => by
    by_cases h : i < ms.length
    · simp only [h, if_true]
      have h5 := bOut_len hm p i
      have := tidyM_le (bOut ms p i)
      omega
    · simp only [h, if_false]; simp) (fun i hi => by simp only [hi, if_true]; exact keyB_ok L N ms hm hL p hp i hi)
  refine ⟨q, h1, h2.congr fun i j hj hi => ?_⟩
  have hj' : j < ms.length := by omega
  simp only [hi, hj', if_true]
  exact Iff.rfl
theorem last_castB {α : Type} (pre : List α) (p d : α) (h : pre.length ≤ 1048576) : wi (((pre ++ [p]).length : Int) - 1) = (pre.length : Int) ∧ pre.length < (pre ++ [p]).length ∧ listAt (pre ++ [p]) d pre.length = p := by
  refine ⟨?_, by simp, ?_⟩
  · rw [List.length_append, List.length_cons, List.length_nil, wi_id (by omega) (by omega)]; omega
  · rw [at_lt (by simp)]; simp
end Go.Proofs.Ytdfjdbpklbehoaa.Ev
namespace Go.Proofs.Ytdfjdbpklbehoaa.Ev
open Go
set_option linter.unusedVariables false
set_option linter.unusedSimpArgs false
theorem nodup_len : ∀ (n : Nat) (l : List Int), l.Nodup → (∀ v ∈ l, 0 ≤ v ∧ v < (n : Int)) → l.length ≤ n
  | 0, l, _, h => by
    cases l with
    | nil => simp
    | cons a t => have := h a (.head _); omega
  | n + 1, l, hn, h => by
    by_cases hm : (n : Int) ∈ l
    · have h1 := nodup_len n (l.erase (n : Int)) (hn.erase _) fun v hv => by
        obtain ⟨h2, h3⟩ := (hn.mem_erase_iff).1 hv
        have := h v h3; omega
      rw [List.length_erase_of_mem hm] at h1
      omega
    · have h1 := nodup_len n l hn fun v hv => by
        have h2 := h v hv
        have h3 : v ≠ (n : Int) := fun e => hm (e ▸ hv)
        omega
      omega
def inB (p : List Int) (s : Nat) (m : Move) : Prop := m.act = 0 ∧ p.getD m.to.toNat 0 = p.getD s 0
inductive Inert (ms : List (List Move)) (p : List Int) (s : Nat) : Nat → Prop
  | base : Inert ms p s s
  | step (u t : Nat) (h : Inert ms p s u) (hu : u < ms.length) (k : Nat) (hk : k < (ms[u]).length) (hi : inB p s (ms[u])[k]) (ht : (ms[u])[k].to = (t : Int)) : Inert ms p s t
theorem Inert.lt {ms : List (List Move)} (hm : Leads ms) {p : List Int} {s u : Nat} (hs : s < ms.length) (h : Inert ms p s u) : u < ms.length := by
  induction h with
  | base => exact hs
  | step u t _ hu k hk _ ht _ => have := (hm.2 u hu).2 k hk; omega
def Marked (ms : List (List Move)) (p : List Int) (s : Nat) (x : Move) : Prop := ∃ u, Inert ms p s u ∧ ∃ (hu : u < ms.length) (k : Nat) (hk : k < (ms[u]).length), ¬ inB p s (ms[u])[k] ∧ x = Move.mk (ms[u])[k].act (p.getD (ms[u])[k].to.toNat 0)
theorem bStep_in {p : List Int} {s : Nat} {st : List Int × List Move} {m : Move} (h : inB p s m) : bStep p s st m = if m.to ∈ st.1 then st else (st.1 ++ [m.to], st.2) := by
  unfold bStep; exact if_pos h
theorem bStep_out {p : List Int} {s : Nat} {st : List Int × List Move} {m : Move} (h : ¬ inB p s m) : bStep p s st m = (st.1, st.2 ++ [Move.mk m.act (p.getD m.to.toNat 0)]) := by
  unfold bStep; exact if_neg h
theorem bRow_spec (p : List Int) (s : Nat) : ∀ (row : List Move) (st : List Int × List Move),
    (∀ v, v ∈ (bRow p s row st).1 ↔ v ∈ st.1 ∨ ∃ m ∈ row, inB p s m ∧ v = m.to) ∧
    (∀ x, x ∈ (bRow p s row st).2 ↔ x ∈ st.2 ∨ ∃ m ∈ row, ¬ inB p s m ∧ x = Move.mk m.act (p.getD m.to.toNat 0)) ∧
    (∃ t, (bRow p s row st).1 = st.1 ++ t) ∧ (st.1.Nodup → (bRow p s row st).1.Nodup)
  | [], st => ⟨fun v => by simp [bRow], fun x => by simp [bRow], ⟨[], by simp [bRow]⟩, fun h => h⟩
  | m :: row, st => by
    have e : bRow p s (m :: row) st = bRow p s row (bStep p s st m) := by unfold bRow; rw [List.foldl_cons]
    obtain ⟨h1, h2, ⟨t, h3⟩, h4⟩ := bRow_spec p s row (bStep p s st m)
    rw [e]
    by_cases hi : inB p s m
    · rw [bStep_in hi] at h1 h2 h3 h4 ⊢
      by_cases hq : m.to ∈ st.1
      · rw [if_pos hq] at h1 h2 h3 h4 ⊢
        refine ⟨fun v => ?_, fun x => ?_, ⟨t, h3⟩, h4⟩
        · rw [h1]
          constructor
          · rintro (h | ⟨m', hm', h⟩)
            · exact .inl h
            · exact .inr ⟨m', .tail _ hm', h⟩
          · rintro (h | ⟨m', hm', h, h'⟩)
            · exact .inl h
            · rcases List.mem_cons.1 hm' with rfl | hm'
              · exact .inl (h' ▸ hq)
              · exact .inr ⟨m', hm', h, h'⟩
        · rw [h2]
          constructor
          · rintro (h | ⟨m', hm', h⟩)
            · exact .inl h
            · exact .inr ⟨m', .tail _ hm', h⟩
          · rintro (h | ⟨m', hm', h, h'⟩)
            · exact .inl h
            · rcases List.mem_cons.1 hm' with rfl | hm'
              · exact absurd hi h
              · exact .inr ⟨m', hm', h, h'⟩
      · rw [if_neg hq] at h1 h2 h3 h4 ⊢
        refine ⟨fun v => ?_, fun x => ?_, ⟨[m.to] ++ t, by rw [h3, List.append_assoc]⟩, fun hn => h4 ?_⟩
        · rw [h1]
          constructor
          · rintro (h | ⟨m', hm', h⟩)
            · rcases List.mem_append.1 h with h | h
              · exact .inl h
              · exact .inr ⟨m, .head _, hi, List.mem_singleton.1 h⟩
            · exact .inr ⟨m', .tail _ hm', h⟩
          · rintro (h | ⟨m', hm', h, h'⟩)
            · exact .inl (List.mem_append.2 (.inl h))
            · rcases List.mem_cons.1 hm' with rfl | hm'
              · exact .inl (List.mem_append.2 (.inr (h' ▸ .head _)))
              · exact .inr ⟨m', hm', h, h'⟩
        · rw [h2]
          constructor
          · rintro (h | ⟨m', hm', h⟩)
            · exact .inl h
            · exact .inr ⟨m', .tail _ hm', h⟩
          · rintro (h | ⟨m', hm', h, h'⟩)
            · exact .inl h
            · rcases List.mem_cons.1 hm' with rfl | hm'
              · exact absurd hi h
              · exact .inr ⟨m', hm', h, h'⟩
        · show (st.1 ++ [m.to]).Nodup
          rw [List.nodup_append]
          refine ⟨hn, by simp, fun a ha b hb => ?_⟩
          rw [List.mem_singleton.1 hb]
          exact fun e => hq (e ▸ ha)
    · rw [bStep_out hi] at h1 h2 h3 h4 ⊢
      refine ⟨fun v => ?_, fun x => ?_, ⟨t, h3⟩, h4⟩
      · rw [h1]
        constructor
        · rintro (h | ⟨m', hm', h⟩)
          · exact .inl h
          · exact .inr ⟨m', .tail _ hm', h⟩
        · rintro (h | ⟨m', hm', h, h'⟩)
          · exact .inl h
          · rcases List.mem_cons.1 hm' with rfl | hm'
            · exact absurd h hi
            · exact .inr ⟨m', hm', h, h'⟩
      · rw [h2]
        constructor
        · rintro (h | ⟨m', hm', h⟩)
          · rcases List.mem_append.1 h with h | h
            · exact .inl h
            · exact .inr ⟨m, .head _, hi, List.mem_singleton.1 h⟩
          · exact .inr ⟨m', .tail _ hm', h⟩
        · rintro (h | ⟨m', hm', h, h'⟩)
          · exact .inl (List.mem_append.2 (.inl h))
          · rcases List.mem_cons.1 hm' with rfl | hm'
            · exact .inl (List.mem_append.2 (.inr (h' ▸ .head _)))
            · exact .inr ⟨m', hm', h, h'⟩
structure BInv (ms : List (List Move)) (p : List Int) (s k : Nat) (st : List Int × List Move) : Prop where
  nd : st.1.Nodup
  ok : ∀ v ∈ st.1, ∃ u : Nat, v = (u : Int) ∧ Inert ms p s u
  own : (s : Int) ∈ st.1
  le : k ≤ st.1.length
  done : ∀ i, i < k → ∀ m ∈ ms.getD (st.1.getD i 0).toNat [], (inB p s m → m.to ∈ st.1) ∧ (¬ inB p s m → Move.mk m.act (p.getD m.to.toNat 0) ∈ st.2)
  out : ∀ x ∈ st.2, Marked ms p s x
theorem bLoop_spec {ms : List (List Move)} (hm : Leads ms) {p : List Int} {s : Nat} (hs : s < ms.length) : ∀ (n k : Nat) (st : List Int × List Move), BInv ms p s k st → ms.length + 1 ≤ n + k → ∀ x, x ∈ bLoop ms p s n k st ↔ Marked ms p s x := by
  intro n
  induction n with
  | zero =>
    intro k st h hn
    have h1 := nodup_len ms.length st.1 h.nd fun v hv => by
      obtain ⟨u, rfl, hu⟩ := h.ok v hv
      have := hu.lt hm hs; omega
    have := h.le
    omega
  | succ n ih =>
    intro k st h hn x
    unfold bLoop
    by_cases hk : k < st.1.length
    · rw [if_pos hk]
      obtain ⟨u, e, hu⟩ := h.ok _ (List.getElem_mem hk)
      have hul := hu.lt hm hs
      have eg : st.1.getD k 0 = (u : Int) := by rw [getD_lt hk, e]
      have er : ms.getD (st.1.getD k 0).toNat [] = ms[u] := by rw [eg, Int.toNat_natCast, getD_lt hul]
      rw [er]
      obtain ⟨h1, h2, ⟨t, h3⟩, h4⟩ := bRow_spec p s ms[u] st
      have hpre : ∀ i, i < st.1.length → (bRow p s ms[u] st).1.getD i 0 = st.1.getD i 0 := fun i hi => by
        rw [h3, List.getD_eq_getElem?_getD, List.getD_eq_getElem?_getD, List.getElem?_append_left hi]
      refine ih (k + 1) _ ⟨h4 h.nd, fun v hv => ?_, (h1 _).2 (.inl h.own), by rw [h3, List.length_append]; omega, fun i hi => ?_, fun x hx => ?_⟩ (by omega) x
      · rcases (h1 v).1 hv with hv | ⟨m, hm', hi, rfl⟩
        · exact h.ok v hv
        · obtain ⟨j, hj, rfl⟩ := List.mem_iff_getElem.1 hm'
          obtain ⟨t', ht, htl⟩ := hm.nat hul hj
          exact ⟨t', ht, .step u t' hu hul j hj hi ht⟩
      · rw [hpre i (by omega)]
        by_cases hlt : i < k
        · intro m hm'
          obtain ⟨d1, d2⟩ := h.done i hlt m hm'
          exact ⟨fun hi => (h1 _).2 (.inl (d1 hi)), fun hi => (h2 _).2 (.inl (d2 hi))⟩
        · obtain rfl : i = k := by omega
          rw [er]
          intro m hm'
          exact ⟨fun hi => (h1 _).2 (.inr ⟨m, hm', hi, rfl⟩), fun hi => (h2 _).2 (.inr ⟨m, hm', hi, rfl⟩)⟩
      · rcases (h2 x).1 hx with hx | ⟨m, hm', hi, rfl⟩
        · exact h.out x hx
        · obtain ⟨j, hj, rfl⟩ := List.mem_iff_getElem.1 hm'
          exact ⟨u, hu, hul, j, hj, hi, rfl⟩
    · rw [if_neg hk]
      have all : ∀ u, Inert ms p s u → (u : Int) ∈ st.1 := fun u hu => by
        induction hu with
        | base => exact h.own
        | step u t _ hul j hj hi ht ihu =>
          obtain ⟨i, hi', e⟩ := List.mem_iff_getElem.1 ihu
          have := (h.done i (by omega) ((ms[u])[j]) (by rw [getD_lt hi', e, Int.toNat_natCast, getD_lt hul]; exact List.getElem_mem hj)).1 hi
          rw [ht] at this
          exact this
      refine ⟨h.out x, ?_⟩
      rintro ⟨u, hu, hul, j, hj, hi, rfl⟩
      obtain ⟨i, hi', e⟩ := List.mem_iff_getElem.1 (all u hu)
      exact (h.done i (by omega) ((ms[u])[j]) (by rw [getD_lt hi', e, Int.toNat_natCast, getD_lt hul]; exact List.getElem_mem hj)).2 hi
theorem bOut_mem {ms : List (List Move)} (hm : Leads ms) (p : List Int) {s : Nat} (hs : s < ms.length) (x : Move) : x ∈ bOut ms p s ↔ Marked ms p s x := by
  have hn := hm.1
  refine bLoop_spec hm hs 62 0 ([(s : Int)], []) ⟨by simp, fun v hv => ⟨s, List.mem_singleton.1 hv, .base⟩, .head _, by simp, fun i hi => by omega, fun x hx => by cases hx⟩ (by omega) x
theorem bakin_iff {ms : List (List Move)} (hm : Leads ms) (p : List Int) {i j : Nat} (hi : i < ms.length) (hj : j < ms.length) : BAkin ms p j i ↔ p.getD j 0 = p.getD i 0 ∧ ∀ x, Marked ms p j x ↔ Marked ms p i x := by
  unfold BAkin
  refine and_congr Iff.rfl ⟨fun h x => ?_, fun h => ?_⟩
  · rw [← bOut_mem hm p hj, ← bOut_mem hm p hi, ← tidyM_mem (bOut ms p j), ← tidyM_mem (bOut ms p i), h]
  · exact risesM_ext (tidyM_rises _) (tidyM_rises _) fun x => by rw [tidyM_mem, tidyM_mem, bOut_mem hm p hj, bOut_mem hm p hi, h x]
theorem bakinEq (ms : List (List Move)) : EqE (BAkin ms) where
  refl p i := ⟨rfl, rfl⟩
  symm p i j h := ⟨h.1.symm, h.2.symm⟩
  trans p i j k h1 h2 := ⟨h1.1.trans h2.1, h1.2.trans h2.2⟩
  fine p i j h := h.1
end Go.Proofs.Ytdfjdbpklbehoaa.Ev
namespace Go.Proofs.Ytdfjdbpklbehoaa.Ev
open Go
set_option linter.unusedVariables false
set_option linter.unusedSimpArgs false
theorem roundsBI (L N : Nat) (ms : List (List Move)) (hm : Leads ms) (hL : 8589934592 ≤ L) : ∀ (n : Nat) (pre : List (List Int)) (p : List Int), p.length = ms.length → Low p → pre.length ≤ wgt p → 3600 - wgt p < n → Chain (BAkin ms) ms.length pre p →
    ∃ pre' q, f81_1.l0 L N (fun z4 => f81_1.p0_r L N some z4) n ms (pre ++ [p]) = some (pre' ++ [q]) ∧ pre'.length ≤ 3600 ∧ Chain (BAkin ms) ms.length pre' q ∧ Fix (BAkin ms) ms.length q := by
  have hlim := lim_eq
  have hn60 := hm.1
  have hw : ∀ p : List Int, p.length = ms.length → Low p → wgt p ≤ 3600 := fun p hp hl => by
    have h1 := wgt_le (p := p) (B := 60) fun x hx => by
      obtain ⟨i, hi, rfl⟩ := List.mem_iff_getElem.1 hx
      have := hl i hi; omega
    omega
  intro n
  induction n with
  | zero => intro pre p _ _ _ h; omega
  | succ n ih =>
    intro pre p hp hl hpre hn hch
    have hwp := hw p hp hl
    obtain ⟨e1, e2, e3⟩ := last_castB pre p [] (by omega)
    obtain ⟨q1, b1, a2⟩ := refineBAkin L N ms hm hL p hp
    have hq : q1.length = ms.length := a2.1
    obtain ⟨r1, d1, c2⟩ := equalI_ok L N q1 p (by omega) (by omega)
    have hle : decide ((pre ++ [p]).length + ([q1] : List (List Int)).length ≤ lim) = true := dt (by simp only [List.length_append, List.length_cons, List.length_nil]; omega)
    have s2 : f81_1.l0 L N (fun z4 => f81_1.p0_r L N some z4) (n + 1) ms (pre ++ [p]) = bif r1 then some (pre ++ [p]) else f81_1.l0 L N (fun z4 => f81_1.p0_r L N some z4) n ms (pre ++ [p] ++ [q1]) := by
      show f81_1.s0 L N _ (f81_1.l0 L N _ n) ms (pre ++ [p]) = _
      unfold f81_1.s0 f81_1.s0'
      simp only [e1, le0, lt_cast e2, Bool.and_true, cond_true, Int.toNat_natCast, e3, b1, d1, Option.bind_some, hle]
      rfl
    rw [s2]
    cases r1 with
    | true =>
      have heq : q1 = p := c2.1 rfl
      subst heq
      exact ⟨pre, q1, rfl, by omega, hch, hp, a2⟩
    | false =>
      have hne : p ≠ q1 := fun e => absurd (c2.2 e.symm) (by simp)
      have hlt := wgt_lt (by omega) (fun i h1 h2 => ⟨(hl i h1).1, a2.ge hp hl (fun j i h => h.1) i h1 h2⟩) hne
      have hwq := hw q1 hq a2.low
      exact ih (pre ++ [p]) q1 hq a2.low (by simp only [List.length_append, List.length_cons, List.length_nil]; omega) (by omega) (.snoc _ _ _ hch a2)
theorem branchClassesI (L N : Nat) (g : Graph) (hg : g.moves.length + gsize g.moves ≤ 1048576) (hL : 8589934592 ≤ L) :
    ∃ q, f41 L N g = some q ∧ q.length ≤ 60 ∧ (graphOk g = false → q = []) ∧ (graphOk g = true → ∃ pre, Chain (BAkin g.moves) g.moves.length pre q ∧ Fix (BAkin g.moves) g.moves.length q) := by
  have hge : Graph.mk g.moves = g := by cases g; rfl
  have hlim := lim_eq
  have h1 := gok1_ok L N g (by omega) hg
  cases hok : graphOk g with
  | false =>
    refine ⟨[], ?_, by simp, fun _ => rfl, (fun h => by cases h)⟩
    · show f41.b' L N some g = _
      unfold f41.b'
      rw [hge, h1, Option.bind_some, hok, Bool.not_false, cond_true]
  | true =>
    have hm := leads_of hok hg
    have hn := hm.1
    have h0 : decide ((g.moves.length : Int) ≤ (lim : Int)) = true := dt (by omega)
    have e0 : ((g.moves.length : Int)).toNat = g.moves.length := rfl
    obtain ⟨pre, q, r2, r4, r5, r6⟩ := roundsBI L N g.moves hm hL L [] (List.replicate g.moves.length 0) (by simp) (low_zero _) (by simp) (by omega) .zero
    have r3 := r6.1
    obtain ⟨e1, e2, e3⟩ := last_castB pre q [] (by omega)
    refine ⟨q, ?_, by omega, (fun h => by cases h), fun _ => ⟨pre, r5, r6⟩⟩
    · have hr : f81_1 L N (g.moves.length : Int) g.moves = some (pre ++ [q]) := by
        show f81_1.b L N some (g.moves.length : Int) g.moves = _
        unfold f81_1.b f81_1.b'
        simp only [le0, h0, Bool.and_true, cond_true, e0]
        exact r2
      show f41.b' L N some g = _
      unfold f41.b'
      have hfc : fclone q = some () := by unfold fclone; rw [dt (by omega)]; rfl
      rw [hge, h1, Option.bind_some, hok, Bool.not_true, cond_false, hr]
      simp only [Option.bind_some, e1, le0, lt_cast e2, Bool.and_true, cond_true, Int.toNat_natCast, e3, hfc]
end Go.Proofs.Ytdfjdbpklbehoaa.Ev
namespace Go.Proofs.Ytdfjdbpklbehoaa.Ev
open Go
set_option linter.unusedVariables false
set_option linter.unusedSimpArgs false
theorem Inert.slip {ms : List (List Move)} {p : List Int} {s u : Nat} (h : Inert ms p s u) : Slip ms (fun x => x = s) u := by
  induction h with
  | base => exact .base s rfl
  | step u t _ hu k hk hi ht ih => exact .step u t ih hu k hk hi.1 ht
theorem br_step {ms : List (List Move)} (hm : Leads ms) {b : List Int} (hb : Fix (BAkin ms) ms.length b) {s s' : Nat} (hs : s < ms.length) (hs' : s' < ms.length) (e : b.getD s 0 = b.getD s' 0) {k : Nat} (hk : k < (ms[s]).length) {t : Nat} (ht : (ms[s])[k].to = (t : Int)) :
    ((ms[s])[k].act = 0 ∧ b.getD t 0 = b.getD s' 0) ∨ ∃ u' t', Slip ms (fun x => x = s') u' ∧ ∃ (hu : u' < ms.length) (k' : Nat) (hk' : k' < (ms[u']).length), (ms[u'])[k'].act = (ms[s])[k].act ∧ (ms[u'])[k'].to = ((t' : Nat) : Int) ∧ b.getD t 0 = b.getD t' 0 := by
  by_cases hin : inB b s (ms[s])[k]
  · left
    have := hin.2
    rw [ht, Int.toNat_natCast] at this
    exact ⟨hin.1, this.trans e⟩
  · right
    have hmk : Marked ms b s ⟨(ms[s])[k].act, b.getD t 0⟩ := ⟨s, .base, hs, k, hk, hin, by rw [ht, Int.toNat_natCast]⟩
    obtain ⟨u', hu', hul', k', hk', hn', hx⟩ := (((bakin_iff hm b hs' hs).1 ((hb.same (bakinEq ms) hs hs').1 e)).2 _).1 hmk
    obtain ⟨t', ht', htl'⟩ := hm.nat hul' hk'
    injection hx with hx1 hx2
    rw [ht', Int.toNat_natCast] at hx2
    exact ⟨u', t', hu'.slip, hul', k', hk', hx1.symm, ht', hx2⟩
theorem br_slip {ms : List (List Move)} (hm : Leads ms) {b : List Int} (hb : Fix (BAkin ms) ms.length b) {s s' u : Nat} (hs : s < ms.length) (hs' : s' < ms.length) (e : b.getD s 0 = b.getD s' 0) (h : Slip ms (fun x => x = s) u) : ∃ u', Slip ms (fun x => x = s') u' ∧ b.getD u 0 = b.getD u' 0 := by
  induction h with
  | base t hx => subst hx; exact ⟨s', .base s' rfl, e⟩
  | step u t hu hul k hk ha ht ih =>
    obtain ⟨u', h1, h2⟩ := ih
    have hul' : u' < ms.length := h1.lt hm (fun x hx => by omega)
    rcases br_step hm hb hul hul' h2 hk ht with ⟨-, h3⟩ | ⟨v, t', h3, hv, k', hk', h4, h5, h6⟩
    · exact ⟨u', h1, h3⟩
    · exact ⟨t', .step v t' (h3.trans fun x hx => by subst hx; exact h1) hv k' hk' (h4.trans ha) h5, h6⟩
theorem br_weak {ms : List (List Move)} (hm : Leads ms) {b : List Int} (hb : Fix (BAkin ms) ms.length b) {s s' : Nat} (hs : s < ms.length) (hs' : s' < ms.length) (e : b.getD s 0 = b.getD s' 0) {m : Move} (h : WkS ms s m) :
    ∃ m', WkS ms s' m' ∧ m'.act = m.act ∧ ∃ t t' : Nat, m.to = (t : Int) ∧ m'.to = (t' : Int) ∧ t < ms.length ∧ t' < ms.length ∧ b.getD t 0 = b.getD t' 0 := by
  obtain ⟨mid, h1, h2⟩ := h
  have hmid : mid < ms.length := h1.lt hm (fun x hx => by omega)
  obtain ⟨mid', g1, g2⟩ := br_slip hm hb hs hs' e h1
  have hmid' : mid' < ms.length := g1.lt hm (fun x hx => by omega)
  rcases h2 with ⟨ha, ht⟩ | ⟨_, k, hk, t, u, ha, hact, ht, hu, hto⟩
  · exact ⟨⟨0, (mid' : Int)⟩, ⟨mid', g1, .inl ⟨rfl, rfl⟩⟩, ha.symm, mid, mid', ht, rfl, hmid, hmid', g2⟩
  · have htl : t < ms.length := by have := (hm.2 mid hmid).2 k hk; omega
    have hul : u < ms.length := hu.lt hm (fun x hx => by omega)
    rcases br_step hm hb hmid hmid' g2 hk ht with ⟨h3, -⟩ | ⟨v, t', h3, hv, k', hk', h4, h5, h6⟩
    · exact absurd h3 ha
    · have htl' : t' < ms.length := by have := (hm.2 v hv).2 k' hk'; omega
      obtain ⟨u', g3, g4⟩ := br_slip hm hb htl htl' h6 hu
      have hul' : u' < ms.length := g3.lt hm (fun x hx => by omega)
      refine ⟨⟨m.act, (u' : Int)⟩, ⟨v, h3.trans fun x hx => by subst hx; exact g1, .inr ⟨hv, k', hk', t', u', by rw [h4]; exact ha, hact.trans h4.symm, h5, g3, rfl⟩⟩, rfl, u, u', hto, rfl, hul, hul', g4⟩
theorem branch_weak {ms rows : List (List Move)} (hm : Leads ms) (hl : rows.length = ms.length) (hr : ∀ (j : Nat) (hj : j < rows.length), ∀ m, m ∈ rows[j] ↔ WkS ms j m) {b w : List Int} {pre : List (List Int)} (hb : Fix (BAkin ms) ms.length b) (hw : Chain (Akin rows) rows.length pre w)
    {i j : Nat} (hi : i < ms.length) (hj : j < ms.length) (e : b.getD i 0 = b.getD j 0) : w.getD i 0 = w.getD j 0 := by
  refine hw.keeps (akinEq rows) (fun i j => b.getD i 0 = b.getD j 0) (fun p hpl hp i j hi hj e => ⟨hp i j hi hj e, fun m => ?_⟩) i j (by omega) (by omega) e
  have go : ∀ i j, i < rows.length → j < rows.length → b.getD i 0 = b.getD j 0 → ∀ m, Sig rows p i m → Sig rows p j m := fun i j hi hj e m ⟨hu, k, hk, h1, h2⟩ => by
    obtain ⟨m', g1, g2, t, t', g3, g4, g5, g6, g7⟩ := br_weak hm hb (by omega) (show j < ms.length by omega) e ((hr i hu _).1 (List.getElem_mem hk))
    obtain ⟨k', hk', e'⟩ := List.mem_iff_getElem.1 ((hr j hj _).2 g1)
    refine ⟨hj, k', hk', by rw [e', g2, h1], ?_⟩
    rw [h2, g3, e', g4, Int.toNat_natCast, Int.toNat_natCast]
    exact hp t t' (by omega) (by omega) g7
  exact ⟨go j i hj hi e.symm m, go i j hi hj e m⟩
end Go.Proofs.Ytdfjdbpklbehoaa.Ev
namespace Go.Proofs.Ytdfjdbpklbehoaa.Ev
open Go
set_option linter.unusedVariables false
set_option linter.unusedSimpArgs false
theorem mnInts_same (L N : Nat) (q : List Int) (hL : q.length < L) (hl : q.length ≤ 1048576) : f31 L N q q = some true := by
  show f31.b L N some q q = _
  unfold f31.b f31.b'
  simp only [bne_self_eq_false, cond_false]
  have key : ∀ (n i : Nat), i ≤ q.length → q.length - i < n → f31.l0 L N (f31.p0_e0 L N some) (fun z3 => f31.p0_r L N some z3) n q q (i : Int) = some true := by
    intro n
    induction n with
    | zero => intro i _ h; omega
    | succ n ih =>
      intro i hi hn
      show f31.s0 L N _ _ (f31.l0 L N _ _ n) q q (i : Int) = _
      unfold f31.s0 f31.s0'
      by_cases hlt : i < q.length
      · simp only [lt_cast hlt, le0, Bool.and_true, cond_true, bne_self_eq_false, cond_false]
        rw [wi_nat (by omega)]
        exact ih (i + 1) (by omega) (by omega)
      · rw [ge_cast hlt, cond_false]; rfl
  exact key L 0 (by omega) (by omega)
end Go.Proofs.Ytdfjdbpklbehoaa.Ev
namespace Go.Proofs.Ytdfjdbpklbehoaa.Ev
open Go
set_option linter.unusedVariables false
set_option linter.unusedSimpArgs false
theorem mnFiner_ok (L N : Nat) (a b : List Int) (hl : a.length = b.length) (h : ∀ i j, i < a.length → j < a.length → a.getD i 0 = a.getD j 0 → b.getD i 0 = b.getD j 0) (hL : a.length + 1 < L) (hlen : a.length ≤ 1048576) : f45 L N a b = some true := by
  show f45.b L N some a b = _
  unfold f45.b f45.b'
  have he : ((a.length : Int) != (b.length : Int)) = false := by rw [hl]; simp
  rw [he, cond_false]
  have key : ∀ (n i : Nat), i ≤ a.length → a.length - i < n → f45.l0 L N (f45.p0_e0 L N some) (fun z23 => f45.p0_r L N some z23) n a b (i : Int) = some true := by
    intro n
    induction n with
    | zero => intro i _ h; omega
    | succ n ih =>
      intro i hi hn
      show f45.s0 L N _ _ (f45.l0 L N _ _ n) a b (i : Int) = _
      unfold f45.s0 f45.s0'
      by_cases hlt : i < a.length
      · rw [lt_cast hlt, cond_true]
        have row : ∀ (n' j : Nat), j ≤ i → i - j < n' → f45.l1 L N (fun z7 z8 z9 => f45.p1_e2 L N (f45.p0_e0 L N some) (fun z23 => f45.p0_r L N some z23) (f45.l0 L N (f45.p0_e0 L N some) (fun z23 => f45.p0_r L N some z23) n) z7 z8 z9) (fun z15 z16 z17 z18 => f45.p1_r L N (f45.p0_e0 L N some) (fun z23 => f45.p0_r L N some z23) (f45.l0 L N (f45.p0_e0 L N some) (fun z23 => f45.p0_r L N some z23) n) z15 z16 z17 z18) n' a b (i : Int) (j : Int) = some true := by
          intro n'
          induction n' with
          | zero => intro j _ h; omega
          | succ n' ih2 =>
            intro j hj hn'
            show f45.s1 L N _ _ (f45.l1 L N _ _ n') a b (i : Int) (j : Int) = _
            unfold f45.s1 f45.s1'
            by_cases hji : j < i
            · have hja : j < a.length := by omega
              have hib : i < b.length := by omega
              have hjb : j < b.length := by omega
              rw [dt (show (j : Int) < (i : Int) by omega), cond_true]
              simp only [le0, lt_cast hlt, lt_cast hja, lt_cast hib, lt_cast hjb, Bool.and_true, cond_true, Int.toNat_natCast, atD]
              rw [wi_nat (by omega)]
              cases hc : (a.getD i 0 == a.getD j 0) with
              | false => rw [cond_false]; exact ih2 (j + 1) (by omega) (by omega)
              | true =>
                have e := h i j hlt hja (eq_of_beq hc)
                rw [cond_true, e, bne_self_eq_false, cond_false]
                exact ih2 (j + 1) (by omega) (by omega)
            · rw [df (show ¬ (j : Int) < (i : Int) by omega), cond_false]
              show f45.l0 L N _ _ n a b (wi ((i : Int) + 1)) = _
              rw [wi_nat (by omega)]
              exact ih (i + 1) (by omega) (by omega)
        exact row L 0 (by omega) (by omega)
      · rw [ge_cast hlt, cond_false]; rfl
  exact key L 0 (by omega) (by omega)
theorem alikeC (L N : Nat) (g : Graph) (hg : g.moves.length + gsize g.moves ≤ 1048576) (hL : 8589934592 ≤ L) :
    ∃ q, f44 L N g = some q ∧ q.length ≤ 60 ∧ (graphOk g = false → q = []) ∧ (graphOk g = true → ∃ pre, Chain (Akin g.moves) g.moves.length pre q ∧ Fix (Akin g.moves) g.moves.length q) := by
  have hge : Graph.mk g.moves = g := by cases g; rfl
  have h1 := gok1_ok L N g (by omega) hg
  cases hok : graphOk g with
  | false =>
    refine ⟨[], ?_, by simp, fun _ => rfl, (fun h => by cases h)⟩
    show f44.b' L N some g = _
    unfold f44.b'
    rw [hge, h1, Option.bind_some, hok, Bool.not_false, cond_true]
  | true =>
    have hm := leads_of hok hg
    have hn := hm.1
    obtain ⟨pre, q, c3, c5, c6, c7⟩ := chainI L N g.moves hm hL
    have hql := c7.1
    have c4 := classesI L N g.moves c3 c5 (by omega)
    refine ⟨q, ?_, by omega, (fun h => by cases h), fun _ => ⟨pre, c6, c7⟩⟩
    show f44.b' L N some g = _
    unfold f44.b'
    rw [hge, h1, Option.bind_some, hok, Bool.not_true, cond_false, show f86 L N g = some q from (by rw [← hge]; exact c4), Option.bind_some]
end Go.Proofs.Ytdfjdbpklbehoaa.Ev
namespace Go.Proofs.Ytdfjdbpklbehoaa.Ev
open Go
set_option linter.unusedVariables false
def BOk (c : List Int) : Prop := c.length ≤ 2000 ∧ ∀ b ∈ c, 0 ≤ b ∧ b ≤ 255
theorem BOk.at {c : List Int} (h : BOk c) (i : Nat) : 0 ≤ listAt c (0 : Int) i ∧ listAt c (0 : Int) i ≤ 255 := by
  by_cases hi : i < c.length
  · rw [at_lt hi]; exact h.2 _ (List.getElem_mem hi)
  · have : listAt c (0 : Int) i = 0 := by
      unfold listAt
      rw [List.getD_eq_getElem?_getD, List.getElem?_eq_none (by omega)]; rfl
    omega
theorem xor_nonneg {a b : Int} (a0 : 0 ≤ a) (a1 : a < 9223372036854775808) (b0 : 0 ≤ b) (b1 : b < 9223372036854775808) :
    0 ≤ IntKind.wrap .i64 ((BitVec.ofInt (IntKind.bits .i64) a ^^^ BitVec.ofInt (IntKind.bits .i64) b).toNat) := by
  have key : ((BitVec.ofInt (IntKind.bits .i64) a ^^^ BitVec.ofInt (IntKind.bits .i64) b).toNat) < 9223372036854775808 := by
    rw [BitVec.toNat_xor]
    have h1 : (BitVec.ofInt (IntKind.bits .i64) a).toNat < 2 ^ 63 := by
      rw [BitVec.toNat_ofInt]
      have : ((2 ^ IntKind.bits .i64 : Nat) : Int) = 18446744073709551616 := by decide
      rw [this]; omega
    have h2 : (BitVec.ofInt (IntKind.bits .i64) b).toNat < 2 ^ 63 := by
      rw [BitVec.toNat_ofInt]
      have : ((2 ^ IntKind.bits .i64 : Nat) : Int) = 18446744073709551616 := by decide
      rw [this]; omega
    have := Nat.xor_lt_two_pow h1 h2
    omega
  have := wi_id (n := ((BitVec.ofInt (IntKind.bits .i64) a ^^^ BitVec.ofInt (IntKind.bits .i64) b).toNat : Int)) (by omega) (by omega)
  unfold wi at this
  rw [this]; omega
theorem tmod_range {x n : Int} (h0 : 0 ≤ x) (h1 : 1 ≤ n) : 0 ≤ Int.tmod x n ∧ Int.tmod x n < n :=
  ⟨Int.tmod_nonneg n h0, Int.tmod_lt_of_pos x (by omega)⟩
theorem pick_ok (L N : Nat) {c : List Int} (hb : BOk c) {p n : Int} (p0 : 0 ≤ p) (p1 : p ≤ 1099511627776) (n1 : 1 ≤ n) : ∃ r, f91 L N c p n = some (r, c, p + 1) ∧ 0 ≤ r ∧ r < n := by
  show ∃ r, f91.b L N (fun a0 a1 a2 => some (a0, a1, a2)) c p n = _ ∧ _
  unfold f91.b f91.b' f91.j0'
  have hw : wi (p + 1) = p + 1 := wi_id (by omega) (by omega)
  have hw1 : wi (p + 1 - 1) = p := by
    have h1 : p + 1 - 1 = p := by omega
    rw [h1]; exact wi_id (by omega) (by omega)
  rw [df (show ¬ n < 1 by omega), cond_false, hw, hw1]
  have hl := hb.1
  by_cases he : c.length = 0
  · have : ((c.length : Int) == 0) = true := by rw [beq_iff_eq]; omega
    rw [this, cond_true]
    exact ⟨0, rfl, by omega, by omega⟩
  · have : ((c.length : Int) == 0) = false := by simp; intro h; simp [h] at he
    rw [this, cond_false]
    by_cases hlt : p < (c.length : Int)
    · rw [dt hlt, cond_true, dt p0, Bool.true_and, cond_true, df (show ¬ n = 0 by omega), cond_false]
      have := hb.at p.toNat
      rw [wi_id (by omega) (by omega)]
      have := tmod_range this.1 n1
      exact ⟨_, rfl, this.1, this.2⟩
    · rw [df hlt, cond_false]
      have hq := tmod_range (n := (c.length : Int)) p0 (by omega)
      have h7 : wi (wi (p * 7) + 3) = p * 7 + 3 := by rw [wi_id (n := p * 7) (by omega) (by omega), wi_id (by omega) (by omega)]
      have hr := tmod_range (x := p * 7 + 3) (n := (c.length : Int)) (by omega) (by omega)
      rw [df (show ¬ (c.length : Int) = 0 by omega), cond_false, dt hq.1, dt hq.2, Bool.true_and, cond_true, h7, dt hr.1, dt hr.2, Bool.true_and, cond_true, df (show ¬ n = 0 by omega)]
      simp only [cond_false, show decide ((64 : Int) = 0) = false from rfl]
      have b1 := hb.at (Int.tmod p (c.length : Int)).toNat
      have b2 := hb.at (Int.tmod (p * 7 + 3) (c.length : Int)).toNat
      generalize listAt c (0 : Int) (Int.tmod p (c.length : Int)).toNat = x1 at b1 ⊢
      generalize listAt c (0 : Int) (Int.tmod (p * 7 + 3) (c.length : Int)).toNat = x2 at b2 ⊢
      have hd0 : 0 ≤ Int.tdiv p (c.length : Int) := Int.tdiv_nonneg p0 (by omega)
      have hd1 : Int.tdiv p (c.length : Int) ≤ p := Int.tdiv_le_self _ p0
      generalize Int.tdiv p (c.length : Int) = q at hd0 hd1 ⊢
      rw [wi_id (n := x1) (by omega) (by omega), wi_id (n := x2) (by omega) (by omega), wi_id (n := x1 * 131) (by omega) (by omega), wi_id (n := x2 * 1117) (by omega) (by omega), wi_id (n := x1 * 131 + x2 * 1117) (by omega) (by omega),
        wi_id (n := p * 29) (by omega) (by omega), wi_id (n := x1 * 131 + x2 * 1117 + p * 29) (by omega) (by omega), wi_id (n := q) (by omega) (by omega), wi_id (n := q * 53) (by omega) (by omega), wi_id (n := x1 * 131 + x2 * 1117 + p * 29 + q * 53) (by omega) (by omega)]
      have ha0 : 0 ≤ x1 * 131 + x2 * 1117 + p * 29 + q * 53 := by omega
      have ha1 : x1 * 131 + x2 * 1117 + p * 29 + q * 53 < 1000000000000000 := by omega
      generalize x1 * 131 + x2 * 1117 + p * 29 + q * 53 = a at ha0 ha1 ⊢
      have hs0 : 0 ≤ Int.tdiv a 64 := Int.tdiv_nonneg ha0 (by omega)
      have hs1 : Int.tdiv a 64 ≤ a := Int.tdiv_le_self _ ha0
      generalize Int.tdiv a 64 = s at hs0 hs1 ⊢
      rw [wi_id (n := s) (by omega) (by omega)]
      have := tmod_range (xor_nonneg ha0 (by omega) hs0 (by omega)) n1
      exact ⟨_, rfl, this.1, this.2⟩
theorem open_ok (L N : Nat) {x : List Int} (hx : DatOk (.sl (.int .u8)) x) : ∃ c, f68 L N x = some (c, 0) ∧ BOk c := by
  have hb : ∀ b ∈ x, 0 ≤ b ∧ b ≤ 255 := by
    intro b hb
    have h1 := hx (.sl (x.map fun n => [.int .u8 n])) (by simp only [enc, List.mem_cons, List.not_mem_nil, or_false])
    cases h1 with | sl _ h1 h2 =>
    have h3 := h2 [.int .u8 b] (List.mem_map.2 ⟨b, hb, rfl⟩) (.int .u8 b) (.head _)
    cases h3 with | int _ _ h3 =>
    simp only [Lit.wf, Bool.and_eq_true, decide_eq_true_eq] at h3
    exact h3
  show ∃ c, f68.b L N (fun a0 a1 => some (a0, a1)) x = _ ∧ _
  unfold f68.b f68.b'
  by_cases h : (x.length : Int) > 2000
  · rw [dt h, cond_true]
    have hs : slB (0 : Int) (2000 : Int) x.length = true := by
      unfold slB
      rw [dt (show (0 : Int) ≤ 0 by omega), dt (show (0 : Int) ≤ 2000 by omega), dt (show (2000 : Int) ≤ (x.length : Int) by omega)]; rfl
    rw [hs, cond_true]
    refine ⟨_, rfl, ?_, fun b hb' => ?_⟩
    · unfold slX
      rw [List.length_take]
      have : (2000 : Int).toNat - (0 : Int).toNat = 2000 := rfl
      rw [this]; omega
    · unfold slX at hb'
      exact hb b (List.mem_of_mem_drop (List.mem_of_mem_take hb'))
  · rw [df h, cond_false]
    exact ⟨x, rfl, by omega, hb⟩
theorem do_ok (L N : Nat) {c : List Int} (hb : BOk c) {p : Int} (p0 : 0 ≤ p) (p1 : p ≤ 1099511600000) : ∃ r, f134 L N c p = some (r, c, p + 2) ∧ -4 ≤ r ∧ r ≤ 4 := by
  show ∃ r, f134.b L N (fun a0 a1 a2 => some (a0, a1, a2)) c p = _ ∧ _
  unfold f134.b f134.b'
  obtain ⟨r, hr, r0, r1⟩ := pick_ok L N hb p0 (by omega) (show (1 : Int) ≤ 3 by omega)
  rw [hr]
  simp only [Option.bind_some]
  by_cases h : r > 0
  · rw [dt h, cond_true]
    obtain ⟨s, hs, s0, s1⟩ := pick_ok L N hb (p := p + 1) (by omega) (by omega) (show (1 : Int) ≤ 5 by omega)
    rw [hs]
    simp only [Option.bind_some]
    rw [wi_id (by omega) (by omega)]
    exact ⟨_, by rw [show p + 1 + 1 = p + 2 by omega], by omega, by omega⟩
  · rw [df h, cond_false]
    obtain ⟨s, hs, s0, s1⟩ := pick_ok L N hb (p := p + 1) (by omega) (by omega) (show (1 : Int) ≤ 9 by omega)
    rw [hs]
    simp only [Option.bind_some]
    rw [wi_id (by omega) (by omega)]
    exact ⟨_, by rw [show p + 1 + 1 = p + 2 by omega], by omega, by omega⟩
end Go.Proofs.Ytdfjdbpklbehoaa.Ev
namespace Go.Proofs.Ytdfjdbpklbehoaa.Ev
open Go
set_option linter.unusedVariables false
mutual
def nodes : Tree → Nat
  | .mk _ _ ps => 1 + nodess ps
def nodess : List Tree → Nat
  | [] => 0
  | p :: r => nodes p + nodess r
end
theorem nodes_pos (t : Tree) : 1 ≤ nodes t := by cases t; simp [nodes]
theorem nodess_len : ∀ ps : List Tree, ps.length ≤ nodess ps
  | [] => by simp
  | p :: r => by have := nodess_len r; have := nodes_pos p; simp [nodess]; omega
theorem nodess_drop {ps : List Tree} {i : Nat} (h : i < ps.length) : nodess (ps.drop i) = nodes ps[i] + nodess (ps.drop (i + 1)) := by
  rw [List.drop_eq_getElem_cons h]; rfl
theorem nodess_drop_le : ∀ (ps : List Tree) (i : Nat), nodess (ps.drop i) ≤ nodess ps
  | [], i => by simp
  | p :: r, 0 => by simp
  | p :: r, i + 1 => by have := nodess_drop_le r i; simp [nodess]; omega
theorem nodes_get {ps : List Tree} {i : Nat} (h : i < ps.length) : nodes ps[i] ≤ nodess ps := by
  have h1 := nodess_drop h
  have h2 := nodess_drop_le ps i
  omega
end Go.Proofs.Ytdfjdbpklbehoaa.Ev
namespace Go.Proofs.Ytdfjdbpklbehoaa.Ev
open Go
set_option linter.unusedVariables false
set_option linter.unusedSimpArgs false
theorem tree_eta (t : Tree) : Tree.mk t.op t.n t.parts = t := by cases t; rfl
theorem nodes_mk (o n : Int) (t : Tree) : nodes (Tree.mk o n t.parts) = nodes t := by cases t; simp [nodes, Tree.parts]
theorem pow3_pos (d : Nat) : 1 ≤ 3 ^ d := Nat.one_le_pow _ _ (by omega)
theorem pow2_pos (d : Nat) : 1 ≤ 2 ^ d := Nat.one_le_pow _ _ (by omega)
theorem good_draw (L N : Nat) {c : List Int} (hb : BOk c) : ∀ (m d : Nat) (p n : Int) (b : Bool), d < m → d ≤ 6 → 0 ≤ p → p + 20 * ((3 ^ d : Nat) : Int) ≤ 1099511000000 → 0 ≤ n →
    ∃ t p', f147 L N m c p (d : Int) n b = some (t, c, p') ∧ p ≤ p' ∧ p' ≤ p + 20 * ((3 ^ d : Nat) : Int) ∧ nodes t + 1 ≤ 3 * 2 ^ d := by
  intro m
  induction m with
  | zero => intro d p n b h; omega
  | succ m ih =>
    intro d p n b hdm hd p0 pb n0
    have h3 := pow3_pos d
    have h2 := pow2_pos d
    show ∃ t p', f147.b L N (f147 L N m) (fun a0 a1 a2 => some (a0, a1, a2)) c p (d : Int) n b = _ ∧ _
    unfold f147.b f147.b'
  
    have tail : ∀ (v q : Int) (call : Bool), 0 ≤ v → (d = 0 → v < 2) → p ≤ q → q ≤ p + 2 → (call = true → 0 < n) → (v = 0 ∨ 1 ≤ v) →
        ∃ t p', f147.j0' L N (f147 L N m) (fun a0 a1 a2 => some (a0, a1, a2)) (d : Int) n b v call c q (0 : Int) (0 : Int) = some (t, c, p') ∧ p ≤ p' ∧ p' ≤ p + 20 * ((3 ^ d : Nat) : Int) ∧ nodes t + 1 ≤ 3 * 2 ^ d := by
      intro v q call v0 vd hq0 hq1 hcall _
      unfold f147.j0'
      cases call with
      | true =>
        rw [cond_true]
        obtain ⟨r, hr, r0, r1⟩ := pick_ok L N hb (p := q) (n := n) (by omega) (by omega) (by have := hcall rfl; omega)
        rw [hr]
        simp only [Option.bind_some]
        exact ⟨_, _, rfl, by omega, by omega, by simp only [nodes, nodess]; omega⟩
      | false =>
        rw [cond_false]
        by_cases hv0 : v = 0
        · rw [show (v == 0) = true by simpa using hv0, cond_true]
          exact ⟨_, _, rfl, by omega, by omega, by simp only [nodes, nodess]; omega⟩
        · rw [show (v == 0) = false by simpa using hv0, cond_false]
          by_cases hv5 : v < 5
          · rw [dt hv5, cond_true]
            obtain ⟨r, hr, r0, r1⟩ := do_ok L N hb (p := q) (by omega) (by omega)
            rw [hr]
            simp only [Option.bind_some]
            by_cases hdz : d = 0
            · subst hdz
              rw [show (((0 : Nat) : Int) == 0) = true from rfl, cond_true]
              exact ⟨_, _, rfl, by omega, by omega, by simp [nodes, nodess]⟩
            · obtain ⟨d', rfl⟩ : ∃ d', d = d' + 1 := ⟨d - 1, by omega⟩
              have hpw : ((3 ^ (d' + 1) : Nat) : Int) = 3 * ((3 ^ d' : Nat) : Int) := by rw [Nat.pow_succ]; omega
              have hpw2 : 2 ^ (d' + 1) = 2 * 2 ^ d' := by rw [Nat.pow_succ]; omega
              have hw : wi (((d' + 1 : Nat) : Int) - 1) = (d' : Int) := by rw [wi_id (by omega) (by omega)]; omega
              have h3' := pow3_pos d'
              rw [show ((((d' + 1 : Nat) : Int)) == 0) = false by simp; omega, cond_false, hw]
              have hmax : (bif decide ((d' : Int) > 0) then (d' : Int) else 0) = (d' : Int) := by
                by_cases h : (d' : Int) > 0
                · rw [dt h, cond_true]
                · rw [df h, cond_false]; omega
              rw [hmax]
              obtain ⟨t, p', e, e1, e2, e3⟩ := ih d' (q + 2) n true (by omega) (by omega) (by omega) (by omega) n0
              rw [e]
              simp only [Option.bind_some]
              exact ⟨_, _, rfl, by omega, by omega, by simp only [nodes, nodess]; omega⟩
          · rw [df hv5, cond_false]
            have hdz : d ≠ 0 := fun h => by have := vd h; omega
            obtain ⟨d', rfl⟩ : ∃ d', d = d' + 1 := ⟨d - 1, by omega⟩
            have hpw : ((3 ^ (d' + 1) : Nat) : Int) = 3 * ((3 ^ d' : Nat) : Int) := by rw [Nat.pow_succ]; omega
            have hpw2 : 2 ^ (d' + 1) = 2 * 2 ^ d' := by rw [Nat.pow_succ]; omega
            have hw : wi (((d' + 1 : Nat) : Int) - 1) = (d' : Int) := by rw [wi_id (by omega) (by omega)]; omega
            have h3' := pow3_pos d'
            by_cases hv5' : v = 5
            · rw [show (v == 5) = true by simpa using hv5', cond_true]
              obtain ⟨r, hr, r0, r1⟩ := pick_ok L N hb (p := q) (n := 4) (by omega) (by omega) (by omega)
              rw [hr]
              simp only [Option.bind_some, hw]
              obtain ⟨t, p', e, e1, e2, e3⟩ := ih d' (q + 1) n b (by omega) (by omega) (by omega) (by omega) n0
              rw [e]
              simp only [Option.bind_some]
              exact ⟨_, _, rfl, by omega, by omega, by simp only [nodes, nodess]; omega⟩
            · rw [show (v == 5) = false by simpa using hv5', cond_false, hw]
              obtain ⟨t, p', e, e1, e2, e3⟩ := ih d' q n b (by omega) (by omega) (by omega) (by omega) n0
              obtain ⟨t2, p2, f, f1, f2, f3⟩ := ih d' p' n b (by omega) (by omega) (by omega) (by omega) n0
              rw [e]
              simp only [Option.bind_some, f, tree_eta]
              cases hv8 : (v == 8) with
              | true =>
                rw [cond_true]
                exact ⟨_, _, rfl, by omega, by omega, by simp only [nodes, nodess]; omega⟩
              | false =>
                rw [cond_false]
                exact ⟨_, _, rfl, by omega, by omega, by simp only [nodes, nodess]; omega⟩
    have mid : ∀ (v q : Int), 0 ≤ v → (d = 0 → v < 2) → p ≤ q → q ≤ p + 2 →
        ∃ t p', f147.j1' L N (f147 L N m) (fun a0 a1 a2 => some (a0, a1, a2)) (d : Int) n b v c q (0 : Int) (0 : Int) = some (t, c, p') ∧ p ≤ p' ∧ p' ≤ p + 20 * ((3 ^ d : Nat) : Int) ∧ nodes t + 1 ≤ 3 * 2 ^ d := by
      intro v q v0 vd hq0 hq1
      unfold f147.j1'
      by_cases h2' : v < 2
      · rw [dt h2', cond_true]
        by_cases hn : n > 0
        · rw [dt hn, cond_true]
          exact tail v q b v0 vd hq0 hq1 (fun _ => by omega) (by omega)
        · rw [df hn, cond_false]
          exact tail v q false v0 vd hq0 hq1 (fun h => by cases h) (by omega)
      · rw [df h2', cond_false]
        exact tail v q false v0 vd hq0 hq1 (fun h => by cases h) (by omega)
    obtain ⟨r, hr, r0, r1⟩ := pick_ok L N hb (p := p) (n := 9) p0 (by omega) (by omega)
    rw [hr]
    simp only [Option.bind_some]
    by_cases hdz : d = 0
    · subst hdz
      obtain ⟨s, hs, s0, s1⟩ := pick_ok L N hb (p := p + 1) (n := 2) (by omega) (by omega) (by omega)
      rw [show (((0 : Nat) : Int) == 0) = true from rfl, cond_true, hs]
      simp only [Option.bind_some]
      exact mid s (p + 1 + 1) s0 (fun _ => s1) (by omega) (by omega)
    · rw [show ((d : Int) == 0) = false by simp; omega, cond_false]
      exact mid r (p + 1) r0 (fun h => absurd h hdz) (by omega) (by omega)
theorem term_draw (L N : Nat) (hN : 8 ≤ N) {c : List Int} (hb : BOk c) {p n : Int} (p0 : 0 ≤ p) (pb : p ≤ 1000000000) (n0 : 0 ≤ n) :
    ∃ t p', f131 L N c p n = some (t, c, p') ∧ p ≤ p' ∧ p' ≤ p + 10000 ∧ nodes t ≤ 50 := by
  show ∃ t p', f131.b' L N (fun a0 a1 a2 => some (a0, a1, a2)) c p n = _ ∧ _
  unfold f131.b'
  obtain ⟨r, hr, r0, r1⟩ := pick_ok L N hb (p := p) (n := 4) p0 (by omega) (by omega)
  obtain ⟨k, rfl⟩ := Int.eq_ofNat_of_zero_le r0
  have hw : wi (1 + (k : Int)) = ((k + 1 : Nat) : Int) := by rw [wi_id (by omega) (by omega)]; omega
  have h3 : ((3 ^ (k + 1) : Nat) : Int) ≤ 81 := by have := Nat.pow_le_pow_right (n := 3) (by omega) (show k + 1 ≤ 4 by omega); omega
  have h2 : 2 ^ (k + 1) ≤ 16 := by have := Nat.pow_le_pow_right (n := 2) (by omega) (show k + 1 ≤ 4 by omega); omega
  obtain ⟨t, p', e, e1, e2, e3⟩ := good_draw L N hb N (k + 1) (p + 1) n false (by omega) (by omega) (by omega) (by omega) n0
  obtain ⟨s, hs, s0, s1⟩ := pick_ok L N hb (p := p') (n := 24) (by omega) (by omega) (by omega)
  rw [hr]
  simp only [Option.bind_some, hw, e, hs, tree_eta]
  by_cases q0 : s = 0
  · rw [show (s == 0) = true by simpa using q0, cond_true]
    exact ⟨_, _, rfl, by omega, by omega, by rw [nodes_mk]; omega⟩
  · rw [show (s == 0) = false by simpa using q0, cond_false]
    by_cases q1 : s = 1
    · obtain ⟨u, hu, u0, u1⟩ := pick_ok L N hb (p := p' + 1) (n := 8) (by omega) (by omega) (by omega)
      rw [show (s == 1) = true by simpa using q1, cond_true, hu]
      simp only [Option.bind_some]
      exact ⟨_, _, rfl, by omega, by omega, by rw [nodes_mk]; omega⟩
    · rw [show (s == 1) = false by simpa using q1, cond_false]
      by_cases q2 : s = 2
      · rw [show (s == 2) = true by simpa using q2, cond_true]
        have hlen := nodess_len t.parts
        have hnt : nodes t = 1 + nodess t.parts := by cases t; rfl
        have hlim := lim_eq
        have hle : decide (([(Tree.mk (0 : Int) (0 : Int) [])] : (List Tree)).length + t.parts.length ≤ lim) = true := dt (by simp only [List.length_cons, List.length_nil]; omega)
        rw [hle, cond_true]
        refine ⟨_, _, rfl, by omega, by omega, ?_⟩
        show 1 + (nodes (Tree.mk 0 0 []) + nodess t.parts) ≤ 50
        simp only [nodes, nodess]
        omega
      · rw [show (s == 2) = false by simpa using q2, cond_false]
        exact ⟨_, _, rfl, by omega, by omega, by omega⟩
theorem defs_draw (L N : Nat) (hN : 8 ≤ N) (hL : 8 ≤ L) {c : List Int} (hb : BOk c) {p : Int} (p0 : 0 ≤ p) (pb : p ≤ 1000000000) :
    ∃ ds p', f130 L N c p = some (ds, c, p') ∧ p ≤ p' ∧ p' ≤ p + 10000 ∧ ds.length ≤ 3 ∧ ∀ d ∈ ds, nodes d ≤ 50 := by
  have hlim := lim_eq
  show ∃ ds p', f130.b L N (fun a0 a1 a2 => some (a0, a1, a2)) c p = _ ∧ _
  unfold f130.b f130.b'
  obtain ⟨r, hr, r0, r1⟩ := pick_ok L N hb (p := p) (n := 4) p0 (by omega) (by omega)
  obtain ⟨k, rfl⟩ := Int.eq_ofNat_of_zero_le r0
  rw [hr]
  simp only [Option.bind_some]
  have fin : ∀ (q : Int) (ds : List Tree), p ≤ q → q ≤ p + 9000 → ds.length = k → (∀ d ∈ ds, nodes d ≤ 50) → ∃ ds' p', f130.p0_e0' L N (fun a0 a1 a2 => some (a0, a1, a2)) (k : Int) c q ds = some (ds', c, p') ∧ p ≤ p' ∧ p' ≤ p + 10000 ∧ ds'.length ≤ 3 ∧ ∀ d ∈ ds', nodes d ≤ 50 := by
    intro q ds hq0 hq1 hl hd
    unfold f130.p0_e0'
    have plain : ∀ q', p ≤ q' → q' ≤ p + 10000 → ∃ ds' p', f130.j0' L N (fun a0 a1 a2 => some (a0, a1, a2)) (k : Int) false c q' ds = some (ds', c, p') ∧ p ≤ p' ∧ p' ≤ p + 10000 ∧ ds'.length ≤ 3 ∧ ∀ d ∈ ds', nodes d ≤ 50 := fun q' h1 h2 => by
      unfold f130.j0'
      rw [cond_false]
      exact ⟨_, _, rfl, h1, h2, by omega, hd⟩
    by_cases hk : (k : Int) > 0
    · rw [dt hk, cond_true]
      obtain ⟨s, hs, s0, s1⟩ := pick_ok L N hb (p := q) (n := 20) (by omega) (by omega) (by omega)
      rw [hs]
      simp only [Option.bind_some]
      cases hs0 : (s == 0) with
      | false => exact plain _ (by omega) (by omega)
      | true =>
        unfold f130.j0'
        rw [cond_true]
        obtain ⟨u, hu, u0, u1⟩ := pick_ok L N hb (p := q + 1) (n := (k : Int)) (by omega) (by omega) (by omega)
        obtain ⟨k1, rfl⟩ := Int.eq_ofNat_of_zero_le u0
        have hw : wi ((k : Int) + 1) = ((k + 1 : Nat) : Int) := wi_nat (by omega)
        obtain ⟨v, hv, v0, v1⟩ := pick_ok L N hb (p := q + 1 + 1) (n := ((k + 1 : Nat) : Int)) (by omega) (by omega) (by omega)
        have hkl : k1 < ds.length := by omega
        simp only [hu, Option.bind_some, hw, hv, le0, lt_cast hkl, Bool.and_true, cond_true, Int.toNat_natCast]
        refine ⟨_, _, rfl, by omega, by omega, by simp [hl]; omega, fun d hdm => ?_⟩
        rcases List.mem_or_eq_of_mem_set hdm with h | h
        · exact hd d h
        · rw [h]; simp [nodes, nodess]
    · rw [df hk, cond_false]
      exact plain q hq0 (by omega)
  have key : ∀ (n i : Nat) (q : Int) (ds : List Tree), i ≤ k → k - i < n → ds.length = i → (∀ d ∈ ds, nodes d ≤ 50) → p ≤ q → q ≤ p + 1 + 2000 * (i : Int) →
      ∃ ds' p', f130.l0 L N (fun z6 z7 z8 z9 => f130.p0_e0 L N (fun a0 a1 a2 => some (a0, a1, a2)) z6 z7 z8 z9) n (k : Int) (i : Int) c q ds = some (ds', c, p') ∧ p ≤ p' ∧ p' ≤ p + 10000 ∧ ds'.length ≤ 3 ∧ ∀ d ∈ ds', nodes d ≤ 50 := by
    intro n
    induction n with
    | zero => intro i q ds _ h; omega
    | succ n ih =>
      intro i q ds hi hn hl hd hq0 hq1
      show ∃ ds' p', f130.s0 L N _ (f130.l0 L N _ n) (k : Int) (i : Int) c q ds = _ ∧ _
      unfold f130.s0 f130.s0'
      by_cases hlt : i < k
      · obtain ⟨s, hs, s0, s1⟩ := pick_ok L N hb (p := q) (n := 3) (by omega) (by omega) (by omega)
        obtain ⟨k2, rfl⟩ := Int.eq_ofNat_of_zero_le s0
        have hw : wi (1 + (k2 : Int)) = ((k2 + 1 : Nat) : Int) := by rw [wi_id (by omega) (by omega)]; omega
        have h3 : ((3 ^ (k2 + 1) : Nat) : Int) ≤ 81 := by have := Nat.pow_le_pow_right (n := 3) (by omega) (show k2 + 1 ≤ 4 by omega); omega
        have h2 : 2 ^ (k2 + 1) ≤ 16 := by have := Nat.pow_le_pow_right (n := 2) (by omega) (show k2 + 1 ≤ 4 by omega); omega
        obtain ⟨t, p', e, e1, e2, e3⟩ := good_draw L N hb N (k2 + 1) (q + 1) (k : Int) false (by omega) (by omega) (by omega) (by omega) (by omega)
        have hle : decide (ds.length + ([t] : List Tree).length ≤ lim) = true := dt (by simp only [List.length_cons, List.length_nil]; omega)
        simp only [lt_cast hlt, cond_true, hs, Option.bind_some, hw, e, hle]
        rw [wi_nat (by omega)]
        refine ih (i + 1) p' _ (by omega) (by omega) (by simp [hl]) (fun d hdm => ?_) (by omega) (by omega)
        rcases List.mem_append.1 hdm with h | h
        · exact hd d h
        · rw [List.mem_singleton.1 h]; omega
      · simp only [ge_cast hlt, cond_false]
        have hi' : i = k := by omega
        subst hi'
        exact fin q ds hq0 (by omega) hl hd
  exact key L 0 (p + 1) [] (by omega) (by omega) rfl (fun d h => by cases h) (by omega) (by omega)
theorem called_draw (L N : Nat) (hN : 8 ≤ N) (hL : 8 ≤ L) {c : List Int} (hb : BOk c) {p : Int} (p0 : 0 ≤ p) (pb : p ≤ 100000000) :
    ∃ t ds p', f103 L N c p = some (t, ds, c, p') ∧ p ≤ p' ∧ p' ≤ p + 30000 ∧ nodes t ≤ 50 ∧ ds.length ≤ 3 ∧ ∀ d ∈ ds, nodes d ≤ 50 := by
  show ∃ t ds p', f103.b' L N (fun a0 a1 a2 a3 => some (a0, a1, a2, a3)) c p = _ ∧ _
  unfold f103.b'
  obtain ⟨ds, p1, e, e1, e2, e3, e4⟩ := defs_draw L N hN hL hb p0 (by omega)
  obtain ⟨t, p2, f, f1, f2, f3⟩ := term_draw L N hN hb (p := p1) (n := (ds.length : Int)) (by omega) (by omega) (by omega)
  rw [e]
  simp only [Option.bind_some, f]
  have plain : ∀ q, p ≤ q → q ≤ p + 30000 → ∃ t' ds' p', f103.j0' L N (fun a0 a1 a2 a3 => some (a0, a1, a2, a3)) ds false c q (0 : Int) (0 : Int) t.op t.n t.parts = some (t', ds', c, p') ∧ p ≤ p' ∧ p' ≤ p + 30000 ∧ nodes t' ≤ 50 ∧ ds'.length ≤ 3 ∧ ∀ d ∈ ds', nodes d ≤ 50 := fun q h1 h2 => by
    unfold f103.j0'
    rw [cond_false]
    exact ⟨_, _, _, rfl, h1, h2, by show nodes (Tree.mk t.op t.n t.parts) ≤ 50; rw [tree_eta]; exact f3, e3, e4⟩
  by_cases hk : (ds.length : Int) > 0
  · rw [dt hk, cond_true]
    obtain ⟨s, hs, s0, s1⟩ := pick_ok L N hb (p := p2) (n := 3) (by omega) (by omega) (by omega)
    rw [hs]
    simp only [Option.bind_some]
    cases hs0 : (s == 0) with
    | false => exact plain _ (by omega) (by omega)
    | true =>
      unfold f103.j0'
      rw [cond_true]
      obtain ⟨u, hu, u0, u1⟩ := pick_ok L N hb (p := p2 + 1) (n := (ds.length : Int)) (by omega) (by omega) (by omega)
      rw [hu]
      simp only [Option.bind_some]
      exact ⟨_, _, _, rfl, by omega, by omega, by simp [nodes, nodess], e3, e4⟩
  · rw [df hk, cond_false]
    exact plain p2 (by omega) (by omega)
end Go.Proofs.Ytdfjdbpklbehoaa.Ev
namespace Go.Proofs.Ytdfjdbpklbehoaa.Ev
open Go
set_option linter.unusedVariables false
set_option linter.unusedSimpArgs false
inductive WT : Tree → Nat → Prop
  | nil : WT (.mk 0 0 []) 1
  | act (n : Int) (t : Tree) (k : Nat) (hn : -4 ≤ n ∧ n ≤ 4) (h : WT t k) : WT (.mk 1 n [t]) (k + 1)
  | sum (a b : Tree) (i j : Nat) (ha : WT a i) (hb : WT b j) : WT (.mk 2 0 [a, b]) (i + j + 1)
  | par (a b : Tree) (i j : Nat) (ha : WT a i) (hb : WT b j) : WT (.mk 3 0 [a, b]) (i + j + 1)
  | hide (n : Int) (t : Tree) (k : Nat) (hn : 0 ≤ n ∧ n ≤ 3) (h : WT t k) : WT (.mk 4 n [t]) (k + 1)
  | call (n : Int) (hn : 0 ≤ n ∧ n ≤ 2) : WT (.mk 5 n []) 1
theorem WT.pos {t : Tree} {k : Nat} (h : WT t k) : 1 ≤ k := by cases h <;> omega
theorem WT.nodes_eq {t : Tree} {k : Nat} (h : WT t k) : nodes t = k := by
  induction h with
  | nil => simp [nodes, nodess]
  | act n t k hn h ih => simp only [nodes, nodess]; omega
  | sum a b i j ha hb iha ihb => simp only [nodes, nodess]; omega
  | par a b i j ha hb iha ihb => simp only [nodes, nodess]; omega
  | hide n t k hn h ih => simp only [nodes, nodess]; omega
  | call n hn => simp [nodes, nodess]
inductive CL (n : Int) : Bool → Tree → Prop
  | call (b : Bool) (x : Int) (ps : List Tree) (h : x < n) : CL n b (.mk 5 x ps)
  | stop (x : Int) (ps : List Tree) : CL n true (.mk 1 x ps)
  | node (b : Bool) (o x : Int) (ps : List Tree) (ho : o ≠ 5) (h : ∀ p ∈ ps, CL n b p) : CL n b (.mk o x ps)
theorem CL.sub {n : Int} {o x : Int} {ps : List Tree} (h : CL n false (.mk o x ps)) (ho : o ≠ 5) : ∀ p ∈ ps, CL n false p := by
  cases h with
  | call b x ps h => exact absurd rfl ho
  | node b o x ps ho h => exact h
theorem CL.sub2 {n : Int} {o x : Int} {ps : List Tree} (h : CL n true (.mk o x ps)) (ho : o ≠ 5) (h1 : o ≠ 1) : ∀ p ∈ ps, CL n true p := by
  cases h with
  | call b x ps h => exact absurd rfl ho
  | stop x ps => exact absurd rfl h1
  | node b o x ps ho h => exact h
theorem CL.lt {n : Int} {b : Bool} {x : Int} {ps : List Tree} (h : CL n b (.mk 5 x ps)) : x < n := by
  cases h with
  | call b x ps h => exact h
  | node b o x ps ho h => exact absurd rfl ho
theorem l2Nodes_ok (L N : Nat) : ∀ (m : Nat) (t : Tree), nodes t ≤ m → nodes t < L → ∃ r : Int, f152 L N m t = some r ∧ 0 ≤ r ∧ r ≤ 1000 ∧ (1 ≤ r → r < 1000 → WT t r.toNat) := by
  intro m
  induction m with
  | zero => intro t h; have := nodes_pos t; omega
  | succ m ih =>
    intro t ht hL
    obtain ⟨o, x, ps⟩ := t
    simp only [nodes] at ht hL
    have hpl := nodess_len ps
    show ∃ r, f152.b L N (f152 L N m) some (.mk o x ps) = some r ∧ _
    unfold f152.b f152.b'
    simp only [Tree.op, Tree.n, Tree.parts]
  
    have sub : ∀ p ∈ ps, ∃ r : Int, f152 L N m p = some r ∧ 0 ≤ r ∧ r ≤ 1000 ∧ (1 ≤ r → r < 1000 → WT p r.toNat) := fun p hp => by
      obtain ⟨i, hi, rfl⟩ := List.mem_iff_getElem.1 hp
      have := nodes_get hi
      exact ih _ (by omega) (by omega)
    obtain ⟨L', rfl⟩ : ∃ L', L = L' + 1 := ⟨L - 1, by omega⟩
    have fin : ∀ (c : Nat) (ok : Bool) (P : Prop), c ≤ 2 → (ok = true → P) →
        (P → (c = 0 → ps = [] → WT (.mk o x ps) 1) ∧ (∀ a k, c = 1 → ps = [a] → WT a k → WT (.mk o x ps) (k + 1)) ∧ (∀ a b i j, c = 2 → ps = [a, b] → WT a i → WT b j → WT (.mk o x ps) (i + j + 1))) →
        ∃ r : Int, f152.j2' (L' + 1) N (f152 (L' + 1) N m) some (fun s24 s25 s26 s27 s28 s29 => f152.l0 (L' + 1) N (f152 (L' + 1) N m) (fun z30 => f152.p0_e1 (L' + 1) N (f152 (L' + 1) N m) some z30) (fun z32 z33 => f152.p0_r (L' + 1) N (f152 (L' + 1) N m) some z32 z33) (L' + 1) s24 s25 s26 s27 s28 s29) (c : Int) ok o x ps = some r ∧ 0 ≤ r ∧ r ≤ 1000 ∧ (1 ≤ r → r < 1000 → WT (.mk o x ps) r.toNat) := by
      intro c ok P hc2 hok hP
      unfold f152.j2'
      cases ok with
      | false => rw [Bool.not_false, cond_true]; exact ⟨0, rfl, by omega, by omega, fun h => by omega⟩
      | true =>
        obtain ⟨w0, w1, w2⟩ := hP (hok rfl)
        rw [Bool.not_true, cond_false]
        by_cases hlen : ps.length = c
        · rw [show ((ps.length : Int) != (c : Int)) = false by simp [hlen], cond_false]
          unfold f152.j1'
          match ps, hlen, sub, hpl with
          | [], hlen, sub, hpl =>
            have hc : c = 0 := by simpa using hlen.symm
            subst hc
            show ∃ r, f152.s0 _ N _ _ _ _ _ _ _ _ _ [] = some r ∧ _
            unfold f152.s0 f152.s0'
            rw [show decide ((0 : Int) < ((0 : Nat) : Int)) = false from rfl, cond_false]
            exact ⟨1, rfl, by omega, by omega, fun _ _ => w0 rfl rfl⟩
          | [a], hlen, sub, hpl =>
            have hc : c = 1 := by simpa using hlen.symm
            subst hc
            obtain ⟨r1, a1, a2, a3, a4⟩ := sub a (.head _)
            obtain ⟨L2, rfl⟩ : ∃ L2, L' = L2 + 1 := ⟨L' - 1, by simp only [List.length_cons, List.length_nil] at hpl; omega⟩
            show ∃ r, f152.s0 _ N _ _ _ _ _ _ _ _ _ [a] = some r ∧ _
            unfold f152.s0 f152.s0'
            rw [show decide ((0 : Int) < ((1 : Nat) : Int)) = true from rfl, cond_true]
            simp only [show (decide ((0 : Int) ≤ 0) && decide ((0 : Int) < (([a] : List Tree).length : Int))) = true from rfl, cond_true, show listAt [a] (Ty.dflt (.st 1)) (0 : Int).toNat = a from rfl, a1, Option.bind_some]
            by_cases hr : r1 = 0
            · rw [show (r1 == 0) = true by simpa using hr, cond_true]
              exact ⟨0, rfl, by omega, by omega, fun h => by omega⟩
            · rw [show (r1 == 0) = false by simpa using hr, cond_false]
              have hw : wi (1 + r1) = 1 + r1 := wi_id (by omega) (by omega)
              show ∃ r, f152.s0 _ N _ _ _ _ _ _ _ _ _ [a] = some r ∧ _
              unfold f152.s0 f152.s0'
              rw [show decide (wi ((0 : Int) + 1) < ((1 : Nat) : Int)) = false from rfl, cond_false, hw]
              refine ⟨_, rfl, ?_⟩
              by_cases hb : 1 + r1 < 1000
              · rw [dt hb, cond_true]
                refine ⟨by omega, by omega, fun _ _ => ?_⟩
                have := w1 a r1.toNat rfl rfl (a4 (by omega) (by omega))
                rw [show (1 + r1).toNat = r1.toNat + 1 by omega]; exact this
              · rw [df hb, cond_false]; exact ⟨by omega, by omega, fun _ h => by omega⟩
          | [a, b], hlen, sub, hpl =>
            have hc : c = 2 := by simpa using hlen.symm
            subst hc
            obtain ⟨r1, a1, a2, a3, a4⟩ := sub a (.head _)
            obtain ⟨r2, b1, b2, b3, b4⟩ := sub b (.tail _ (.head _))
            obtain ⟨L2, rfl⟩ : ∃ L2, L' = L2 + 2 := ⟨L' - 2, by simp only [List.length_cons, List.length_nil] at hpl; omega⟩
            show ∃ r, f152.s0 _ N _ _ _ _ _ _ _ _ _ [a, b] = some r ∧ _
            unfold f152.s0 f152.s0'
            rw [show decide ((0 : Int) < ((2 : Nat) : Int)) = true from rfl, cond_true]
            simp only [show (decide ((0 : Int) ≤ 0) && decide ((0 : Int) < (([a, b] : List Tree).length : Int))) = true from rfl, cond_true, show listAt [a, b] (Ty.dflt (.st 1)) (0 : Int).toNat = a from rfl, a1, Option.bind_some]
            by_cases hr : r1 = 0
            · rw [show (r1 == 0) = true by simpa using hr, cond_true]
              exact ⟨0, rfl, by omega, by omega, fun h => by omega⟩
            · rw [show (r1 == 0) = false by simpa using hr, cond_false]
              have hw : wi (1 + r1) = 1 + r1 := wi_id (by omega) (by omega)
              show ∃ r, f152.s0 _ N _ _ _ _ _ _ _ _ _ [a, b] = some r ∧ _
              unfold f152.s0 f152.s0'
              rw [show decide (wi ((0 : Int) + 1) < ((2 : Nat) : Int)) = true from rfl, cond_true, hw]
              simp only [show (decide ((0 : Int) ≤ wi ((0 : Int) + 1)) && decide (wi ((0 : Int) + 1) < (([a, b] : List Tree).length : Int))) = true from rfl, cond_true, show listAt [a, b] (Ty.dflt (.st 1)) (wi ((0 : Int) + 1)).toNat = b from rfl, b1, Option.bind_some]
              by_cases hr2 : r2 = 0
              · rw [show (r2 == 0) = true by simpa using hr2, cond_true]
                exact ⟨0, rfl, by omega, by omega, fun h => by omega⟩
              · rw [show (r2 == 0) = false by simpa using hr2, cond_false]
                show ∃ r, f152.s0 _ N _ _ _ _ _ _ _ _ _ [a, b] = some r ∧ _
                unfold f152.s0 f152.s0'
                rw [show decide (wi (wi ((0 : Int) + 1) + 1) < ((2 : Nat) : Int)) = false from rfl, cond_false]
                refine ⟨_, rfl, ?_⟩
                by_cases hb : 1 + r1 < 1000
                · rw [dt hb, cond_true, show wi (1 + r1 + r2) = 1 + r1 + r2 from wi_id (by omega) (by omega)]
                  by_cases hb2 : 1 + r1 + r2 < 1000
                  · rw [dt hb2, cond_true]
                    refine ⟨by omega, by omega, fun _ _ => ?_⟩
                    have := w2 a b r1.toNat r2.toNat rfl rfl (a4 (by omega) (by omega)) (b4 (by omega) (by omega))
                    rw [show (1 + r1 + r2).toNat = r1.toNat + r2.toNat + 1 by omega]; exact this
                  · rw [df hb2, cond_false]; exact ⟨by omega, by omega, fun _ h => by omega⟩
                · rw [df hb, cond_false, show wi (1000 + r2) = 1000 + r2 from wi_id (by omega) (by omega), df (by omega), cond_false]
                  exact ⟨by omega, by omega, fun _ h => by omega⟩
          | _ :: _ :: _ :: _, hlen, sub, hpl => simp at hlen; omega
        · rw [show ((ps.length : Int) != (c : Int)) = true by simp; omega, cond_true]
          exact ⟨0, rfl, by omega, by omega, fun h => by omega⟩
    by_cases h0 : o = 0
    · subst h0
      rw [show ((0 : Int) == 0) = true from rfl, cond_true]
      exact fin 0 (x == 0) (x = 0) (by omega) (by simp) fun hx => ⟨fun _ hp => by rw [hx, hp]; exact .nil, fun _ _ h => by omega, fun _ _ _ _ h => by omega⟩
    · rw [show (o == 0) = false by simpa using h0, cond_false]
      by_cases h1 : o = 1
      · subst h1
        rw [show ((1 : Int) == 1) = true from rfl, cond_true, act2_ok, Option.bind_some]
        exact fin 1 _ (-4 ≤ x ∧ x ≤ 4) (by omega) (fun h => of_decide_eq_true h) fun hx => ⟨fun h => by omega, fun a k _ hp hw => by rw [hp]; exact .act x a k hx hw, fun _ _ _ _ h => by omega⟩
      · rw [show (o == 1) = false by simpa using h1, cond_false]
        by_cases h2 : o = 2
        · subst h2
          rw [show ((2 : Int) == 2) = true from rfl, cond_true]
          unfold f152.j0'
          rw [cond_true]
          exact fin 2 (x == 0) (x = 0) (by omega) (by simp) fun hx => ⟨fun h => by omega, fun _ _ h => by omega, fun a b i j _ hp hi hj => by rw [hx, hp]; exact .sum a b i j hi hj⟩
        · rw [show (o == 2) = false by simpa using h2, cond_false]
          unfold f152.j0'
          by_cases h3 : o = 3
          · subst h3
            rw [show ((3 : Int) == 3) = true from rfl, cond_true]
            exact fin 2 (x == 0) (x = 0) (by omega) (by simp) fun hx => ⟨fun h => by omega, fun _ _ h => by omega, fun a b i j _ hp hi hj => by rw [hx, hp]; exact .par a b i j hi hj⟩
          · rw [show (o == 3) = false by simpa using h3, cond_false]
            by_cases h4 : o = 4
            · subst h4
              rw [show ((4 : Int) == 4) = true from rfl, cond_true, in_ok, Option.bind_some]
              exact fin 1 _ (0 ≤ x ∧ x ≤ 3) (by omega) (fun h => of_decide_eq_true h) fun hx => ⟨fun h => by omega, fun a k _ hp hw => by rw [hp]; exact .hide x a k hx hw, fun _ _ _ _ h => by omega⟩
            · rw [show (o == 4) = false by simpa using h4, cond_false]
              by_cases h5 : o = 5
              · subst h5
                rw [show ((5 : Int) == 5) = true from rfl, cond_true, in_ok, Option.bind_some]
                exact fin 0 _ (0 ≤ x ∧ x ≤ 2) (by omega) (fun h => of_decide_eq_true h) fun hx => ⟨fun _ hp => by rw [hp]; exact .call x hx, fun _ _ h => by omega, fun _ _ _ _ h => by omega⟩
              · rw [show (o == 5) = false by simpa using h5, cond_false]
                exact fin 0 false False (by omega) (fun h => by cases h) fun h => h.elim
end Go.Proofs.Ytdfjdbpklbehoaa.Ev
