/- Plain laws, in one text. -/
import Derived.Test.YtdfjdbpklbehoaaGD9b
import Derived.Test.YtdfjdbpklbehoaaEvZ
import Derived.Test.YtdfjdbpklbehoaaEvSort
namespace Go.Proofs.Ytdfjdbpklbehoaa.Ev
open Go
set_option linter.unusedVariables false
set_option linter.unusedSimpArgs false
theorem act1_ok (L N : Nat) (n : Int) : f72 L N n = some (decide (-4 ≤ n ∧ n ≤ 4)) := by
  show f72.b L N some n = _
  unfold f72.b f72.b'
  by_cases h : n ≥ -4
  · rw [dt h, cond_true]; congr 1; by_cases h2 : n ≤ 4
    · rw [dt h2, dt (by omega)]
    · rw [df h2, df (by omega)]
  · rw [df h, cond_false, df (by omega)]
theorem in_ok (L N : Nat) (n a b : Int) : f96 L N n a b = some (decide (a ≤ n ∧ n ≤ b)) := by
  show f96.b L N some n a b = _
  unfold f96.b f96.b'
  by_cases h : n ≥ a
  · rw [dt h, cond_true]; congr 1; by_cases h2 : n ≤ b
    · rw [dt h2, dt (by omega)]
    · rw [df h2, df (by omega)]
  · rw [df h, cond_false, df (by omega)]
theorem act2_ok (L N : Nat) (n : Int) : f97 L N n = some (decide (-4 ≤ n ∧ n ≤ 4)) := by
  show f97.b L N some n = _
  unfold f97.b f97.b'
  rw [in_ok]; rfl
def gsize (ms : List (List Move)) : Nat := (ms.map List.length).sum
theorem gsize_row {ms : List (List Move)} : ∀ r ∈ ms, r.length ≤ gsize ms := by
  intro r hr
  unfold gsize
  induction ms with
  | nil => cases hr
  | cons a ms ih =>
    rw [List.map_cons, List.sum_cons]
    rcases List.mem_cons.1 hr with rfl | hr
    · omega
    · have := ih hr; omega
def lessM (a b : Move) : Bool := decide (a.act < b.act ∨ (a.act = b.act ∧ a.to < b.to))
def mvOk (n : Nat) (m : Move) : Bool := decide (-4 ≤ m.act ∧ m.act ≤ 4) && decide (0 ≤ m.to ∧ m.to < (n : Int))
def atOk (n : Nat) (r : List Move) (k : Nat) : Bool := mvOk n (r.getD k ⟨0, 0⟩) && (decide (k = 0) || lessM (r.getD (k - 1) ⟨0, 0⟩) (r.getD k ⟨0, 0⟩))
def rowOk (n : Nat) (r : List Move) : Bool := allN (atOk n r) r.length 0
def graphOk (g : Graph) : Bool := decide (1 ≤ g.moves.length ∧ g.moves.length ≤ 60) && allN (fun i => rowOk g.moves.length (g.moves.getD i [])) g.moves.length 0
theorem atD {α : Type} (x : List α) (d : α) (i : Nat) : listAt x d i = x.getD i d := rfl
theorem less2_ok (L N : Nat) (a b : Move) : f98 L N a b = some (lessM a b) := by
  show f98.b L N some a b = _
  unfold f98.b f98.b' lessM
  by_cases h : a.act < b.act
  · rw [dt h, cond_true, dt (by omega)]
  · rw [df h, cond_false]
    by_cases h2 : a.act = b.act
    · have : (a.act == b.act) = true := by simpa using h2
      rw [this, cond_true]
      by_cases h3 : a.to < b.to
      · rw [dt h3, dt (by omega)]
      · rw [df h3, df (by omega)]
    · have : (a.act == b.act) = false := by simpa using h2
      rw [this, cond_false, df (by omega)]
theorem cmp_ok (L N : Nat) (a b : Int) : f108 L N a b = some (if a < b then -1 else if a > b then 1 else 0) := by
  show f108.b L N some a b = _
  unfold f108.b f108.b'
  have h0 : ∀ a, f136 L N a = some false := fun a => by
    show f136.b L N some a = _
    unfold f136.b f136.b'
    simp
  simp only [h0, Option.bind_some, cond_false]
  by_cases h : a < b
  · rw [dt h, cond_true, if_pos h]
  · rw [df h, cond_false, if_neg h]
    by_cases h2 : a > b
    · rw [dt h2, cond_true, if_pos h2]
    · rw [df h2, cond_false, if_neg h2]
theorem byMove_ok (L N : Nat) (a b : Move) : ∃ r : Int, f73 L N a b = some r ∧ decide (r ≥ 0) = !lessM a b := by
  show ∃ r, f73.b L N some a b = some r ∧ _
  unfold f73.b f73.b' lessM
  simp only [cmp_ok, Option.bind_some]
  by_cases h : a.act < b.act
  · rw [if_pos h]
    exact ⟨-1, rfl, by rw [dt (show a.act < b.act ∨ _ from .inl h)]; rfl⟩
  · rw [if_neg h]
    by_cases h2 : a.act > b.act
    · rw [if_pos h2]
      exact ⟨1, rfl, by rw [df (show ¬ (a.act < b.act ∨ a.act = b.act ∧ a.to < b.to) by omega)]; rfl⟩
    · rw [if_neg h2]
      refine ⟨_, rfl, ?_⟩
      by_cases h3 : a.to < b.to
      · rw [if_pos h3, dt (show a.act < b.act ∨ a.act = b.act ∧ a.to < b.to by omega)]; rfl
      · rw [if_neg h3, df (show ¬ (a.act < b.act ∨ a.act = b.act ∧ a.to < b.to) by omega)]
        by_cases h4 : a.to > b.to
        · rw [if_pos h4]; rfl
        · rw [if_neg h4]; rfl
end Go.Proofs.Ytdfjdbpklbehoaa.Ev
namespace Go.Proofs.Ytdfjdbpklbehoaa.Ev
open Go
set_option linter.unusedVariables false
set_option linter.unusedSimpArgs false
theorem getD_lt {α : Type} {x : List α} {d : α} {i : Nat} (h : i < x.length) : x.getD i d = x[i] := by
  rw [List.getD_eq_getElem?_getD, List.getElem?_eq_getElem h]; rfl
theorem pred_cast {k : Nat} (h : 0 < k) (h2 : k < 9223372036854775807) : wi ((k : Int) - 1) = ((k - 1 : Nat) : Int) := by
  rw [wi_id (by omega) (by omega)]; omega
theorem mv_eta (m : Move) : Move.mk m.act m.to = m := by cases m; rfl
theorem gok2_ok (L N : Nat) (g : Graph) (hL : 1048576 < L) (hs : g.moves.length + gsize g.moves ≤ 1048576) : f58 L N g = some (graphOk g) := by
  show f58.b L N some g = _
  unfold f58.b f58.b' graphOk
  generalize hms : g.moves = ms
  rw [hms] at hs
  rw [in_ok]
  simp only [Option.bind_some]
  by_cases hr : 1 ≤ (ms.length : Int) ∧ (ms.length : Int) ≤ 60
  · rw [dt hr, dt (show 1 ≤ ms.length ∧ ms.length ≤ 60 by omega)]
    simp only [Bool.not_true, cond_false, Bool.true_and]
    refine (all_loop (l := fun n i => f58.l0 L N (f58.p0_e0 L N some) (fun z => f58.p0_r L N some z) n i ms) (len := ms.length) (q := fun i => rowOk ms.length (ms.getD i [])) (rt := some true) (rf := some false) (fun n i hi => ?_) (fun n => ?_) L 0 (by omega) (by omega)).trans ?_
    · show f58.s0 L N _ _ (f58.l0 L N _ _ n) i ms = _
      unfold f58.s0 f58.s0'
      simp only [lt_cast hi, cond_true, getD_lt hi]
      have hrow := gsize_row _ (List.getElem_mem hi)
      refine (all_loop (l := fun n k => f58.l1 L N (fun z6 z7 => f58.p1_e2 L N (f58.p0_e0 L N some) (fun z => f58.p0_r L N some z) (f58.l0 L N (f58.p0_e0 L N some) (fun z => f58.p0_r L N some z) _) z6 z7) (fun z15 z16 z17 => f58.p1_r L N (f58.p0_e0 L N some) (fun z => f58.p0_r L N some z) (f58.l0 L N (f58.p0_e0 L N some) (fun z => f58.p0_r L N some z) _) z15 z16 z17) n i k ms) (len := (ms[i]).length) (q := atOk ms.length ms[i]) (rt := f58.l0 L N (f58.p0_e0 L N some) (fun z => f58.p0_r L N some z) n ((i + 1 : Nat) : Int) ms) (rf := some false) (fun n' k hk => ?_) (fun n' => ?_) L 0 (by omega) (by omega)).trans (by rw [Nat.sub_zero]; rfl)
      · show f58.s1 L N _ _ (f58.l1 L N _ _ n') i k ms = _
        unfold f58.s1 f58.s1'
        have hw : wi ((ms.length : Int) - 1) = (ms.length : Int) - 1 := wi_id (by omega) (by omega)
        simp only [lt_cast hi, le0, cond_true, Bool.and_true, Bool.true_and, Int.toNat_natCast, at_lt hi, lt_cast hk, at_lt hk, act2_ok, in_ok, Option.bind_some, less2_ok, hw, mv_eta, wi_nat (show k < 9223372036854775807 by omega)]
        unfold atOk mvOk
        rw [getD_lt hk]
        by_cases hA : -4 ≤ (ms[i])[k].act ∧ (ms[i])[k].act ≤ 4
        · by_cases hB : 0 ≤ (ms[i])[k].to ∧ (ms[i])[k].to < (ms.length : Int)
          · rw [dt hA, dt hB, dt (show 0 ≤ (ms[i])[k].to ∧ (ms[i])[k].to ≤ (ms.length : Int) - 1 by omega)]
            simp only [Bool.not_true, cond_false, Bool.true_and]
            by_cases hk0 : k = 0
            · subst hk0
              rfl
            · have hp : k - 1 < (ms[i]).length := by omega
              rw [dt (show (k : Int) > 0 by omega), cond_true, pred_cast (by omega) (by omega)]
              simp only [le0, lt_cast hp, Bool.and_true, cond_true, Int.toNat_natCast, at_lt hp, Option.bind_some, df hk0, Bool.false_or, getD_lt hp]
              cases lessM (ms[i])[k - 1] (ms[i])[k] <;> rfl
          · rw [dt hA, df hB, df (show ¬ (0 ≤ (ms[i])[k].to ∧ (ms[i])[k].to ≤ (ms.length : Int) - 1) by omega)]
            rfl
        · rw [df hA]
          rfl
      · show f58.s1 L N _ _ (f58.l1 L N _ _ n') i (ms[i]).length ms = _
        unfold f58.s1 f58.s1'
        simp only [lt_cast hi, le0, cond_true, Bool.and_true, Bool.true_and, Int.toNat_natCast, at_lt hi, ge_cast (Nat.lt_irrefl _), cond_false]
        show f58.l0 L N _ _ n (wi ((i : Int) + 1)) ms = _
        rw [wi_nat (by omega)]
    · show f58.s0 L N _ _ (f58.l0 L N _ _ n) ms.length ms = _
      unfold f58.s0 f58.s0'
      simp only [ge_cast (Nat.lt_irrefl _), cond_false]
      rfl
    · rw [Nat.sub_zero]
      cases allN (fun i => rowOk ms.length (ms.getD i [])) ms.length 0 <;> rfl
  · rw [df hr, df (show ¬ (1 ≤ ms.length ∧ ms.length ≤ 60) by omega)]
    rfl
theorem gok1_ok (L N : Nat) (g : Graph) (hL : 1048576 < L) (hs : g.moves.length + gsize g.moves ≤ 1048576) : f32 L N g = some (graphOk g) := by
  show f32.b L N some g = _
  unfold f32.b f32.b' graphOk
  generalize hms : g.moves = ms
  rw [hms] at hs
  by_cases h1 : (ms.length : Int) < 1
  · rw [dt h1, cond_true, df (show ¬ (1 ≤ ms.length ∧ ms.length ≤ 60) by omega)]; rfl
  · rw [df h1, cond_false]
    by_cases h2 : (ms.length : Int) > 60
    · rw [dt h2, cond_true, df (show ¬ (1 ≤ ms.length ∧ ms.length ≤ 60) by omega)]; rfl
    · rw [df h2, cond_false, dt (show 1 ≤ ms.length ∧ ms.length ≤ 60 by omega)]
      simp only [Bool.true_and]
      unfold f32.j0'
      refine (all_loop (l := fun n i => f32.l0 L N (f32.p0_e0 L N some) (fun z => f32.p0_r L N some z) n ms (ms.length : Int) i ms) (len := ms.length) (q := fun i => rowOk ms.length (ms.getD i [])) (rt := some true) (rf := some false) (fun n i hi => ?_) (fun n => ?_) L 0 (by omega) (by omega)).trans ?_
      · show f32.s0 L N _ _ (f32.l0 L N _ _ n) ms (ms.length : Int) i ms = _
        unfold f32.s0 f32.s0'
        simp only [lt_cast hi, le0, Bool.and_true, cond_true, Int.toNat_natCast, at_lt hi, getD_lt hi]
        have hrow := gsize_row _ (List.getElem_mem hi)
        refine (all_loop (l := fun n k => f32.l1 L N (fun z15 z16 z17 z18 => f32.p1_e2 L N (f32.p0_e0 L N some) (fun z => f32.p0_r L N some z) (f32.l0 L N (f32.p0_e0 L N some) (fun z => f32.p0_r L N some z) _) z15 z16 z17 z18) (fun z30 z31 z32 z33 z34 => f32.p1_r L N (f32.p0_e0 L N some) (fun z => f32.p0_r L N some z) (f32.l0 L N (f32.p0_e0 L N some) (fun z => f32.p0_r L N some z) _) z30 z31 z32 z33 z34) n ms[i] ms (ms.length : Int) i ms[i] ((ms[i]).length : Int) k ms) (len := (ms[i]).length) (q := atOk ms.length ms[i]) (rt := f32.l0 L N (f32.p0_e0 L N some) (fun z => f32.p0_r L N some z) n ms (ms.length : Int) ((i + 1 : Nat) : Int) ms) (rf := some false) (fun n' k hk => ?_) (fun n' => ?_) L 0 (by omega) (by omega)).trans (by rw [Nat.sub_zero]; rfl)
        · show f32.s1 L N _ _ (f32.l1 L N _ _ n') ms[i] ms (ms.length : Int) i ms[i] ((ms[i]).length : Int) k ms = _
          unfold f32.s1 f32.s1'
          simp only [le0, cond_true, Bool.and_true, Bool.true_and, Int.toNat_natCast, lt_cast hk, at_lt hk, act1_ok, Option.bind_some, mv_eta, wi_nat (show k < 9223372036854775807 by omega)]
          unfold atOk mvOk
          rw [getD_lt hk]
          by_cases hA : -4 ≤ (ms[i])[k].act ∧ (ms[i])[k].act ≤ 4
          · rw [dt hA]
            simp only [Bool.not_true, cond_false, Bool.true_and]
            by_cases hB0 : (ms[i])[k].to < 0
            · rw [dt hB0, df (show ¬ (0 ≤ (ms[i])[k].to ∧ (ms[i])[k].to < (ms.length : Int)) by omega)]; rfl
            · rw [df hB0, cond_false]
              by_cases hB1 : (ms[i])[k].to ≥ (ms.length : Int)
              · rw [dt hB1, df (show ¬ (0 ≤ (ms[i])[k].to ∧ (ms[i])[k].to < (ms.length : Int)) by omega)]; rfl
              · rw [df hB1, cond_false, dt (show 0 ≤ (ms[i])[k].to ∧ (ms[i])[k].to < (ms.length : Int) by omega)]
                by_cases hk0 : k = 0
                · subst hk0
                  rfl
                · have hp : k - 1 < (ms[i]).length := by omega
                  rw [dt (show (k : Int) > 0 by omega), cond_true, pred_cast (by omega) (by omega)]
                  obtain ⟨r, hr, hd⟩ := byMove_ok L N (ms[i])[k - 1] (ms[i])[k]
                  simp only [le0, lt_cast hp, Bool.and_true, cond_true, Int.toNat_natCast, at_lt hp, hr, Option.bind_some, hd, df hk0, Bool.false_or, Bool.true_and, getD_lt hp]
                  cases lessM (ms[i])[k - 1] (ms[i])[k] <;> rfl
          · rw [df hA]
            rfl
        · show f32.s1 L N _ _ (f32.l1 L N _ _ n') ms[i] ms (ms.length : Int) i ms[i] ((ms[i]).length : Int) (ms[i]).length ms = _
          unfold f32.s1 f32.s1'
          simp only [ge_cast (Nat.lt_irrefl _), cond_false]
          show f32.l0 L N _ _ n ms (ms.length : Int) (wi ((i : Int) + 1)) ms = _
          rw [wi_nat (by omega)]
      · show f32.s0 L N _ _ (f32.l0 L N _ _ n) ms (ms.length : Int) ms.length ms = _
        unfold f32.s0 f32.s0'
        simp only [ge_cast (Nat.lt_irrefl _), cond_false]
        rfl
      · rw [Nat.sub_zero]
        cases allN (fun i => rowOk ms.length (ms.getD i [])) ms.length 0 <;> rfl
theorem graphOk_mv {g : Graph} (h : graphOk g = true) : 1 ≤ g.moves.length ∧ g.moves.length ≤ 60 ∧ ∀ (i : Nat) (hi : i < g.moves.length) (k : Nat) (hk : k < (g.moves[i]).length), -4 ≤ (g.moves[i])[k].act ∧ (g.moves[i])[k].act ≤ 4 ∧ 0 ≤ (g.moves[i])[k].to ∧ (g.moves[i])[k].to < (g.moves.length : Int) := by
  unfold graphOk at h
  simp only [Bool.and_eq_true, decide_eq_true_eq] at h
  refine ⟨h.1.1, h.1.2, fun i hi k hk => ?_⟩
  have h1 := allN_get _ 0 h.2 i (by omega) (by omega)
  simp only [getD_lt hi] at h1
  have h2 := allN_get _ 0 h1 k (by omega) (by omega)
  unfold atOk mvOk at h2
  rw [getD_lt hk] at h2
  simp only [Bool.and_eq_true, decide_eq_true_eq] at h2
  exact ⟨h2.1.1.1, h2.1.1.2, h2.1.2.1, h2.1.2.2⟩
end Go.Proofs.Ytdfjdbpklbehoaa.Ev
namespace Go.Proofs.Ytdfjdbpklbehoaa.Ev
open Go
set_option linter.unusedVariables false
set_option linter.unusedSimpArgs false
end Go.Proofs.Ytdfjdbpklbehoaa.Ev
namespace Go.Proofs.Ytdfjdbpklbehoaa.Ev
open Go
set_option linter.unusedVariables false
set_option linter.unusedSimpArgs false
def upM (k : Int) (n : Nat) : List Move := (List.range n).map fun (i : Nat) => Move.mk (k + 2 * (i : Int)) (k + 2 * (i : Int) + 1)
theorem upM_len (k : Int) (n : Nat) : (upM k n).length = n := by simp [upM]
def Mk : Int → List (List Move) → Int → Prop
  | k, [], j => j = k
  | k, r :: rs, j => r = upM k r.length ∧ Mk (k + 2 * (r.length : Int)) rs j
theorem Mk.le : ∀ {k j : Int} {rs : List (List Move)}, Mk k rs j → k ≤ j
  | k, j, [], h => by have h : j = k := h; omega
  | k, j, r :: rs, h => by have := Mk.le h.2; omega
theorem Mk.snoc : ∀ {k j : Int} {rs : List (List Move)} (n : Nat), Mk k rs j → Mk k (rs ++ [upM j n]) (j + 2 * (n : Int))
  | k, j, [], n, h => by
    have h : j = k := h
    subst h
    exact ⟨by rw [upM_len], by rw [upM_len]; exact rfl⟩
  | k, j, r :: rs, n, h => ⟨h.1, Mk.snoc n h.2⟩
end Go.Proofs.Ytdfjdbpklbehoaa.Ev
namespace Go.Proofs.Ytdfjdbpklbehoaa.Ev
open Go
set_option linter.unusedVariables false
set_option linter.unusedSimpArgs false
def Tr (l : List Bool) (t : Nat) : Prop := l.getD t false = true
theorem Tr_lt {l : List Bool} {t : Nat} (h : Tr l t) : t < l.length := by
  unfold Tr at h
  rw [List.getD_eq_getElem?_getD] at h
  by_cases hl : t < l.length
  · exact hl
  · rw [List.getElem?_eq_none (by omega)] at h; cases h
theorem Tr_set {l : List Bool} {j t : Nat} (hj : j < l.length) : Tr (l.set j true) t ↔ t = j ∨ Tr l t := by
  unfold Tr
  rw [List.getD_eq_getElem?_getD, List.getD_eq_getElem?_getD]
  by_cases h : t = j
  · subst h; rw [List.getElem?_set_self hj]; simp
  · rw [List.getElem?_set_ne (Ne.symm h)]; simp [h]
theorem Tr_replicate (n t : Nat) : ¬ Tr (List.replicate n false) t := by
  unfold Tr
  rw [List.getD_eq_getElem?_getD, List.getElem?_replicate]
  split <;> simp
def cnt : List Bool → Nat
  | [] => 0
  | b :: r => (bif b then 1 else 0) + cnt r
theorem cnt_le : ∀ l : List Bool, cnt l ≤ l.length
  | [] => Nat.le_refl _
  | b :: r => by have := cnt_le r; cases b <;> simp [cnt] <;> omega
theorem cnt_set : ∀ (l : List Bool) (j : Nat), j < l.length → l.getD j false = false → cnt (l.set j true) = cnt l + 1
  | b :: r, 0, _, h => by
    have hb : b = false := h
    subst hb
    simp [cnt]; omega
  | b :: r, j + 1, hj, h => by
    have := cnt_set r j (by simpa using hj) (by simpa using h)
    simp only [List.set_cons_succ, cnt, this]; omega
theorem cnt_replicate (n : Nat) : cnt (List.replicate n false) = 0 := by
  induction n with
  | zero => rfl
  | succ n ih => rw [List.replicate_succ]; simp [cnt, ih]
def Leads (ms : List (List Move)) : Prop := ms.length ≤ 60 ∧ ∀ (i : Nat) (hi : i < ms.length), (ms[i]).length ≤ 1048576 ∧ ∀ (k : Nat) (hk : k < (ms[i]).length), 0 ≤ (ms[i])[k].to ∧ (ms[i])[k].to < (ms.length : Int)
theorem leads_of {g : Graph} (h : graphOk g = true) (hs : g.moves.length + gsize g.moves ≤ 1048576) : Leads g.moves := by
  obtain ⟨h1, h2, h3⟩ := graphOk_mv h
  refine ⟨h2, fun i hi => ⟨?_, fun k hk => ?_⟩⟩
  · have := gsize_row _ (List.getElem_mem hi); omega
  · have := h3 i hi k hk; exact ⟨this.2.2.1, this.2.2.2⟩
theorem Leads.nat {ms : List (List Move)} (h : Leads ms) {i : Nat} (hi : i < ms.length) {k : Nat} (hk : k < (ms[i]).length) : ∃ t : Nat, (ms[i])[k].to = (t : Int) ∧ t < ms.length := by
  obtain ⟨h1, h2⟩ := (h.2 i hi).2 k hk
  obtain ⟨t, ht⟩ := Int.eq_ofNat_of_zero_le h1
  exact ⟨t, ht, by omega⟩
end Go.Proofs.Ytdfjdbpklbehoaa.Ev
namespace Go.Proofs.Ytdfjdbpklbehoaa.Ev
open Go
set_option linter.unusedVariables false
set_option linter.unusedSimpArgs false
def QOk (ms : List (List Move)) (seen : List Bool) (q : List Int) : Prop := seen.length = ms.length ∧ (∀ v ∈ q, ∃ t : Nat, v = (t : Int) ∧ Tr seen t) ∧ (∀ t : Nat, Tr seen t → (t : Int) ∈ q) ∧ q.length = cnt seen ∧ q.Nodup
theorem QOk.add {ms : List (List Move)} {seen : List Bool} {q : List Int} (h : QOk ms seen q) {t : Nat} (ht : t < ms.length) (hf : seen.getD t false = false) : QOk ms (seen.set t true) (q ++ [(t : Int)]) := by
  obtain ⟨h1, h2, h3, h4, h5⟩ := h
  refine ⟨by simp [h1], fun v hv => ?_, fun t' ht' => ?_, ?_, ?_⟩
  · rcases List.mem_append.1 hv with hv | hv
    · obtain ⟨s, rfl, hs⟩ := h2 v hv
      exact ⟨s, rfl, (Tr_set (by omega)).2 (.inr hs)⟩
    · obtain rfl := List.mem_singleton.1 hv
      exact ⟨t, rfl, (Tr_set (by omega)).2 (.inl rfl)⟩
  · rcases (Tr_set (by omega)).1 ht' with rfl | h
    · exact List.mem_append_right _ (List.mem_singleton.2 rfl)
    · exact List.mem_append_left _ (h3 t' h)
  · rw [List.length_append, cnt_set _ _ (by omega) hf, h4]; rfl
  · refine List.nodup_append.2 ⟨h5, by simp, fun a ha b hb e => ?_⟩
    obtain rfl := List.mem_singleton.1 hb
    obtain ⟨s, hs, hT⟩ := h2 a ha
    obtain rfl : s = t := by omega
    unfold Tr at hT
    rw [hf] at hT; cases hT
theorem QOk.len {ms : List (List Move)} {seen : List Bool} {q : List Int} (h : QOk ms seen q) : q.length ≤ ms.length := by
  have := cnt_le seen
  obtain ⟨h1, -, -, h4, -⟩ := h
  omega
end Go.Proofs.Ytdfjdbpklbehoaa.Ev
namespace Go.Proofs.Ytdfjdbpklbehoaa.Ev
open Go
set_option linter.unusedVariables false
set_option linter.unusedSimpArgs false
theorem less_irrefl (a : Move) : lessM a a = false := by unfold lessM; exact decide_eq_false (by omega)
theorem less_trans {a b c : Move} (h1 : lessM a b = true) (h2 : lessM b c = true) : lessM a c = true := by
  unfold lessM at *; have h1 := of_decide_eq_true h1; have h2 := of_decide_eq_true h2; exact decide_eq_true (by omega)
theorem less_tot {a b : Move} (h1 : lessM a b = false) (h2 : a ≠ b) : lessM b a = true := by
  unfold lessM at *
  have h1 := of_decide_eq_false h1
  obtain ⟨a1, a2⟩ := a
  obtain ⟨b1, b2⟩ := b
  have h2 : ¬ (a1 = b1 ∧ a2 = b2) := fun h => h2 (by rw [h.1, h.2])
  exact decide_eq_true (by simp only at h1 ⊢; omega)
theorem less_ne {a b : Move} (h : lessM a b = true) : a ≠ b := fun e => by rw [e, less_irrefl] at h; cases h
def RisesM (l : List Move) : Prop := l.Pairwise fun a b => lessM a b = true
theorem risesM_ext : ∀ {a b : List Move}, RisesM a → RisesM b → (∀ x, x ∈ a ↔ x ∈ b) → a = b
  | [], [], _, _, _ => rfl
  | [], y :: b, _, _, h => absurd ((h y).2 (.head _)) (by simp)
  | x :: a, [], _, _, h => absurd ((h x).1 (.head _)) (by simp)
  | x :: a, y :: b, ha, hb, h => by
    have ha' := List.pairwise_cons.1 ha
    have hb' := List.pairwise_cons.1 hb
    have hxy : x = y := by
      rcases List.mem_cons.1 ((h x).1 (.head _)) with e | e
      · exact e
      · rcases List.mem_cons.1 ((h y).2 (.head _)) with e' | e'
        · exact e'.symm
        · have q := less_trans (hb'.1 x e) (ha'.1 y e')
          rw [less_irrefl] at q; cases q
    subst hxy
    refine congrArg (x :: ·) (risesM_ext ha'.2 hb'.2 fun z => ?_)
    have := h z
    simp only [List.mem_cons] at this
    constructor
    · intro hz
      rcases this.1 (.inr hz) with e | e
      · exact absurd e.symm (less_ne (ha'.1 z hz))
      · exact e
    · intro hz
      rcases this.2 (.inr hz) with e | e
      · exact absurd e.symm (less_ne (hb'.1 z hz))
      · exact e
theorem len_asc {f : Move → Int} {B : Int} : ∀ {l : List Move} {b : Int}, (l.Pairwise fun x y => f x < f y) → (∀ x ∈ l, b ≤ f x ∧ f x < B) → b ≤ B → (l.length : Int) ≤ B - b
  | [], b, _, _, hb => by simp; omega
  | x :: l, b, hp, hb, hB => by
    obtain ⟨h1, h2⟩ := List.pairwise_cons.1 hp
    obtain ⟨h3, h4⟩ := hb x (.head _)
    have := len_asc (b := f x + 1) h2 (fun y hy => ⟨by have := h1 y hy; omega, (hb y (.tail _ hy)).2⟩) (by omega)
    rw [List.length_cons]
    omega
theorem risesM_len {l : List Move} (hr : RisesM l) (h : ∀ m ∈ l, -4 ≤ m.act ∧ m.act ≤ 4 ∧ 0 ≤ m.to ∧ m.to < 60) : l.length ≤ 540 := by
  have h1 : l.Pairwise fun x y => (x.act + 4) * 60 + x.to < (y.act + 4) * 60 + y.to := by
    refine List.Pairwise.imp_of_mem ?_ hr
    intro x y hx hy hxy
    unfold lessM at hxy
    have hxy := of_decide_eq_true hxy
    have := h x hx
    have := h y hy
    omega
  have := len_asc (B := 540) (b := 0) h1 (fun x hx => by have := h x hx; omega) (by omega)
  omega
theorem gsize_le {B : Nat} : ∀ {ms : List (List Move)}, (∀ r ∈ ms, r.length ≤ B) → gsize ms ≤ ms.length * B
  | [], _ => by simp [gsize]
  | r :: ms, h => by
    have h1 := h r (.head _)
    have h2 := gsize_le (B := B) (ms := ms) fun x hx => h x (.tail _ hx)
    unfold gsize at h2 ⊢
    rw [List.map_cons, List.sum_cons, List.length_cons, Nat.add_mul, Nat.one_mul]
    omega
theorem l3s1 {R : Type} (L N : Nat) (K : List Move → Int → Int → List Move → Option R) (xs out : List Move) (i : Nat) (hi : i < xs.length) (ho : out.length < 9223372036854775807) :
    ∀ (n k : Nat), k ≤ out.length → k < n → (∀ j (hj : j < out.length), k ≤ j → lessM xs[i] out[j] = true) →
      ∃ a : Nat, a ≤ out.length ∧ (∀ j (hj : j < out.length), a ≤ j → lessM xs[i] out[j] = true) ∧ (∀ (h : 0 < a) (ha : a - 1 < out.length), lessM xs[i] out[a - 1] = false) ∧
        f123.l1 L N K n xs (i : Int) (k : Int) out = K xs (i : Int) (a : Int) out := by
  intro n
  induction n with
  | zero => intro k _ h; omega
  | succ n ih =>
    intro k hk hn hge
    show ∃ a : Nat, _ ∧ _ ∧ _ ∧ f123.s1 L N _ (f123.l1 L N _ n) xs (i : Int) (k : Int) out = _
    unfold f123.s1 f123.s1'
    by_cases h0 : 0 < k
    · have hk1 : k - 1 < out.length := by omega
      rw [show decide ((k : Int) > 0) = true from decide_eq_true (by omega)]
      simp only [cond_true, le0, lt_cast hi, Bool.and_true, pred_cast h0 (by omega), lt_cast hk1, Int.toNat_natCast, at_lt hi, at_lt hk1, less2_ok, Option.bind_some]
      cases hc : lessM xs[i] out[k - 1] with
      | true =>
        simp only [cond_true]
        refine ih (k - 1) (by omega) (by omega) fun j hj hkj => ?_
        by_cases e : j = k - 1
        · subst e; exact hc
        · exact hge j hj (by omega)
      | false =>
        simp only [cond_false]
        exact ⟨k, hk, hge, fun _ _ => hc, rfl⟩
    · have hk0 : k = 0 := by omega
      subst hk0
      rw [show decide (((0 : Nat) : Int) > 0) = false from rfl]
      simp only [cond_false]
      exact ⟨0, by omega, hge, fun h => absurd h (by omega), rfl⟩
theorem l3s2 {R : Type} (L N : Nat) (K : List Move → Int → Int → List Move → Option R) (xs out : List Move) (i : Int) (a : Nat) (ho : out.length < 9223372036854775806) :
    ∀ (n k : Nat) (l : List Move), l.length = out.length + 1 → a ≤ k → k ≤ out.length → k - a < n → (∀ j, j < k → l[j]? = out[j]?) → (∀ j, k < j → l[j]? = out[j - 1]?) →
      ∃ l' : List Move, l'.length = out.length + 1 ∧ (∀ j, j < a → l'[j]? = out[j]?) ∧ (∀ j, a < j → l'[j]? = out[j - 1]?) ∧
        f123.l2 L N K n xs i (a : Int) (k : Int) l = K xs i (a : Int) l' := by
  intro n
  induction n with
  | zero => intro k l _ _ _ h; omega
  | succ n ih =>
    intro k l hl hak hk hn h1 h2
    show ∃ l' : List Move, _ ∧ _ ∧ _ ∧ f123.s2 L N _ (f123.l2 L N _ n) xs i (a : Int) (k : Int) l = _
    unfold f123.s2 f123.s2'
    by_cases h0 : a < k
    · have hk1 : k - 1 < l.length := by omega
      have hk2 : k < l.length := by omega
      rw [show decide ((k : Int) > (a : Int)) = true from decide_eq_true (by omega)]
      simp only [cond_true, le0, pred_cast (show 0 < k by omega) (by omega), lt_cast hk1, lt_cast hk2, Bool.and_true, Int.toNat_natCast, at_lt hk1]
      refine ih (k - 1) _ (by simp [hl]) (by omega) (by omega) (by omega) (fun j hj => ?_) (fun j hj => ?_)
      · rw [List.getElem?_set_ne (by omega)]; exact h1 j (by omega)
      · by_cases e : j = k
        · subst e
          rw [List.getElem?_set_self hk2, ← h1 (j - 1) (by omega), List.getElem?_eq_getElem hk1]
        · rw [List.getElem?_set_ne (by omega)]; exact h2 j (by omega)
    · have hk0 : k = a := by omega
      subst hk0
      rw [show decide ((k : Int) > (k : Int)) = false from decide_eq_false (by omega)]
      simp only [cond_false]
      exact ⟨l, hl, h1, h2, rfl⟩
theorem ins_rises {out : List Move} {x : Move} {a : Nat} (hr : RisesM out) (ha : a ≤ out.length) (hge : ∀ j (hj : j < out.length), a ≤ j → lessM x out[j] = true) (hlt : ∀ (h : 0 < a) (hj : a - 1 < out.length), lessM out[a - 1] x = true) :
    RisesM (out.take a ++ x :: out.drop a) := by
  unfold RisesM
  rw [List.pairwise_append, List.pairwise_cons]
  have hd : ∀ y ∈ out.drop a, lessM x y = true := fun y hy => by
    obtain ⟨j, hj, rfl⟩ := List.mem_iff_getElem.1 hy
    rw [List.getElem_drop]
    exact hge _ _ (by omega)
  have ht : ∀ y ∈ out.take a, lessM y x = true := fun y hy => by
    obtain ⟨j, hj, rfl⟩ := List.mem_iff_getElem.1 hy
    rw [List.length_take] at hj
    rw [List.getElem_take]
    have h1 := hlt (by omega) (by omega)
    by_cases e : j = a - 1
    · subst e; exact h1
    · exact less_trans (List.pairwise_iff_getElem.1 hr j (a - 1) (by omega) (by omega) (by omega)) h1
  refine ⟨List.Pairwise.sublist (List.take_sublist _ _) hr, ⟨hd, List.Pairwise.sublist (List.drop_sublist _ _) hr⟩, fun y hy z hz => ?_⟩
  rcases List.mem_cons.1 hz with rfl | hz
  · exact ht y hy
  · exact less_trans (ht y hy) (hd z hz)
theorem l3Sorted_ok (L N : Nat) (xs : List Move) (hx : xs.length ≤ 1099511627776) (hL : xs.length + 2 < L) :
    ∃ ys, f123 L N xs = some ys ∧ RisesM ys ∧ (∀ v, v ∈ ys ↔ v ∈ xs) ∧ ys.length ≤ xs.length := by
  have hlim := lim_eq
  show ∃ ys, f123.b L N some xs = some ys ∧ _
  unfold f123.b f123.b'
  have key : ∀ (n i : Nat) (out : List Move), i ≤ xs.length → xs.length - i < n → out.length ≤ i → RisesM out → (∀ v, v ∈ out ↔ v ∈ xs.take i) →
      ∃ ys, f123.l0 L N (fun z3 => f123.p0_e0 L N some z3) n xs (i : Int) out = some ys ∧ RisesM ys ∧ (∀ v, v ∈ ys ↔ v ∈ xs) ∧ ys.length ≤ xs.length := by
    intro n
    induction n with
    | zero => intro i out _ h; omega
    | succ n ih =>
      intro i out hi hn hlen hr hmem
      show ∃ ys, f123.s0 L N _ (f123.l0 L N _ n) xs (i : Int) out = _ ∧ _
      unfold f123.s0 f123.s0'
      by_cases hlt : i < xs.length
      · simp only [lt_cast hlt, cond_true]
        obtain ⟨a, ha, hge, hla, e⟩ := l3s1 L N (fun z14 z15 z16 z17 => f123.p1_e2 L N (fun z3 => f123.p0_e0 L N some z3) (f123.l0 L N (fun z3 => f123.p0_e0 L N some z3) n) z14 z15 z16 z17) xs out i hlt (by omega) L out.length (Nat.le_refl _) (by omega) (fun j hj h => absurd hj (by omega))
        have hmem' : ∀ v, v ∈ xs.take (i + 1) ↔ v ∈ xs.take i ∨ v = xs[i] := fun v => by
          rw [List.take_add_one, List.getElem?_eq_getElem hlt]; simp only [Option.toList_some, List.mem_append, List.mem_singleton]
        have hwi : wi ((i : Int) + 1) = ((i + 1 : Nat) : Int) := wi_nat (by omega)
        rw [e]
        have tail : (∀ (h : 0 < a) (hj : a - 1 < out.length), lessM out[a - 1] xs[i] = true) → ∃ ys, f123.j0' L N (fun z3 => f123.p0_e0 L N some z3) (f123.l0 L N (fun z3 => f123.p0_e0 L N some z3) n) (f123.l2 L N (fun z36 z37 z38 z39 => f123.p2_e4 L N (fun z3 => f123.p0_e0 L N some z3) (f123.l0 L N (fun z3 => f123.p0_e0 L N some z3) n) z36 z37 z38 z39) L) xs (i : Int) (a : Int) out = some ys ∧ RisesM ys ∧ (∀ v, v ∈ ys ↔ v ∈ xs) ∧ ys.length ≤ xs.length := by
          intro hlt2
          unfold f123.j0'
          have hle : decide (out.length + ([(Move.mk (0 : Int) (0 : Int))] : (List Move)).length ≤ lim) = true := dt (by simp only [List.length_cons, List.length_nil]; omega)
          rw [hle, cond_true, List.length_append, show ([(Move.mk (0 : Int) (0 : Int))] : List Move).length = 1 from rfl, pred_cast (by omega) (by omega), show out.length + 1 - 1 = out.length by omega]
          obtain ⟨l', q1, q2, q3, e2⟩ := l3s2 L N (fun z36 z37 z38 z39 => f123.p2_e4 L N (fun z3 => f123.p0_e0 L N some z3) (f123.l0 L N (fun z3 => f123.p0_e0 L N some z3) n) z36 z37 z38 z39) xs out (i : Int) a (by omega) L out.length (out ++ [Move.mk 0 0]) (by simp) ha (Nat.le_refl _) (by omega)
            (fun j hj => by rw [List.getElem?_append_left hj]) (fun j hj => by rw [List.getElem?_eq_none (by simp; omega), List.getElem?_eq_none (by omega)])
          rw [e2]
          unfold f123.p2_e4 f123.p2_e4'
          have hal : a < l'.length := by omega
          simp only [le0, lt_cast hlt, lt_cast hal, Bool.and_true, cond_true, Int.toNat_natCast, at_lt hlt, hwi]
          have hset : l'.set a xs[i] = out.take a ++ xs[i] :: out.drop a := by
            apply List.ext_getElem?
            intro j
            rcases Nat.lt_trichotomy j a with h | h | h
            · rw [List.getElem?_set_ne (by omega), q2 j h, List.getElem?_append_left (by rw [List.length_take]; omega), List.getElem?_take, if_pos h]
            · subst h
              rw [List.getElem?_set_self hal, List.getElem?_append_right (by rw [List.length_take]; omega), List.length_take, show j - min j out.length = 0 by omega]
              rfl
            · rw [List.getElem?_set_ne (by omega), q3 j h, List.getElem?_append_right (by rw [List.length_take]; omega), List.length_take, show j - min a out.length = (j - 1 - a) + 1 by omega, List.getElem?_cons_succ, List.getElem?_drop, show a + (j - 1 - a) = j - 1 by omega]
          rw [hset]
          refine ih (i + 1) _ (by omega) (by omega) (by simp only [List.length_append, List.length_cons, List.length_take, List.length_drop]; omega) (ins_rises hr ha hge hlt2) fun v => ?_
          rw [hmem' v, ← hmem v, List.mem_append, List.mem_cons]
          constructor
          · rintro (h | h | h)
            · exact .inl (List.mem_of_mem_take h)
            · exact .inr h
            · exact .inl (List.mem_of_mem_drop h)
          · rintro (h | h)
            · rw [← List.take_append_drop a out, List.mem_append] at h
              rcases h with h | h
              · exact .inl h
              · exact .inr (.inr h)
            · exact .inr (.inl h)
        show ∃ ys, f123.p1_e2' L N _ _ _ xs (i : Int) (a : Int) out = some ys ∧ _
        unfold f123.p1_e2'
        by_cases h0 : 0 < a
        · have ha1 : a - 1 < out.length := by omega
          rw [show decide ((a : Int) > 0) = true from decide_eq_true (by omega)]
          simp only [cond_true, le0, pred_cast h0 (by omega), lt_cast ha1, lt_cast hlt, Bool.and_true, Int.toNat_natCast, at_lt ha1, at_lt hlt, hwi]
          cases hb : Move.eqb out[a - 1] xs[i] with
          | true =>
            simp only [cond_true]
            have he : out[a - 1] = xs[i] := by
              simp only [Move.eqb, Bool.and_eq_true, beq_iff_eq] at hb
              have h1 := hb.1; have h2 := hb.2
              rw [← mv_eta out[a - 1], ← mv_eta xs[i], h1, h2]
            refine ih (i + 1) out (by omega) (by omega) (by omega) hr fun v => ?_
            rw [hmem' v, ← hmem v]
            constructor
            · exact .inl
            · rintro (h | h)
              · exact h
              · rw [h, ← he]; exact List.getElem_mem ha1
          | false =>
            simp only [cond_false]
            refine tail fun h hj => less_tot (hla h hj) fun e => ?_
            rw [e] at hb
            simp [Move.eqb] at hb
        · rw [show decide ((a : Int) > 0) = false from decide_eq_false (by omega)]
          simp only [cond_false]
          exact tail fun h => absurd h h0
      · simp only [ge_cast hlt, cond_false]
        have hi' : i = xs.length := by omega
        subst hi'
        rw [List.take_length] at hmem
        exact ⟨out, rfl, hr, hmem, hlen⟩
  exact key L 0 [] (by omega) (by omega) (Nat.le_refl _) List.Pairwise.nil (fun v => by simp)
end Go.Proofs.Ytdfjdbpklbehoaa.Ev
namespace Go.Proofs.Ytdfjdbpklbehoaa.Ev
open Go
set_option linter.unusedVariables false
set_option linter.unusedSimpArgs false
theorem leM_iff (x y : Move) : leM x y = true ↔ lessM x y = true ∨ x = y := by
  unfold leM lessM
  obtain ⟨a, b⟩ := x
  obtain ⟨c, d⟩ := y
  simp only [decide_eq_true_eq, Move.mk.injEq]
  omega
theorem sortM_le (xs : List Move) : (sortM xs).Pairwise fun a b => leM a b = true := by
  refine List.pairwise_mergeSort (fun a b c h1 h2 => ?_) (fun a b => ?_) xs
  · rw [leM_iff] at *
    rcases h1 with h1 | rfl
    · rcases h2 with h2 | rfl
      · exact .inl (less_trans h1 h2)
      · exact .inl h1
    · exact h2
  · unfold leM
    simp only [Bool.or_eq_true, decide_eq_true_eq]
    omega
theorem getM {zs : List Move} {i : Nat} (h : i < zs.length) : (zs.toArray)[i]! = zs[i] := by simp [getElem!_pos, h]
theorem compact_rises {zs : List Move} (hs : zs.Pairwise fun a b => leM a b = true) : RisesM (Go.Lib.compact zs) := by
  unfold RisesM Go.Lib.compact Go.Lib.compactUpTo
  rw [List.pairwise_map]
  refine List.Pairwise.imp_of_mem ?_ (List.Pairwise.filter _ List.pairwise_lt_range)
  intro i j hi hj hij
  rw [List.mem_filter, List.mem_range] at hi hj
  have hjl := hj.1
  rw [getM hi.1, getM hj.1]
  have hk := hj.2
  unfold Go.Lib.keeps at hk
  have hk := of_decide_eq_true hk
  have hne : zs[j] ≠ zs[j - 1] := by
    rcases hk with h | h
    · omega
    · rwa [getM hj.1, getM (show j - 1 < zs.length by omega)] at h
  have hlast : lessM zs[j - 1] zs[j] = true := by
    rcases (leM_iff _ _).1 (List.pairwise_iff_getElem.1 hs (j - 1) j (by omega) (by omega) (by omega)) with h | h
    · exact h
    · exact absurd h.symm hne
  by_cases e : i = j - 1
  · subst e; exact hlast
  · rcases (leM_iff _ _).1 (List.pairwise_iff_getElem.1 hs i (j - 1) (by omega) (by omega) (by omega)) with h | h
    · exact less_trans h hlast
    · rw [h]; exact hlast
theorem compact_mem (zs : List Move) (v : Move) : v ∈ Go.Lib.compact zs ↔ v ∈ zs := by
  unfold Go.Lib.compact Go.Lib.compactUpTo
  rw [List.mem_map]
  constructor
  · rintro ⟨i, hi, rfl⟩
    rw [List.mem_filter, List.mem_range] at hi
    rw [getM hi.1]; exact List.getElem_mem hi.1
  · intro hv
    obtain ⟨i, hi, rfl⟩ := List.mem_iff_getElem.1 hv
    clear hv
    induction i with
    | zero => exact ⟨0, by rw [List.mem_filter, List.mem_range]; exact ⟨hi, by simp [Go.Lib.keeps]⟩, getM hi⟩
    | succ i ih =>
      by_cases hk : Go.Lib.keeps zs.toArray (i + 1) = true
      · exact ⟨i + 1, by rw [List.mem_filter, List.mem_range]; exact ⟨hi, hk⟩, getM hi⟩
      · have : zs[i + 1] = zs[i] := by
          unfold Go.Lib.keeps at hk
          have hk : ¬ (i + 1 = 0 ∨ zs.toArray[i + 1]! ≠ zs.toArray[i + 1 - 1]!) := fun h => hk (decide_eq_true h)
          have h2 := Classical.not_not.1 (fun h => hk (.inr h))
          rw [getM hi, Nat.add_sub_cancel, getM (show i < zs.length by omega)] at h2
          exact h2
        rw [this]
        exact ih (by omega)
theorem tidyM_rises (xs : List Move) : RisesM (tidyM xs) := compact_rises (sortM_le xs)
theorem tidyM_mem (xs : List Move) (v : Move) : v ∈ tidyM xs ↔ v ∈ xs := (compact_mem _ v).trans (sortM_mem xs v)
theorem fsortM_some {xs : List Move} (h : xs.length ≤ 1099511627776) : fsortM xs = some () := by
  unfold fsortM; rw [show decide (xs.length ≤ lim) = true from decide_eq_true (by rw [lim_eq]; exact h)]; rfl
end Go.Proofs.Ytdfjdbpklbehoaa.Ev
namespace Go.Proofs.Ytdfjdbpklbehoaa.Ev
open Go
set_option linter.unusedVariables false
set_option linter.unusedSimpArgs false
def NextE (E : Nat → Nat → Prop) (n : Nat) (q : List Int) : Prop := q.length = n ∧ ∀ (i : Nat) (hi : i < q.length), ∃ j : Nat, q[i] = (j : Int) ∧ j ≤ i ∧ E j i ∧ ∀ j', j' < j → ¬ E j' i
theorem NextE.uniq {E : Nat → Nat → Prop} {n : Nat} {q q' : List Int} (h : NextE E n q) (h' : NextE E n q') : q = q' := by
  apply List.ext_getElem
  · rw [h.1, h'.1]
  · intro i h1 h2
    obtain ⟨j, a1, a2, a3, a4⟩ := h.2 i h1
    obtain ⟨k, b1, b2, b3, b4⟩ := h'.2 i h2
    have : j = k := by
      rcases Nat.lt_trichotomy j k with h | h | h
      · exact absurd a3 (b4 j h)
      · exact h
      · exact absurd b3 (a4 k h)
    rw [a1, b1, this]
theorem NextE.congr {E F : Nat → Nat → Prop} {n : Nat} {q : List Int} (h : NextE E n q) (he : ∀ i j, j ≤ i → i < n → (E j i ↔ F j i)) : NextE F n q :=
  ⟨h.1, fun i hi => by
    obtain ⟨j, a1, a2, a3, a4⟩ := h.2 i hi
    have hn : i < n := by rw [← h.1]; exact hi
    exact ⟨j, a1, a2, (he i j a2 hn).1 a3, fun j' hj' hf => a4 j' hj' ((he i j' (by omega) hn).2 hf)⟩⟩
def Low (p : List Int) : Prop := ∀ (i : Nat) (hi : i < p.length), 0 ≤ p[i] ∧ p[i] ≤ (i : Int)
theorem low_zero (n : Nat) : Low (List.replicate n (0 : Int)) := fun i hi => by rw [List.getElem_replicate]; omega
theorem NextE.low {E : Nat → Nat → Prop} {n : Nat} {q : List Int} (h : NextE E n q) : Low q := fun i hi => by
  obtain ⟨j, a1, a2, -⟩ := h.2 i hi
  rw [a1]; omega
theorem NextE.ge {E : Nat → Nat → Prop} {n : Nat} {p q : List Int} (h : NextE E n q) (hp : p.length = n) (hl : Low p) (hE : ∀ j i, E j i → p.getD j 0 = p.getD i 0) : ∀ (i : Nat) (h1 : i < p.length) (h2 : i < q.length), p[i] ≤ q[i] := fun i h1 h2 => by
  obtain ⟨j, a1, a2, a3, -⟩ := h.2 i h2
  have e := hE j i a3
  have hj : j < p.length := by omega
  rw [getD_lt h1, getD_lt hj] at e
  have := (hl j hj).2
  rw [a1]; omega
def wgt (p : List Int) : Nat := (p.map Int.toNat).sum
theorem wgt_lt : ∀ {p q : List Int}, p.length = q.length → (∀ (i : Nat) (h1 : i < p.length) (h2 : i < q.length), 0 ≤ p[i] ∧ p[i] ≤ q[i]) → p ≠ q → wgt p < wgt q
  | [], [], _, _, h => absurd rfl h
  | [], _ :: _, h, _, _ => by simp at h
  | _ :: _, [], h, _, _ => by simp at h
  | a :: p, b :: q, hl, hle, hne => by
    have h0 := hle 0 (by simp) (by simp)
    have hl' : p.length = q.length := by simpa using hl
    have htl : ∀ (i : Nat) (h1 : i < p.length) (h2 : i < q.length), 0 ≤ p[i] ∧ p[i] ≤ q[i] := fun i h1 h2 => hle (i + 1) (by simp; omega) (by simp; omega)
    simp only [List.getElem_cons_zero] at h0
    unfold wgt
    rw [List.map_cons, List.map_cons, List.sum_cons, List.sum_cons]
    by_cases e : a = b
    · subst e
      have := wgt_lt hl' htl (fun e => hne (by rw [e]))
      unfold wgt at this
      omega
    · by_cases e2 : p = q
      · subst e2; omega
      · have := wgt_lt hl' htl e2
        unfold wgt at this
        omega
theorem wgt_le : ∀ {p : List Int} {B : Nat}, (∀ x ∈ p, x ≤ (B : Int)) → wgt p ≤ p.length * B
  | [], _, _ => by simp [wgt]
  | a :: p, B, h => by
    have h1 := h a (.head _)
    have h2 := wgt_le (p := p) (B := B) fun x hx => h x (.tail _ hx)
    unfold wgt at h2 ⊢
    rw [List.map_cons, List.sum_cons, List.length_cons, Nat.add_mul, Nat.one_mul]
    omega
def Sig (ms : List (List Move)) (p : List Int) (i : Nat) (m : Move) : Prop := ∃ (h : i < ms.length) (k : Nat) (hk : k < (ms[i]).length), m.act = (ms[i])[k].act ∧ m.to = p.getD (ms[i])[k].to.toNat 0
def Akin (ms : List (List Move)) (p : List Int) (j i : Nat) : Prop := p.getD j 0 = p.getD i 0 ∧ ∀ m, Sig ms p i m ↔ Sig ms p j m
theorem Akin.refl (ms : List (List Move)) (p : List Int) (i : Nat) : Akin ms p i i := ⟨rfl, fun _ => Iff.rfl⟩
theorem l4Same_ok (L N : Nat) (a b : List Int) (hL : a.length < L) (hl : a.length ≤ 1048576) : ∃ r, f116 L N a b = some r ∧ (r = true ↔ a = b) := by
  show ∃ r, f116.b L N some a b = some r ∧ _
  unfold f116.b f116.b'
  by_cases he : a.length = b.length
  · have : ((a.length : Int) != (b.length : Int)) = false := by simp [he]
    rw [this, cond_false]
    have key : ∀ (n i : Nat), i ≤ a.length → a.length - i < n → (∀ j (h1 : j < a.length) (h2 : j < b.length), j < i → a[j] = b[j]) →
        ∃ r, f116.l0 L N (f116.p0_e0 L N some) (fun z3 => f116.p0_r L N some z3) n a b (i : Int) = some r ∧ (r = true ↔ a = b) := by
      intro n
      induction n with
      | zero => intro i _ h; omega
      | succ n ih =>
        intro i hi hn hs
        show ∃ r, f116.s0 L N _ _ (f116.l0 L N _ _ n) a b (i : Int) = some r ∧ _
        unfold f116.s0 f116.s0'
        by_cases hlt : i < a.length
        · have hlt' : i < b.length := by omega
          simp only [le0, lt_cast hlt, lt_cast hlt', Bool.and_true, cond_true, Int.toNat_natCast, at_lt hlt, at_lt hlt']
          by_cases h1 : a[i] = b[i]
          · rw [show (a[i] != b[i]) = false by simpa using h1, cond_false, wi_nat (by omega)]
            refine ih (i + 1) (by omega) (by omega) fun j h2 h3 h4 => ?_
            by_cases e : j = i
            · subst e; exact h1
            · exact hs j h2 h3 (by omega)
          · rw [show (a[i] != b[i]) = true by simpa using h1, cond_true]
            refine ⟨false, rfl, ?_⟩
            simp only [Bool.false_eq_true, false_iff]
            intro e
            subst e
            exact h1 rfl
        · simp only [ge_cast hlt, cond_false]
          refine ⟨true, rfl, ?_⟩
          simp only [true_iff]
          exact List.ext_getElem he fun j h1 h2 => hs j h1 h2 (by omega)
    exact key L 0 (by omega) (by omega) (fun _ _ _ h => by omega)
  · have : ((a.length : Int) != (b.length : Int)) = true := by simp; omega
    rw [this, cond_true]
    refine ⟨false, rfl, ?_⟩
    simp only [Bool.false_eq_true, false_iff]
    intro e
    exact he (by rw [e])
theorem equalI_ok (L N : Nat) (a b : List Int) (hL : a.length < L) (hl : a.length ≤ 1048576) : ∃ r, f119 L N a b = some r ∧ (r = true ↔ a = b) := by
  show ∃ r, f119.b L N some a b = some r ∧ _
  unfold f119.b f119.b'
  by_cases he : a.length = b.length
  · have : ((a.length : Int) != (b.length : Int)) = false := by simp [he]
    rw [this, cond_false]
    have key : ∀ (n i : Nat), i ≤ a.length → a.length - i < n → (∀ j (h1 : j < a.length) (h2 : j < b.length), j < i → a[j] = b[j]) →
        ∃ r, f119.l0 L N (f119.p0_e0 L N some) (fun z3 => f119.p0_r L N some z3) n a b (a.length : Int) (i : Int) = some r ∧ (r = true ↔ a = b) := by
      intro n
      induction n with
      | zero => intro i _ h; omega
      | succ n ih =>
        intro i hi hn hs
        show ∃ r, f119.s0 L N _ _ (f119.l0 L N _ _ n) a b (a.length : Int) (i : Int) = some r ∧ _
        unfold f119.s0 f119.s0'
        by_cases hlt : i < a.length
        · have hlt' : i < b.length := by omega
          simp only [le0, lt_cast hlt, lt_cast hlt', Bool.and_true, cond_true, Int.toNat_natCast, at_lt hlt, at_lt hlt']
          by_cases h1 : a[i] = b[i]
          · rw [show (a[i] != b[i]) = false by simpa using h1, cond_false, wi_nat (by omega)]
            refine ih (i + 1) (by omega) (by omega) fun j h2 h3 h4 => ?_
            by_cases e : j = i
            · subst e; exact h1
            · exact hs j h2 h3 (by omega)
          · rw [show (a[i] != b[i]) = true by simpa using h1, cond_true]
            refine ⟨false, rfl, ?_⟩
            simp only [Bool.false_eq_true, false_iff]
            intro e
            subst e
            exact h1 rfl
        · simp only [ge_cast hlt, cond_false]
          refine ⟨true, rfl, ?_⟩
          simp only [true_iff]
          exact List.ext_getElem he fun j h1 h2 => hs j h1 h2 (by omega)
    exact key L 0 (by omega) (by omega) (fun _ _ _ h => by omega)
  · have : ((a.length : Int) != (b.length : Int)) = true := by simp; omega
    rw [this, cond_true]
    refine ⟨false, rfl, ?_⟩
    simp only [Bool.false_eq_true, false_iff]
    intro e
    exact he (by rw [e])
end Go.Proofs.Ytdfjdbpklbehoaa.Ev
namespace Go.Proofs.Ytdfjdbpklbehoaa.Ev
open Go
set_option linter.unusedVariables false
set_option linter.unusedSimpArgs false
theorem equalMA_ok (L N : Nat) (a b : List Move) (hL : a.length < L) (hl : a.length ≤ 1099511627776) : ∃ r, f142 L N a b = some r ∧ (r = true ↔ a = b) := by
  show ∃ r, f142.b L N some a b = some r ∧ _
  unfold f142.b f142.b'
  have eqb : ∀ x y : Move, Move.eqb x y = true ↔ x = y := fun x y => by
    constructor
    · intro h
      simp only [Move.eqb, Bool.and_eq_true, beq_iff_eq] at h
      rw [← mv_eta x, ← mv_eta y, h.1, h.2]
    · rintro rfl; simp [Move.eqb]
  by_cases he : a.length = b.length
  · have : ((a.length : Int) != (b.length : Int)) = false := by simp [he]
    rw [this, cond_false]
    have key : ∀ (n i : Nat), i ≤ a.length → a.length - i < n → (∀ j (h1 : j < a.length) (h2 : j < b.length), j < i → a[j] = b[j]) →
        ∃ r, f142.l0 L N (f142.p0_e0 L N some) (fun z4 => f142.p0_r L N some z4) n a b (a.length : Int) (i : Int) = some r ∧ (r = true ↔ a = b) := by
      intro n
      induction n with
      | zero => intro i _ h; omega
      | succ n ih =>
        intro i hi hn hs
        show ∃ r, f142.s0 L N _ _ (f142.l0 L N _ _ n) a b (a.length : Int) (i : Int) = some r ∧ _
        unfold f142.s0 f142.s0'
        by_cases hlt : i < a.length
        · have hlt' : i < b.length := by omega
          simp only [le0, lt_cast hlt, lt_cast hlt', Bool.and_true, cond_true, Int.toNat_natCast, at_lt hlt, at_lt hlt']
          cases h0 : Move.eqb a[i] b[i] with
          | true =>
            have h1 := (eqb _ _).1 h0
            rw [Bool.not_true, cond_false, wi_nat (by omega)]
            refine ih (i + 1) (by omega) (by omega) fun j h2 h3 h4 => ?_
            by_cases e : j = i
            · subst e; exact h1
            · exact hs j h2 h3 (by omega)
          | false =>
            rw [Bool.not_false, cond_true]
            refine ⟨false, rfl, ?_⟩
            simp only [Bool.false_eq_true, false_iff]
            intro e
            subst e
            rw [(eqb _ _).2 rfl] at h0; cases h0
        · simp only [ge_cast hlt, cond_false]
          refine ⟨true, rfl, ?_⟩
          simp only [true_iff]
          exact List.ext_getElem he fun j h1 h2 => hs j h1 h2 (by omega)
    exact key L 0 (by omega) (by omega) (fun _ _ _ h => by omega)
  · have : ((a.length : Int) != (b.length : Int)) = true := by simp; omega
    rw [this, cond_true]
    refine ⟨false, rfl, ?_⟩
    simp only [Bool.false_eq_true, false_iff]
    intro e
    exact he (by rw [e])
theorem refineA_ok (L N : Nat) (ms : List (List Move)) (hn60 : ms.length ≤ 60) (hL : 8589934592 ≤ L) (p : List Int) (hp : p.length = ms.length) (key : Nat → List Move) (hkl : ∀ i, (key i).length ≤ 3774873660)
    (hkey : ∀ i, i < ms.length → f118_2 L N (i : Int) ms p = some (key i)) :
    ∃ q, f117_2 L N p ms p = some q ∧ NextE (fun j i => p.getD j 0 = p.getD i 0 ∧ key j = key i) ms.length q := by
  have hlim := lim_eq
  have inner : ∀ {R : Type} (K : List Int → List (List Move) → List Int → Int → Int → List Int → List (List Move) → Option R) (i : Nat) (hi : i < ms.length) (out : List Int) (keys : List (List Move)), out.length = ms.length → keys.length = ms.length → (∀ j, j ≤ i → keys.getD j [] = key j) → ∀ (n j : Nat), j ≤ i → i - j < n → (∀ j', j' < j → ¬ (p.getD j' 0 = p.getD i 0 ∧ key j' = key i)) → out.getD i 0 = (i : Int) →
      ∃ (b : Nat) (out' : List Int), b ≤ i ∧ (p.getD b 0 = p.getD i 0 ∧ key b = key i) ∧ (∀ j', j' < b → ¬ (p.getD j' 0 = p.getD i 0 ∧ key j' = key i)) ∧ out' = out.set i (b : Int) ∧ f117_2.l1 L N K n p ms p (i : Int) (j : Int) (ms.length : Int) (i : Int) out keys = K p ms p (ms.length : Int) (i : Int) out' keys := by
    intro R K i hi out keys ho hk hks n
    induction n with
    | zero => intro j _ h; omega
    | succ n ih =>
      intro j hj hn hno hoi
      show ∃ (b : Nat) (out' : List Int), _ ∧ _ ∧ _ ∧ _ ∧ f117_2.s1 L N _ (f117_2.l1 L N _ n) p ms p (i : Int) (j : Int) (ms.length : Int) (i : Int) out keys = _
      unfold f117_2.s1 f117_2.s1'
      by_cases hlt : j < i
      · have hjp : j < p.length := by omega
        have hip : i < p.length := by omega
        have hjk : j < keys.length := by omega
        have hik : i < keys.length := by omega
        have hio : i < out.length := by omega
        simp only [lt_cast hlt, le0, lt_cast hjp, lt_cast hip, lt_cast hjk, lt_cast hik, Bool.and_true, cond_true, Int.toNat_natCast, atD, hks j (by omega), hks i (by omega)]
        have stay : ¬ (p.getD j 0 = p.getD i 0 ∧ key j = key i) → ∃ (b : Nat) (out' : List Int), b ≤ i ∧ (p.getD b 0 = p.getD i 0 ∧ key b = key i) ∧ (∀ j', j' < b → ¬ (p.getD j' 0 = p.getD i 0 ∧ key j' = key i)) ∧ out' = out.set i (b : Int) ∧ f117_2.l1 L N K n p ms p (i : Int) (wi ((j : Int) + 1)) (ms.length : Int) (i : Int) out keys = K p ms p (ms.length : Int) (i : Int) out' keys := fun hne => by
          rw [wi_nat (by omega)]
          refine ih (j + 1) (by omega) (by omega) (fun j' h => ?_) hoi
          by_cases e : j' = j
          · subst e; exact hne
          · exact hno j' (by omega)
        by_cases h1 : p.getD j 0 = p.getD i 0
        · obtain ⟨r, e1, f1⟩ := equalMA_ok L N (key j) (key i) (by have := hkl j; omega) (by have := hkl j; omega)
          rw [show (p.getD j 0 == p.getD i 0) = true by simpa using h1, cond_true, e1, Option.bind_some]
          unfold f117_2.j0'
          cases r with
          | true =>
            simp only [cond_true, le0, lt_cast hio, Bool.and_true, Int.toNat_natCast]
            exact ⟨j, _, by omega, ⟨h1, f1.1 rfl⟩, hno, rfl, rfl⟩
          | false =>
            rw [cond_false]
            exact stay fun h => absurd (f1.2 h.2) (by simp)
        · rw [show (p.getD j 0 == p.getD i 0) = false by simpa using h1, cond_false]
          unfold f117_2.j0'
          rw [cond_false]
          exact stay fun h => h1 h.1
      · have hji : j = i := by omega
        subst hji
        simp only [ge_cast (Nat.lt_irrefl _), cond_false]
        refine ⟨j, _, Nat.le_refl _, ⟨rfl, rfl⟩, hno, rfl, ?_⟩
        have hio : j < out.length := by omega
        rw [getD_lt hio] at hoi
        rw [← hoi, List.set_getElem_self]
  show ∃ q, f117_2.b L N some p ms p = some q ∧ _
  unfold f117_2.b f117_2.b'
  have h0 : decide ((ms.length : Int) ≤ (lim : Int)) = true := dt (by omega)
  have e0 : ((ms.length : Int)).toNat = ms.length := rfl
  simp only [hp, le0, h0, Bool.and_true, cond_true, e0]
  have key0 : ∀ (n i : Nat) (out : List Int) (keys : List (List Move)), out.length = ms.length → keys.length = ms.length → i ≤ ms.length → ms.length - i < n → (∀ j, j < i → keys.getD j [] = key j) → (∀ i', i' < i → ∃ j : Nat, out.getD i' 0 = (j : Int) ∧ j ≤ i' ∧ (p.getD j 0 = p.getD i' 0 ∧ key j = key i') ∧ ∀ j', j' < j → ¬ (p.getD j' 0 = p.getD i' 0 ∧ key j' = key i')) →
      ∃ q, f117_2.l0 L N (fun z7 => f117_2.p0_e0 L N some z7) n p ms p (ms.length : Int) (i : Int) out keys = some q ∧ NextE (fun j i => p.getD j 0 = p.getD i 0 ∧ key j = key i) ms.length q := by
    intro n
    induction n with
    | zero => intro i out keys _ _ _ h; omega
    | succ n ih =>
      intro i out keys ho hk hi hn hks hout
      show ∃ q, f117_2.s0 L N _ (f117_2.l0 L N _ n) p ms p (ms.length : Int) (i : Int) out keys = some q ∧ _
      unfold f117_2.s0 f117_2.s0'
      by_cases hlt : i < ms.length
      · have hio : i < out.length := by omega
        have hik : i < keys.length := by omega
        simp only [lt_cast hlt, cond_true, hkey i hlt, Option.bind_some, le0, lt_cast hio, lt_cast hik, Bool.and_true, Int.toNat_natCast]
        have hks' : ∀ j, j ≤ i → (keys.set i (key i)).getD j [] = key j := fun j hj => by
          by_cases e : j = i
          · subst e; rw [getD_lt (by simpa using hik), List.getElem_set_self]
          · rw [List.getD, List.getElem?_set_ne (by omega), ← List.getD]; exact hks j (by omega)
        obtain ⟨b, out', q1, q2, q3, q4, e⟩ := inner (fun z18 z19 z20 z21 z22 z23 z24 => f117_2.p1_e2 L N (fun z7 => f117_2.p0_e0 L N some z7) (f117_2.l0 L N (fun z7 => f117_2.p0_e0 L N some z7) n) z18 z19 z20 z21 z22 z23 z24) i hlt (out.set i (i : Int)) (keys.set i (key i)) (by simp [ho]) (by simp [hk]) hks' L 0 (by omega) (by omega) (fun j' h => by omega) (by rw [getD_lt (by simpa using hio), List.getElem_set_self])
        refine (show ∃ q, _ = some q ∧ _ from ?_)
        have e' : f117_2.l1 L N (fun z18 z19 z20 z21 z22 z23 z24 => f117_2.p1_e2 L N (fun z7 => f117_2.p0_e0 L N some z7) (f117_2.l0 L N (fun z7 => f117_2.p0_e0 L N some z7) n) z18 z19 z20 z21 z22 z23 z24) L p ms p (i : Int) (0 : Int) (ms.length : Int) (i : Int) (out.set i (i : Int)) (keys.set i (key i)) = _ := e
        rw [e']
        show ∃ q, f117_2.p1_e2' L N _ _ p ms p (ms.length : Int) (i : Int) out' (keys.set i (key i)) = some q ∧ _
        unfold f117_2.p1_e2'
        rw [wi_nat (by omega)]
        have hset : (out.set i (i : Int)).set i (b : Int) = out.set i (b : Int) := by rw [List.set_set]
        refine ih (i + 1) out' _ (by rw [q4]; simp [ho]) (by simp [hk]) (by omega) (by omega) (fun j hj => hks' j (by omega)) fun i' hi' => ?_
        rw [q4, hset]
        by_cases e : i' = i
        · subst e
          exact ⟨b, by rw [getD_lt (by simpa using hio), List.getElem_set_self], q1, q2, q3⟩
        · obtain ⟨j, r1, r2⟩ := hout i' (by omega)
          exact ⟨j, by rw [List.getD, List.getElem?_set_ne (by omega), ← List.getD]; exact r1, r2⟩
      · simp only [ge_cast hlt, cond_false]
        have hi' : i = ms.length := by omega
        subst hi'
        refine ⟨out, rfl, ho, fun i hi => ?_⟩
        obtain ⟨j, r1, r2⟩ := hout i (by omega)
        rw [getD_lt hi] at r1
        exact ⟨j, r1, r2⟩
  exact key0 L 0 (List.replicate ms.length (0 : Int)) (List.replicate ms.length ([] : List Move)) List.length_replicate List.length_replicate (by omega) (by omega) (fun j h => by omega) (fun i' h => by omega)
end Go.Proofs.Ytdfjdbpklbehoaa.Ev
namespace Go.Proofs.Ytdfjdbpklbehoaa.Ev
open Go
set_option linter.unusedVariables false
set_option linter.unusedSimpArgs false
def sigRow (ms : List (List Move)) (p : List Int) (i : Nat) : List Move := (ms.getD i []).map fun m => Move.mk m.act (p.getD m.to.toNat 0)
def alikeKey (ms : List (List Move)) (p : List Int) (i : Nat) : List Move := tidyM (sigRow ms p i)
theorem sigRow_len {ms : List (List Move)} (hm : Leads ms) (p : List Int) (i : Nat) : (sigRow ms p i).length ≤ 1048576 := by
  unfold sigRow
  rw [List.length_map]
  by_cases h : i < ms.length
  · rw [getD_lt h]; exact (hm.2 i h).1
  · rw [List.getD, List.getElem?_eq_none (by omega)]; simp
theorem sigRow_mem (ms : List (List Move)) (p : List Int) (i : Nat) (m : Move) : m ∈ sigRow ms p i ↔ Sig ms p i m := by
  unfold sigRow Sig
  rw [List.mem_map]
  by_cases h : i < ms.length
  · rw [getD_lt h]
    constructor
    · rintro ⟨x, hx, rfl⟩
      obtain ⟨k, hk, rfl⟩ := List.mem_iff_getElem.1 hx
      exact ⟨h, k, hk, rfl, rfl⟩
    · rintro ⟨_, k, hk, h1, h2⟩
      exact ⟨_, List.getElem_mem hk, by rw [← mv_eta m, h1, h2]⟩
  · rw [List.getD, List.getElem?_eq_none (by omega)]
    constructor
    · rintro ⟨x, hx, -⟩; simp at hx
    · rintro ⟨h', -⟩; exact absurd h' h
theorem alikeKey_len {ms : List (List Move)} (hm : Leads ms) (p : List Int) (i : Nat) : (alikeKey ms p i).length ≤ 3774873660 := by
  have h1 := tidyM_le (sigRow ms p i)
  have h2 := sigRow_len hm p i
  unfold alikeKey
  omega
theorem alikeKey_iff (ms : List (List Move)) (p : List Int) (j i : Nat) : alikeKey ms p j = alikeKey ms p i ↔ ∀ m, Sig ms p i m ↔ Sig ms p j m := by
  have hmem : ∀ k m, m ∈ alikeKey ms p k ↔ Sig ms p k m := fun k m => (tidyM_mem _ m).trans (sigRow_mem ms p k m)
  constructor
  · intro h m
    rw [← hmem i m, ← hmem j m, h]
  · intro h
    exact risesM_ext (tidyM_rises _) (tidyM_rises _) fun m => (hmem j m).trans ((h m).symm.trans (hmem i m).symm)
theorem keyA_ok (L N : Nat) (ms : List (List Move)) (hm : Leads ms) (hL : 8589934592 ≤ L) (p : List Int) (hp : p.length = ms.length) (i : Nat) (hi : i < ms.length) : f118_2 L N (i : Int) ms p = some (alikeKey ms p i) := by
  have hlim := lim_eq
  have hrow := hm.2 i hi
  have h1 : f145_1 L N p (i : Int) ms = some (alikeKey ms p i) := by
    show f145_1.b L N some p (i : Int) ms = _
    unfold f145_1.b f145_1.b'
    simp only [le0, lt_cast hi, Bool.and_true, cond_true, Int.toNat_natCast, at_lt hi]
    have key : ∀ (n k : Nat) (out : List Move), k ≤ (ms[i]).length → (ms[i]).length - k < n → out.length = k →
        f145_1.l0 L N (fun z5 => f145_1.p0_e0 L N some z5) n p ms[i] ((ms[i]).length : Int) (k : Int) out = some (tidyM (out ++ ((ms[i]).drop k).map fun m => Move.mk m.act (p.getD m.to.toNat 0))) := by
      intro n
      induction n with
      | zero => intro k out _ h; omega
      | succ n ih =>
        intro k out hk hn ho
        show f145_1.s0 L N _ (f145_1.l0 L N _ n) p ms[i] ((ms[i]).length : Int) (k : Int) out = _
        unfold f145_1.s0 f145_1.s0'
        by_cases hlt : k < (ms[i]).length
        · obtain ⟨t, ht, htl⟩ := hm.nat hi hlt
          have htp : t < p.length := by omega
          have hle : decide (out.length + ([(Move.mk ((ms[i])[k]).act (p.getD t 0))] : (List Move)).length ≤ lim) = true := dt (by simp only [List.length_cons, List.length_nil]; omega)
          simp only [lt_cast hlt, le0, Bool.and_true, cond_true, Int.toNat_natCast, at_lt hlt, ht, lt_cast htp, atD, hle]
          rw [wi_nat (by omega), ih (k + 1) _ (by omega) (by omega) (by simp [ho]), List.drop_eq_getElem_cons hlt, List.map_cons, ht, Int.toNat_natCast, List.append_assoc]
          rfl
        · simp only [ge_cast hlt, cond_false]
          rw [List.drop_eq_nil_of_le (by omega), List.map_nil, List.append_nil]
          show f145_1.p0_e0' L N some out = _
          unfold f145_1.p0_e0'
          rw [fsortM_some (by omega), Option.bind_some]
    have h := key L 0 [] (by omega) (by omega) rfl
    rw [List.drop_zero, List.nil_append] at h
    have hs : alikeKey ms p i = tidyM ((ms[i]).map fun m => Move.mk m.act (p.getD m.to.toNat 0)) := by
      unfold alikeKey sigRow; rw [getD_lt hi]
    rw [hs]
    exact h
  show f118_2.b' L N some (i : Int) ms p = _
  unfold f118_2.b'
  rw [h1, Option.bind_some]
theorem refineAkin (L N : Nat) (ms : List (List Move)) (hm : Leads ms) (hL : 8589934592 ≤ L) (p : List Int) (hp : p.length = ms.length) :
    ∃ q, f117_2 L N p ms p = some q ∧ NextE (Akin ms p) ms.length q := by
  obtain ⟨q, h1, h2⟩ := refineA_ok L N ms hm.1 hL p hp (alikeKey ms p) (alikeKey_len hm p) (fun i hi => keyA_ok L N ms hm hL p hp i hi)
  exact ⟨q, h1, h2.congr fun i j _ _ => and_congr Iff.rfl (alikeKey_iff ms p j i)⟩
theorem last_cast {α : Type} (pre : List α) (p d : α) (h : pre.length ≤ 1048576) : wi (((pre ++ [p]).length : Int) - 1) = (pre.length : Int) ∧ pre.length < (pre ++ [p]).length ∧ listAt (pre ++ [p]) d pre.length = p := by
  refine ⟨?_, by simp, ?_⟩
  · rw [List.length_append, List.length_cons, List.length_nil, wi_id (by omega) (by omega)]; omega
  · rw [at_lt (by simp)]; simp
end Go.Proofs.Ytdfjdbpklbehoaa.Ev
namespace Go.Proofs.Ytdfjdbpklbehoaa.Ev
open Go
set_option linter.unusedVariables false
set_option linter.unusedSimpArgs false
inductive Chain (E : List Int → Nat → Nat → Prop) (n : Nat) : List (List Int) → List Int → Prop
  | zero : Chain E n [] (List.replicate n 0)
  | snoc (pre : List (List Int)) (p q : List Int) (h : Chain E n pre p) (hq : NextE (E p) n q) : Chain E n (pre ++ [p]) q
structure EqE (E : List Int → Nat → Nat → Prop) : Prop where
  refl : ∀ p i, E p i i
  symm : ∀ p i j, E p i j → E p j i
  trans : ∀ p i j k, E p i j → E p j k → E p i k
  fine : ∀ p i j, E p i j → p.getD i 0 = p.getD j 0
theorem NextE.same {E : Nat → Nat → Prop} {n : Nat} {q : List Int} (h : NextE E n q) (sy : ∀ i j, E i j → E j i) (tr : ∀ i j k, E i j → E j k → E i k) {i i' : Nat} (hi : i < n) (hi' : i' < n) : q.getD i 0 = q.getD i' 0 ↔ E i i' := by
  have hl := h.1
  rw [getD_lt (show i < q.length by omega), getD_lt (show i' < q.length by omega)]
  obtain ⟨j, a1, a2, a3, a4⟩ := h.2 i (by omega)
  obtain ⟨j', b1, b2, b3, b4⟩ := h.2 i' (by omega)
  rw [a1, b1]
  constructor
  · intro e
    obtain rfl : j = j' := by omega
    exact tr _ _ _ (sy _ _ a3) b3
  · intro e
    have h1 : ¬ j < j' := fun hlt => b4 j hlt (tr _ _ _ a3 e)
    have h2 : ¬ j' < j := fun hlt => a4 j' hlt (tr _ _ _ b3 (sy _ _ e))
    have : j = j' := by omega
    rw [this]
theorem Chain.len {E : List Int → Nat → Nat → Prop} {n : Nat} {pre : List (List Int)} {p : List Int} (h : Chain E n pre p) : p.length = n := by
  cases h with
  | zero => simp
  | snoc pre p q h hq => exact hq.1
theorem Chain.low {E : List Int → Nat → Nat → Prop} {n : Nat} {pre : List (List Int)} {p : List Int} (h : Chain E n pre p) : Low p := by
  cases h with
  | zero => exact low_zero n
  | snoc pre p q h hq => exact hq.low
theorem Chain.keeps {E : List Int → Nat → Nat → Prop} (hE : EqE E) {n : Nat} {pre : List (List Int)} {p : List Int} (h : Chain E n pre p) (R : Nat → Nat → Prop)
    (hR : ∀ p, p.length = n → (∀ i j, i < n → j < n → R i j → p.getD i 0 = p.getD j 0) → ∀ i j, i < n → j < n → R i j → E p i j) :
    ∀ i j, i < n → j < n → R i j → p.getD i 0 = p.getD j 0 := by
  induction h with
  | zero =>
    intro i j hi hj _
    rw [getD_lt (by simpa using hi), getD_lt (by simpa using hj), List.getElem_replicate, List.getElem_replicate]
  | snoc pre p q h hq ih =>
    intro i j hi hj hr
    exact (hq.same (hE.symm p) (hE.trans p) hi hj).2 (hR p h.len ih i j hi hj hr)
def Fix (E : List Int → Nat → Nat → Prop) (n : Nat) (q : List Int) : Prop := q.length = n ∧ NextE (E q) n q
theorem Fix.same {E : List Int → Nat → Nat → Prop} (hE : EqE E) {n : Nat} {q : List Int} (h : Fix E n q) {i j : Nat} (hi : i < n) (hj : j < n) : q.getD i 0 = q.getD j 0 ↔ E q i j := h.2.same (hE.symm q) (hE.trans q) hi hj
theorem akinEq (ms : List (List Move)) : EqE (Akin ms) where
  refl p i := Akin.refl ms p i
  symm p i j h := ⟨h.1.symm, fun m => (h.2 m).symm⟩
  trans p i j k h1 h2 := ⟨h1.1.trans h2.1, fun m => (h2.2 m).trans (h1.2 m)⟩
  fine p i j h := h.1
theorem roundsI (L N : Nat) (ms : List (List Move)) (hm : Leads ms) (hL : 8589934592 ≤ L) : ∀ (n : Nat) (pre : List (List Int)) (p : List Int), p.length = ms.length → Low p → pre.length ≤ wgt p → 3600 - wgt p < n → Chain (Akin ms) ms.length pre p →
    ∃ pre' q, f81_2.l0 L N (fun z4 => f81_2.p0_r L N some z4) n ms (pre ++ [p]) = some (pre' ++ [q]) ∧ pre'.length ≤ 3600 ∧ Chain (Akin ms) ms.length pre' q ∧ Fix (Akin ms) ms.length q := by
  have hlim := lim_eq
  have hn60 := hm.1
  have hw : ∀ p : List Int, p.length = ms.length → Low p → wgt p ≤ 3600 := fun p hp hl => by
    have h1 := wgt_le (p := p) (B := 60) fun x hx => by
      obtain ⟨i, hi, rfl⟩ := List.mem_iff_getElem.1 hx
      have := hl i hi; omega
    omega
  intro n
  induction n with
  | zero => intro pre p _ _ _ h; omega
  | succ n ih =>
    intro pre p hp hl hpre hn hch
    have hwp := hw p hp hl
    obtain ⟨e1, e2, e3⟩ := last_cast pre p [] (by omega)
    obtain ⟨q1, b1, a2⟩ := refineAkin L N ms hm hL p hp
    have hq : q1.length = ms.length := a2.1
    obtain ⟨r1, d1, c2⟩ := equalI_ok L N q1 p (by omega) (by omega)
    have hle : decide ((pre ++ [p]).length + ([q1] : List (List Int)).length ≤ lim) = true := dt (by simp only [List.length_append, List.length_cons, List.length_nil]; omega)
    have s2 : f81_2.l0 L N (fun z4 => f81_2.p0_r L N some z4) (n + 1) ms (pre ++ [p]) = bif r1 then some (pre ++ [p]) else f81_2.l0 L N (fun z4 => f81_2.p0_r L N some z4) n ms (pre ++ [p] ++ [q1]) := by
      show f81_2.s0 L N _ (f81_2.l0 L N _ n) ms (pre ++ [p]) = _
      unfold f81_2.s0 f81_2.s0'
      simp only [e1, le0, lt_cast e2, Bool.and_true, cond_true, Int.toNat_natCast, e3, b1, d1, Option.bind_some, hle]
      rfl
    rw [s2]
    cases r1 with
    | true =>
      have heq : q1 = p := c2.1 rfl
      subst heq
      exact ⟨pre, q1, rfl, by omega, hch, hp, a2⟩
    | false =>
      have hne : p ≠ q1 := fun e => absurd (c2.2 e.symm) (by simp)
      have hlt := wgt_lt (by omega) (fun i h1 h2 => ⟨(hl i h1).1, a2.ge hp hl (fun j i h => h.1) i h1 h2⟩) hne
      have hwq := hw q1 hq a2.low
      exact ih (pre ++ [p]) q1 hq a2.low (by simp only [List.length_append, List.length_cons, List.length_nil]; omega) (by omega) (.snoc _ _ _ hch a2)
theorem chainI (L N : Nat) (ms : List (List Move)) (hm : Leads ms) (hL : 8589934592 ≤ L) : ∃ pre q, f121 L N ⟨ms⟩ = some (pre ++ [q]) ∧ pre.length ≤ 3600 ∧ Chain (Akin ms) ms.length pre q ∧ Fix (Akin ms) ms.length q := by
  have hlim := lim_eq
  have hn60 := hm.1
  obtain ⟨pre, q, h2, h4, h5, h6⟩ := roundsI L N ms hm hL L [] (List.replicate ms.length 0) (by simp) (low_zero _) (by simp) (by omega) .zero
  have h0 : decide ((ms.length : Int) ≤ (lim : Int)) = true := dt (by omega)
  have e0 : ((ms.length : Int)).toNat = ms.length := rfl
  have r2 : f121 L N ⟨ms⟩ = some (pre ++ [q]) := by
    have hrr : f81_2 L N (ms.length : Int) ms = some (pre ++ [q]) := by
      show f81_2.b L N some (ms.length : Int) ms = _
      unfold f81_2.b f81_2.b'
      simp only [le0, h0, Bool.and_true, cond_true, e0]
      exact h2
    show f121.b' L N some ⟨ms⟩ = _
    unfold f121.b'
    simp only [hrr, Option.bind_some]
  exact ⟨pre, q, r2, h4, h5, h6⟩
theorem classesI (L N : Nat) (ms : List (List Move)) {pre : List (List Int)} {q : List Int} (hr : f121 L N ⟨ms⟩ = some (pre ++ [q])) (hp : pre.length ≤ 3600) (hq : q.length ≤ 60) : f86 L N ⟨ms⟩ = some q := by
  have hlim := lim_eq
  obtain ⟨e1, e2, e3⟩ := last_cast pre q [] (by omega)
  show f86.b' L N some ⟨ms⟩ = _
  unfold f86.b'
  have hfc : fclone q = some () := by unfold fclone; rw [dt (by omega)]; rfl
  simp only [hr, Option.bind_some, e1, le0, lt_cast e2, Bool.and_true, cond_true, Int.toNat_natCast, e3, hfc]
end Go.Proofs.Ytdfjdbpklbehoaa.Ev
namespace Go.Proofs.Ytdfjdbpklbehoaa.Ev
open Go
set_option linter.unusedVariables false
set_option linter.unusedSimpArgs false
theorem equalMB_ok (L N : Nat) (a b : List Move) (hL : a.length < L) (hl : a.length ≤ 1099511627776) : ∃ r, f142 L N a b = some r ∧ (r = true ↔ a = b) := by
  show ∃ r, f142.b L N some a b = some r ∧ _
  unfold f142.b f142.b'
  have eqb : ∀ x y : Move, Move.eqb x y = true ↔ x = y := fun x y => by
    constructor
    · intro h
      simp only [Move.eqb, Bool.and_eq_true, beq_iff_eq] at h
      rw [← mv_eta x, ← mv_eta y, h.1, h.2]
    · rintro rfl; simp [Move.eqb]
  by_cases he : a.length = b.length
  · have : ((a.length : Int) != (b.length : Int)) = false := by simp [he]
    rw [this, cond_false]
    have key : ∀ (n i : Nat), i ≤ a.length → a.length - i < n → (∀ j (h1 : j < a.length) (h2 : j < b.length), j < i → a[j] = b[j]) →
        ∃ r, f142.l0 L N (f142.p0_e0 L N some) (fun z4 => f142.p0_r L N some z4) n a b (a.length : Int) (i : Int) = some r ∧ (r = true ↔ a = b) := by
      intro n
      induction n with
      | zero => intro i _ h; omega
      | succ n ih =>
        intro i hi hn hs
        show ∃ r, f142.s0 L N _ _ (f142.l0 L N _ _ n) a b (a.length : Int) (i : Int) = some r ∧ _
        unfold f142.s0 f142.s0'
        by_cases hlt : i < a.length
        · have hlt' : i < b.length := by omega
          simp only [le0, lt_cast hlt, lt_cast hlt', Bool.and_true, cond_true, Int.toNat_natCast, at_lt hlt, at_lt hlt']
          cases h0 : Move.eqb a[i] b[i] with
          | true =>
            have h1 := (eqb _ _).1 h0
            rw [Bool.not_true, cond_false, wi_nat (by omega)]
            refine ih (i + 1) (by omega) (by omega) fun j h2 h3 h4 => ?_
            by_cases e : j = i
            · subst e; exact h1
            · exact hs j h2 h3 (by omega)
          | false =>
            rw [Bool.not_false, cond_true]
            refine ⟨false, rfl, ?_⟩
            simp only [Bool.false_eq_true, false_iff]
            intro e
            subst e
            rw [(eqb _ _).2 rfl] at h0; cases h0
        · simp only [ge_cast hlt, cond_false]
          refine ⟨true, rfl, ?_⟩
          simp only [true_iff]
          exact List.ext_getElem he fun j h1 h2 => hs j h1 h2 (by omega)
    exact key L 0 (by omega) (by omega) (fun _ _ _ h => by omega)
  · have : ((a.length : Int) != (b.length : Int)) = true := by simp; omega
    rw [this, cond_true]
    refine ⟨false, rfl, ?_⟩
    simp only [Bool.false_eq_true, false_iff]
    intro e
    exact he (by rw [e])
theorem refineB_ok (L N : Nat) (ms : List (List Move)) (hn60 : ms.length ≤ 60) (hL : 8589934592 ≤ L) (p : List Int) (hp : p.length = ms.length) (key : Nat → List Move) (hkl : ∀ i, (key i).length ≤ 3774873660)
    (hkey : ∀ i, i < ms.length → f118_1 L N (i : Int) ms p = some (key i)) :
    ∃ q, f117_1 L N p ms p = some q ∧ NextE (fun j i => p.getD j 0 = p.getD i 0 ∧ key j = key i) ms.length q := by
  have hlim := lim_eq
  have inner : ∀ {R : Type} (K : List Int → List (List Move) → List Int → Int → Int → List Int → List (List Move) → Option R) (i : Nat) (hi : i < ms.length) (out : List Int) (keys : List (List Move)), out.length = ms.length → keys.length = ms.length → (∀ j, j ≤ i → keys.getD j [] = key j) → ∀ (n j : Nat), j ≤ i → i - j < n → (∀ j', j' < j → ¬ (p.getD j' 0 = p.getD i 0 ∧ key j' = key i)) → out.getD i 0 = (i : Int) →
      ∃ (b : Nat) (out' : List Int), b ≤ i ∧ (p.getD b 0 = p.getD i 0 ∧ key b = key i) ∧ (∀ j', j' < b → ¬ (p.getD j' 0 = p.getD i 0 ∧ key j' = key i)) ∧ out' = out.set i (b : Int) ∧ f117_1.l1 L N K n p ms p (i : Int) (j : Int) (ms.length : Int) (i : Int) out keys = K p ms p (ms.length : Int) (i : Int) out' keys := by
    intro R K i hi out keys ho hk hks n
    induction n with
    | zero => intro j _ h; omega
    | succ n ih =>
      intro j hj hn hno hoi
      show ∃ (b : Nat) (out' : List Int), _ ∧ _ ∧ _ ∧ _ ∧ f117_1.s1 L N _ (f117_1.l1 L N _ n) p ms p (i : Int) (j : Int) (ms.length : Int) (i : Int) out keys = _
      unfold f117_1.s1 f117_1.s1'
      by_cases hlt : j < i
      · have hjp : j < p.length := by omega
        have hip : i < p.length := by omega
        have hjk : j < keys.length := by omega
        have hik : i < keys.length := by omega
        have hio : i < out.length := by omega
        simp only [lt_cast hlt, le0, lt_cast hjp, lt_cast hip, lt_cast hjk, lt_cast hik, Bool.and_true, cond_true, Int.toNat_natCast, atD, hks j (by omega), hks i (by omega)]
        have stay : ¬ (p.getD j 0 = p.getD i 0 ∧ key j = key i) → ∃ (b : Nat) (out' : List Int), b ≤ i ∧ (p.getD b 0 = p.getD i 0 ∧ key b = key i) ∧ (∀ j', j' < b → ¬ (p.getD j' 0 = p.getD i 0 ∧ key j' = key i)) ∧ out' = out.set i (b : Int) ∧ f117_1.l1 L N K n p ms p (i : Int) (wi ((j : Int) + 1)) (ms.length : Int) (i : Int) out keys = K p ms p (ms.length : Int) (i : Int) out' keys := fun hne => by
          rw [wi_nat (by omega)]
          refine ih (j + 1) (by omega) (by omega) (fun j' h => ?_) hoi
          by_cases e : j' = j
          · subst e; exact hne
          · exact hno j' (by omega)
        by_cases h1 : p.getD j 0 = p.getD i 0
        · obtain ⟨r, e1, f1⟩ := equalMB_ok L N (key j) (key i) (by have := hkl j; omega) (by have := hkl j; omega)
          rw [show (p.getD j 0 == p.getD i 0) = true by simpa using h1, cond_true, e1, Option.bind_some]
          unfold f117_1.j0'
          cases r with
          | true =>
            simp only [cond_true, le0, lt_cast hio, Bool.and_true, Int.toNat_natCast]
            exact ⟨j, _, by omega, ⟨h1, f1.1 rfl⟩, hno, rfl, rfl⟩
          | false =>
            rw [cond_false]
            exact stay fun h => absurd (f1.2 h.2) (by simp)
        · rw [show (p.getD j 0 == p.getD i 0) = false by simpa using h1, cond_false]
          unfold f117_1.j0'
          rw [cond_false]
          exact stay fun h => h1 h.1
      · have hji : j = i := by omega
        subst hji
        simp only [ge_cast (Nat.lt_irrefl _), cond_false]
        refine ⟨j, _, Nat.le_refl _, ⟨rfl, rfl⟩, hno, rfl, ?_⟩
        have hio : j < out.length := by omega
        rw [getD_lt hio] at hoi
        rw [← hoi, List.set_getElem_self]
  show ∃ q, f117_1.b L N some p ms p = some q ∧ _
  unfold f117_1.b f117_1.b'
  have h0 : decide ((ms.length : Int) ≤ (lim : Int)) = true := dt (by omega)
  have e0 : ((ms.length : Int)).toNat = ms.length := rfl
  simp only [hp, le0, h0, Bool.and_true, cond_true, e0]
  have key0 : ∀ (n i : Nat) (out : List Int) (keys : List (List Move)), out.length = ms.length → keys.length = ms.length → i ≤ ms.length → ms.length - i < n → (∀ j, j < i → keys.getD j [] = key j) → (∀ i', i' < i → ∃ j : Nat, out.getD i' 0 = (j : Int) ∧ j ≤ i' ∧ (p.getD j 0 = p.getD i' 0 ∧ key j = key i') ∧ ∀ j', j' < j → ¬ (p.getD j' 0 = p.getD i' 0 ∧ key j' = key i')) →
      ∃ q, f117_1.l0 L N (fun z7 => f117_1.p0_e0 L N some z7) n p ms p (ms.length : Int) (i : Int) out keys = some q ∧ NextE (fun j i => p.getD j 0 = p.getD i 0 ∧ key j = key i) ms.length q := by
    intro n
    induction n with
    | zero => intro i out keys _ _ _ h; omega
    | succ n ih =>
      intro i out keys ho hk hi hn hks hout
      show ∃ q, f117_1.s0 L N _ (f117_1.l0 L N _ n) p ms p (ms.length : Int) (i : Int) out keys = some q ∧ _
      unfold f117_1.s0 f117_1.s0'
      by_cases hlt : i < ms.length
      · have hio : i < out.length := by omega
        have hik : i < keys.length := by omega
        simp only [lt_cast hlt, cond_true, hkey i hlt, Option.bind_some, le0, lt_cast hio, lt_cast hik, Bool.and_true, Int.toNat_natCast]
        have hks' : ∀ j, j ≤ i → (keys.set i (key i)).getD j [] = key j := fun j hj => by
          by_cases e : j = i
          · subst e; rw [getD_lt (by simpa using hik), List.getElem_set_self]
          · rw [List.getD, List.getElem?_set_ne (by omega), ← List.getD]; exact hks j (by omega)
        obtain ⟨b, out', q1, q2, q3, q4, e⟩ := inner (fun z18 z19 z20 z21 z22 z23 z24 => f117_1.p1_e2 L N (fun z7 => f117_1.p0_e0 L N some z7) (f117_1.l0 L N (fun z7 => f117_1.p0_e0 L N some z7) n) z18 z19 z20 z21 z22 z23 z24) i hlt (out.set i (i : Int)) (keys.set i (key i)) (by simp [ho]) (by simp [hk]) hks' L 0 (by omega) (by omega) (fun j' h => by omega) (by rw [getD_lt (by simpa using hio), List.getElem_set_self])
        refine (show ∃ q, _ = some q ∧ _ from ?_)
        have e' : f117_1.l1 L N (fun z18 z19 z20 z21 z22 z23 z24 => f117_1.p1_e2 L N (fun z7 => f117_1.p0_e0 L N some z7) (f117_1.l0 L N (fun z7 => f117_1.p0_e0 L N some z7) n) z18 z19 z20 z21 z22 z23 z24) L p ms p (i : Int) (0 : Int) (ms.length : Int) (i : Int) (out.set i (i : Int)) (keys.set i (key i)) = _ := e
        rw [e']
        show ∃ q, f117_1.p1_e2' L N _ _ p ms p (ms.length : Int) (i : Int) out' (keys.set i (key i)) = some q ∧ _
        unfold f117_1.p1_e2'
        rw [wi_nat (by omega)]
        have hset : (out.set i (i : Int)).set i (b : Int) = out.set i (b : Int) := by rw [List.set_set]
        refine ih (i + 1) out' _ (by rw [q4]; simp [ho]) (by simp [hk]) (by omega) (by omega) (fun j hj => hks' j (by omega)) fun i' hi' => ?_
        rw [q4, hset]
        by_cases e : i' = i
        · subst e
          exact ⟨b, by rw [getD_lt (by simpa using hio), List.getElem_set_self], q1, q2, q3⟩
        · obtain ⟨j, r1, r2⟩ := hout i' (by omega)
          exact ⟨j, by rw [List.getD, List.getElem?_set_ne (by omega), ← List.getD]; exact r1, r2⟩
      · simp only [ge_cast hlt, cond_false]
        have hi' : i = ms.length := by omega
        subst hi'
        refine ⟨out, rfl, ho, fun i hi => ?_⟩
        obtain ⟨j, r1, r2⟩ := hout i (by omega)
        rw [getD_lt hi] at r1
        exact ⟨j, r1, r2⟩
  exact key0 L 0 (List.replicate ms.length (0 : Int)) (List.replicate ms.length ([] : List Move)) List.length_replicate List.length_replicate (by omega) (by omega) (fun j h => by omega) (fun i' h => by omega)
end Go.Proofs.Ytdfjdbpklbehoaa.Ev
namespace Go.Proofs.Ytdfjdbpklbehoaa.Ev
open Go
set_option linter.unusedVariables false
set_option linter.unusedSimpArgs false
def bStep (p : List Int) (s : Nat) (st : List Int × List Move) (m : Move) : List Int × List Move :=
  if m.act = 0 ∧ p.getD m.to.toNat 0 = p.getD s 0 then (if m.to ∈ st.1 then st else (st.1 ++ [m.to], st.2)) else (st.1, st.2 ++ [Move.mk m.act (p.getD m.to.toNat 0)])
def bRow (p : List Int) (s : Nat) (row : List Move) (st : List Int × List Move) : List Int × List Move := row.foldl (bStep p s) st
def bLoop (ms : List (List Move)) (p : List Int) (s : Nat) : Nat → Nat → List Int × List Move → List Move
  | 0, _, st => st.2
  | n + 1, k, st => if k < st.1.length then bLoop ms p s n (k + 1) (bRow p s (ms.getD (st.1.getD k 0).toNat []) st) else st.2
def bOut (ms : List (List Move)) (p : List Int) (s : Nat) : List Move := bLoop ms p s 62 0 ([(s : Int)], [])
theorem bRow_cons (p : List Int) (s : Nat) (row : List Move) (k : Nat) (hk : k < row.length) (st : List Int × List Move) : bRow p s (row.drop k) st = bRow p s (row.drop (k + 1)) (bStep p s st row[k]) := by
  unfold bRow; rw [List.drop_eq_getElem_cons hk, List.foldl_cons]
theorem bRow_nil (p : List Int) (s : Nat) (row : List Move) (k : Nat) (hk : ¬ k < row.length) (st : List Int × List Move) : bRow p s (row.drop k) st = st := by
  unfold bRow; rw [List.drop_eq_nil_of_le (by omega), List.foldl_nil]
theorem qok_mem {ms : List (List Move)} {seen : List Bool} {q : List Int} (h : QOk ms seen q) {t : Nat} (ht : t < ms.length) : seen.getD t false = decide ((t : Int) ∈ q) := by
  rw [Bool.eq_iff_iff, decide_eq_true_iff]
  constructor
  · intro hT; exact h.2.2.1 t hT
  · intro hq
    obtain ⟨t', h1, h2⟩ := h.2.1 _ hq
    obtain rfl : t = t' := by omega
    exact h2
theorem bspec1 {R : Type} (L N : Nat) (K : Int → List Int → Int → List (List Move) → List Int → List Bool → List Move → Option R) (ms : List (List Move)) (hm : Leads ms) (p : List Int) (hp : p.length = ms.length) (s : Nat) (hs : s < ms.length) (k : Int) (v : Nat) (hv : v < ms.length) :
    ∀ (n i : Nat) (q : List Int) (seen : List Bool) (out : List Move), i ≤ (ms[v]).length → (ms[v]).length - i < n → QOk ms seen q → out.length + ((ms[v]).length - i) ≤ 62914560 →
      ∃ seen', QOk ms seen' (bRow p s ((ms[v]).drop i) (q, out)).1 ∧ (bRow p s ((ms[v]).drop i) (q, out)).2.length ≤ out.length + ((ms[v]).length - i) ∧ q.length ≤ (bRow p s ((ms[v]).drop i) (q, out)).1.length ∧
        f115.l1 L N K n (s : Int) p k ms[v] (i : Int) ms q seen out = K (s : Int) p k ms (bRow p s ((ms[v]).drop i) (q, out)).1 seen' (bRow p s ((ms[v]).drop i) (q, out)).2 := by
  have hlim := lim_eq
  have hn60 := hm.1
  have hrow := (hm.2 v hv).1
  intro n
  induction n with
  | zero => intro i q seen out _ h; omega
  | succ n ih =>
    intro i q seen out hi hn hq ho
    show ∃ seen', _ ∧ _ ∧ _ ∧ f115.s1 L N _ (f115.l1 L N _ n) (s : Int) p k ms[v] (i : Int) ms q seen out = _
    unfold f115.s1 f115.s1'
    by_cases hlt : i < (ms[v]).length
    · obtain ⟨t, ht, htl⟩ := hm.nat hv hlt
      rw [bRow_cons p s ms[v] i hlt]
      generalize hmv : (ms[v])[i] = m at ht
      have htp : t < p.length := by omega
      have hsp : s < p.length := by omega
      have hsl := hq.1
      have hts : t < seen.length := by omega
      have hql := hq.len
      have hst : m.to.toNat = t := by rw [ht, Int.toNat_natCast]
      simp only [lt_cast hlt, le0, Bool.and_true, Bool.true_and, cond_true, Int.toNat_natCast, at_lt hlt, hmv, ht, lt_cast htp, lt_cast hsp, atD]
      have hw : wi ((i : Int) + 1) = ((i + 1 : Nat) : Int) := wi_nat (by omega)
      have lay : ¬ (m.act = 0 ∧ p.getD t 0 = p.getD s 0) → ∃ seen', QOk ms seen' (bRow p s ((ms[v]).drop (i + 1)) (bStep p s (q, out) m)).1 ∧ (bRow p s ((ms[v]).drop (i + 1)) (bStep p s (q, out) m)).2.length ≤ out.length + ((ms[v]).length - i) ∧ q.length ≤ (bRow p s ((ms[v]).drop (i + 1)) (bStep p s (q, out) m)).1.length ∧
          f115.l1 L N K n (s : Int) p k ms[v] ((i + 1 : Nat) : Int) ms q seen (out ++ [Move.mk m.act (p.getD t 0)]) = K (s : Int) p k ms (bRow p s ((ms[v]).drop (i + 1)) (bStep p s (q, out) m)).1 seen' (bRow p s ((ms[v]).drop (i + 1)) (bStep p s (q, out) m)).2 := fun hno => by
        have he : bStep p s (q, out) m = (q, out ++ [Move.mk m.act (p.getD t 0)]) := by unfold bStep; rw [hst, if_neg hno]
        rw [he]
        obtain ⟨seen', a1, a2, a3, a4⟩ := ih (i + 1) q seen (out ++ [Move.mk m.act (p.getD t 0)]) (by omega) (by omega) hq (by simp only [List.length_append, List.length_cons, List.length_nil]; omega)
        refine ⟨seen', a1, ?_, a3, a4⟩
        simp only [List.length_append, List.length_cons, List.length_nil] at a2
        omega
      have hle : decide (out.length + ([(Move.mk m.act (p.getD t 0))] : (List Move)).length ≤ lim) = true := dt (by simp only [List.length_cons, List.length_nil]; omega)
      by_cases ha : m.act = 0
      · rw [show (m.act == 0) = true by simpa using ha, cond_true]
        by_cases hc : p.getD t 0 = p.getD s 0
        · rw [show (p.getD t 0 == p.getD s 0) = true by simpa using hc]
          unfold f115.j2'
          rw [Bool.not_true, cond_false]
          unfold f115.j1'
          simp only [cond_true, le0, lt_cast hts, Bool.and_true, Int.toNat_natCast, atD, qok_mem hq htl]
          unfold f115.j0'
          by_cases hmem : (t : Int) ∈ q
          · have he : bStep p s (q, out) m = (q, out) := by unfold bStep; rw [hst, if_pos ⟨ha, hc⟩, ht, if_pos hmem]
            rw [he, dt hmem, Bool.not_true, cond_false, hw]
            obtain ⟨seen', a1, a2, a3, a4⟩ := ih (i + 1) q seen out (by omega) (by omega) hq (by omega)
            exact ⟨seen', a1, by omega, a3, a4⟩
          · have he : bStep p s (q, out) m = (q ++ [(t : Int)], out) := by unfold bStep; rw [hst, if_pos ⟨ha, hc⟩, ht, if_neg hmem]
            have hle2 : decide (q.length + ([(t : Int)] : (List Int)).length ≤ lim) = true := dt (by simp only [List.length_cons, List.length_nil]; omega)
            rw [he, df hmem, Bool.not_false, cond_true]
            simp only [le0, lt_cast hts, Bool.and_true, cond_true, Int.toNat_natCast, hle2, hw]
            have hf : seen.getD t false = false := by rw [qok_mem hq htl]; exact df hmem
            obtain ⟨seen', a1, a2, a3, a4⟩ := ih (i + 1) (q ++ [(t : Int)]) (seen.set t true) out (by omega) (by omega) (hq.add htl hf) (by omega)
            refine ⟨seen', a1, by omega, ?_, a4⟩
            simp only [List.length_append, List.length_cons, List.length_nil] at a3
            omega
        · rw [show (p.getD t 0 == p.getD s 0) = false by simpa using hc]
          unfold f115.j2'
          simp only [Bool.not_false, cond_true, le0, lt_cast htp, Bool.and_true, Int.toNat_natCast, atD, hle]
          unfold f115.j1'
          simp only [cond_false]
          unfold f115.j0'
          rw [cond_false, hw]
          exact lay fun h => hc h.2
      · rw [show (m.act == 0) = false by simpa using ha, cond_false]
        unfold f115.j2'
        simp only [Bool.not_false, cond_true, le0, lt_cast htp, Bool.and_true, Int.toNat_natCast, atD, hle]
        unfold f115.j1'
        simp only [cond_false]
        unfold f115.j0'
        rw [cond_false, hw]
        exact lay fun h => ha h.1
    · rw [bRow_nil p s ms[v] i hlt]
      simp only [ge_cast hlt, cond_false]
      exact ⟨seen, hq, by simp, Nat.le_refl _, rfl⟩
theorem l5Mark_ok (L N : Nat) (ms : List (List Move)) (hm : Leads ms) (hL : 8589934592 ≤ L) (p : List Int) (hp : p.length = ms.length) (s : Nat) (hs : s < ms.length) :
    ∃ ys, f115 L N ⟨ms⟩ (s : Int) p = some ys ∧ RisesM ys ∧ (∀ m, m ∈ ys ↔ m ∈ bOut ms p s) ∧ ys.length ≤ 3774873600 ∧ (bOut ms p s).length ≤ 62914560 := by
  have hlim := lim_eq
  have hn60 := hm.1
  show ∃ ys, f115.b L N some ⟨ms⟩ (s : Int) p = some ys ∧ _
  unfold f115.b f115.b'
  have h0 : decide ((ms.length : Int) ≤ (lim : Int)) = true := dt (by omega)
  have e0 : ((ms.length : Int)).toNat = ms.length := rfl
  simp only [hp, le0, h0, Bool.and_true, cond_true, e0, List.length_replicate, lt_cast hs, Int.toNat_natCast]
  have key : ∀ (m n k : Nat) (q : List Int) (seen : List Bool) (out : List Move), k ≤ q.length → ms.length + 1 - k < m → ms.length + 1 - k < n → QOk ms seen q → out.length ≤ k * 1048576 →
      ∃ ys, f115.l0 L N (fun z7 => f115.p0_e0 L N some z7) n (s : Int) p (k : Int) ms q seen out = some ys ∧ RisesM ys ∧ (∀ v, v ∈ ys ↔ v ∈ bLoop ms p s m k (q, out)) ∧ ys.length ≤ 3774873600 ∧ (bLoop ms p s m k (q, out)).length ≤ 62914560 := by
    intro m
    induction m with
    | zero => intro n k q seen out _ h; omega
    | succ m ih =>
      intro n k q seen out hk hmk hnk hq ho
      have hql := hq.len
      obtain ⟨n, rfl⟩ : ∃ n', n = n' + 1 := ⟨n - 1, by omega⟩
      show ∃ ys, f115.s0 L N _ (f115.l0 L N _ n) (s : Int) p (k : Int) ms q seen out = some ys ∧ _
      unfold f115.s0 f115.s0'
      by_cases hlt : k < q.length
      · obtain ⟨v, hvq, hTv⟩ := hq.2.1 _ (List.getElem_mem hlt)
        have hvn : v < ms.length := by have := Tr_lt hTv; rw [hq.1] at this; exact this
        have hrow := (hm.2 v hvn).1
        simp only [lt_cast hlt, le0, Bool.and_true, cond_true, Int.toNat_natCast, at_lt hlt, hvq, lt_cast hvn, at_lt hvn]
        obtain ⟨seen', a1, a2, a3, a4⟩ := bspec1 L N (fun z17 z18 z19 z20 z21 z22 z23 => f115.p1_e2 L N (fun z7 => f115.p0_e0 L N some z7) (f115.l0 L N (fun z7 => f115.p0_e0 L N some z7) n) z17 z18 z19 z20 z21 z22 z23) ms hm p hp s hs (k : Int) v hvn L 0 q seen out (by omega) (by omega) hq (by omega)
        rw [List.drop_zero] at a1 a2 a3 a4
        have a4' : f115.l1 L N (fun z17 z18 z19 z20 z21 z22 z23 => f115.p1_e2 L N (fun z7 => f115.p0_e0 L N some z7) (f115.l0 L N (fun z7 => f115.p0_e0 L N some z7) n) z17 z18 z19 z20 z21 z22 z23) L (s : Int) p (k : Int) ms[v] (0 : Int) ms q seen out = _ := a4
        rw [a4']
        show ∃ ys, f115.l0 L N _ n (s : Int) p (wi ((k : Int) + 1)) ms (bRow p s ms[v] (q, out)).1 seen' (bRow p s ms[v] (q, out)).2 = some ys ∧ _
        have hb : bLoop ms p s (m + 1) k (q, out) = bLoop ms p s m (k + 1) (bRow p s ms[v] (q, out)) := by
          show (if k < q.length then _ else _) = _
          rw [if_pos hlt]
          show bLoop ms p s m (k + 1) (bRow p s (ms.getD (q.getD k 0).toNat []) (q, out)) = _
          rw [getD_lt hlt, hvq, Int.toNat_natCast, getD_lt hvn]
        rw [hb, wi_nat (by omega)]
        exact ih n (k + 1) _ seen' _ (by omega) (by omega) (by omega) a1 (by omega)
      · simp only [ge_cast hlt, cond_false]
        have hb : bLoop ms p s (m + 1) k (q, out) = out := by
          show (if k < q.length then _ else _) = _
          rw [if_neg hlt]
        have hol : out.length ≤ 62914560 := by omega
        rw [hb]
        obtain ⟨ys, q1, q2, q3, q4⟩ := l3Sorted_ok L N out (by omega) (by omega)
        show ∃ ys, f115.p0_e0' L N some out = some ys ∧ _
        unfold f115.p0_e0'
        exact ⟨ys, by rw [q1, Option.bind_some], q2, q3, by omega, hol⟩
  have hQ : QOk ms ((List.replicate ms.length false).set s true) [(s : Int)] := by
    have h : QOk ms (List.replicate ms.length false) [] := ⟨by simp, fun v hv => by simp at hv, fun t h => absurd h (Tr_replicate _ t), by rw [cnt_replicate]; rfl, List.nodup_nil⟩
    exact h.add hs (by rw [List.getD, List.getElem?_replicate]; split <;> rfl)
  exact key 62 L 0 _ _ [] (by simp) (by omega) (by omega) hQ (by simp)
theorem mapI_put (x y : Int) (b : Bool) : ∀ mp : List (Int × Bool), (mapFind i64 .bool y (mapPut i64 .bool x b mp) : Option Bool) = if y = x then some b else (mapFind i64 .bool y mp : Option Bool)
  | [] => by
    show (bif (y == x) then some b else none) = _
    by_cases h : y = x
    · rw [if_pos h, show (y == x) = true by simpa using h, cond_true]
    · rw [if_neg h, show (y == x) = false by simpa using h, cond_false]; rfl
  | e :: r => by
    show mapFind i64 .bool y (bif (x == e.1) then (x, b) :: r else e :: mapPut i64 .bool x b r) = if y = x then some b else (bif (y == e.1) then some e.2 else mapFind i64 .bool y r)
    by_cases h1 : x = e.1
    · rw [show (x == e.1) = true by simpa using h1, cond_true]
      show (bif (y == x) then some b else mapFind i64 .bool y r) = _
      by_cases h : y = x
      · rw [if_pos h, show (y == x) = true by simpa using h, cond_true]
      · rw [if_neg h, show (y == x) = false by simpa using h, cond_false, show (y == e.1) = false by rw [← h1]; simpa using h, cond_false]
    · rw [show (x == e.1) = false by simpa using h1, cond_false]
      show (bif (y == e.1) then some e.2 else mapFind i64 .bool y (mapPut i64 .bool x b r)) = _
      rw [mapI_put x y b r]
      by_cases h : y = x
      · subst h
        rw [if_pos rfl, if_pos rfl, show (y == e.1) = false by simpa using h1, cond_false]
      · rw [if_neg h, if_neg h]
def MapOk (ms : List (List Move)) (mp : List (Int × Bool)) (q : List Int) : Prop := (∃ seen, QOk ms seen q) ∧ ∀ t : Nat, t < ms.length → ((mapFind i64 .bool (t : Int) mp : Option Bool).getD false) = decide ((t : Int) ∈ q)
theorem MapOk.add {ms : List (List Move)} {mp : List (Int × Bool)} {q : List Int} (h : MapOk ms mp q) {t : Nat} (ht : t < ms.length) (hf : (t : Int) ∉ q) : MapOk ms (mapPut i64 .bool (t : Int) true mp) (q ++ [(t : Int)]) := by
  obtain ⟨⟨seen, hq⟩, h2⟩ := h
  refine ⟨⟨seen.set t true, hq.add ht (by rw [qok_mem hq ht]; exact df hf)⟩, fun u hu => ?_⟩
  rw [mapI_put]
  by_cases e : (u : Int) = (t : Int)
  · rw [if_pos e, Option.getD_some]
    exact (dt (List.mem_append_right _ (List.mem_singleton.2 e))).symm
  · rw [if_neg e, h2 u hu]
    rw [Bool.eq_iff_iff, decide_eq_true_iff, decide_eq_true_iff, List.mem_append, List.mem_singleton]
    exact ⟨.inl, fun h => h.elim id fun h => absurd h e⟩
theorem bimpl1 {R : Type} (L N : Nat) (K : List Int → Int → Int → List (List Move) → List Move → List (Int × Bool) → List Int → Option R) (ms : List (List Move)) (hm : Leads ms) (p : List Int) (hp : p.length = ms.length) (s : Nat) (hs : s < ms.length) (k : Int) (v : Nat) (hv : v < ms.length) :
    ∀ (n i : Nat) (q : List Int) (mp : List (Int × Bool)) (out : List Move), i ≤ (ms[v]).length → (ms[v]).length - i < n → MapOk ms mp q → out.length + ((ms[v]).length - i) ≤ 62914560 →
      ∃ mp', MapOk ms mp' (bRow p s ((ms[v]).drop i) (q, out)).1 ∧ (bRow p s ((ms[v]).drop i) (q, out)).2.length ≤ out.length + ((ms[v]).length - i) ∧ q.length ≤ (bRow p s ((ms[v]).drop i) (q, out)).1.length ∧
        f83.l1 L N K n p (s : Int) k ms[v] ((ms[v]).length : Int) (i : Int) ms out mp q = K p (s : Int) k ms (bRow p s ((ms[v]).drop i) (q, out)).2 mp' (bRow p s ((ms[v]).drop i) (q, out)).1 := by
  have hlim := lim_eq
  have hn60 := hm.1
  have hrow := (hm.2 v hv).1
  intro n
  induction n with
  | zero => intro i q mp out _ h; omega
  | succ n ih =>
    intro i q mp out hi hn hq ho
    show ∃ mp', _ ∧ _ ∧ _ ∧ f83.s1 L N _ (f83.l1 L N _ n) p (s : Int) k ms[v] ((ms[v]).length : Int) (i : Int) ms out mp q = _
    unfold f83.s1 f83.s1'
    by_cases hlt : i < (ms[v]).length
    · obtain ⟨t, ht, htl⟩ := hm.nat hv hlt
      rw [bRow_cons p s ms[v] i hlt]
      generalize hmv : (ms[v])[i] = m at ht
      have htp : t < p.length := by omega
      have hsp : s < p.length := by omega
      have hql : q.length ≤ ms.length := by obtain ⟨⟨seen, h⟩, -⟩ := hq; exact h.len
      have hst : m.to.toNat = t := by rw [ht, Int.toNat_natCast]
      simp only [lt_cast hlt, le0, Bool.and_true, Bool.true_and, cond_true, Int.toNat_natCast, at_lt hlt, hmv, ht, lt_cast htp, lt_cast hsp, atD]
      have hw : wi ((i : Int) + 1) = ((i + 1 : Nat) : Int) := wi_nat (by omega)
      have hle : decide (out.length + ([(Move.mk m.act (p.getD t 0))] : (List Move)).length ≤ lim) = true := dt (by simp only [List.length_cons, List.length_nil]; omega)
      have lay : ¬ (m.act = 0 ∧ p.getD t 0 = p.getD s 0) → ∃ mp', MapOk ms mp' (bRow p s ((ms[v]).drop (i + 1)) (bStep p s (q, out) m)).1 ∧ (bRow p s ((ms[v]).drop (i + 1)) (bStep p s (q, out) m)).2.length ≤ out.length + ((ms[v]).length - i) ∧ q.length ≤ (bRow p s ((ms[v]).drop (i + 1)) (bStep p s (q, out) m)).1.length ∧
          f83.j0' L N K (f83.l1 L N K n) p (s : Int) k ms[v] ((ms[v]).length : Int) (i : Int) true ms m.act (t : Int) out mp q = K p (s : Int) k ms (bRow p s ((ms[v]).drop (i + 1)) (bStep p s (q, out) m)).2 mp' (bRow p s ((ms[v]).drop (i + 1)) (bStep p s (q, out) m)).1 := fun hno => by
        have he : bStep p s (q, out) m = (q, out ++ [Move.mk m.act (p.getD t 0)]) := by unfold bStep; rw [hst, if_neg hno]
        rw [he]
        unfold f83.j0'
        simp only [cond_true, le0, lt_cast htp, Bool.and_true, Int.toNat_natCast, atD, hle, hw]
        obtain ⟨mp', a1, a2, a3, a4⟩ := ih (i + 1) q mp (out ++ [Move.mk m.act (p.getD t 0)]) (by omega) (by omega) hq (by simp only [List.length_append, List.length_cons, List.length_nil]; omega)
        refine ⟨mp', a1, ?_, a3, a4⟩
        simp only [List.length_append, List.length_cons, List.length_nil] at a2
        omega
      by_cases ha : m.act = 0
      · rw [show (m.act != 0) = false by simpa using ha, cond_false]
        by_cases hc : p.getD t 0 = p.getD s 0
        · rw [show (p.getD t 0 != p.getD s 0) = false by simpa using hc]
          unfold f83.j0'
          have hmf : ((mapFind i64 .bool (t : Int) mp : Option Bool).getD (Ty.dflt .bool)) = decide ((t : Int) ∈ q) := hq.2 t htl
          rw [cond_false]
          by_cases hmem : (t : Int) ∈ q
          · have he : bStep p s (q, out) m = (q, out) := by unfold bStep; rw [hst, if_pos ⟨ha, hc⟩, ht, if_pos hmem]
            rw [dt hmem] at hmf
            have hmf' : (!((mapFind i64 .bool (t : Int) mp).getD (Ty.dflt .bool) : Bool)) = false := by
              show (!((mapFind i64 .bool (t : Int) mp : Option Bool).getD (Ty.dflt .bool))) = false
              rw [hmf]; rfl
            rw [he, hmf', cond_false, hw]
            obtain ⟨mp', a1, a2, a3, a4⟩ := ih (i + 1) q mp out (by omega) (by omega) hq (by omega)
            exact ⟨mp', a1, by omega, a3, a4⟩
          · have he : bStep p s (q, out) m = (q ++ [(t : Int)], out) := by unfold bStep; rw [hst, if_pos ⟨ha, hc⟩, ht, if_neg hmem]
            have hle2 : decide (q.length + ([(t : Int)] : (List Int)).length ≤ lim) = true := dt (by simp only [List.length_cons, List.length_nil]; omega)
            rw [df hmem] at hmf
            have hmf' : (!((mapFind i64 .bool (t : Int) mp).getD (Ty.dflt .bool) : Bool)) = true := by
              show (!((mapFind i64 .bool (t : Int) mp : Option Bool).getD (Ty.dflt .bool))) = true
              rw [hmf]; rfl
            rw [he, hmf', cond_true, hle2, cond_true, hw]
            obtain ⟨mp', a1, a2, a3, a4⟩ := ih (i + 1) (q ++ [(t : Int)]) (mapPut i64 .bool (t : Int) true mp) out (by omega) (by omega) (hq.add htl hmem) (by omega)
            refine ⟨mp', a1, by omega, ?_, a4⟩
            simp only [List.length_append, List.length_cons, List.length_nil] at a3
            omega
        · rw [show (p.getD t 0 != p.getD s 0) = true by simpa using hc]
          exact lay fun h => hc h.2
      · rw [show (m.act != 0) = true by simpa using ha, cond_true]
        exact lay fun h => ha h.1
    · rw [bRow_nil p s ms[v] i hlt]
      simp only [ge_cast hlt, cond_false]
      exact ⟨mp, hq, by simp, Nat.le_refl _, rfl⟩
theorem branchMark_ok (L N : Nat) (ms : List (List Move)) (hm : Leads ms) (hL : 8589934592 ≤ L) (p : List Int) (hp : p.length = ms.length) (s : Nat) (hs : s < ms.length) :
    f83 L N ⟨ms⟩ p (s : Int) = some (tidyM (bOut ms p s)) := by
  have hlim := lim_eq
  have hn60 := hm.1
  show f83.b L N some ⟨ms⟩ p (s : Int) = _
  unfold f83.b f83.b'
  have key : ∀ (m n k : Nat) (q : List Int) (mp : List (Int × Bool)) (out : List Move), k ≤ q.length → ms.length + 1 - k < m → ms.length + 1 - k < n → MapOk ms mp q → out.length ≤ k * 1048576 →
      f83.l0 L N (fun z7 => f83.p0_e0 L N some z7) n p (s : Int) (k : Int) ms out mp q = some (tidyM (bLoop ms p s m k (q, out))) := by
    intro m
    induction m with
    | zero => intro n k q mp out _ h; omega
    | succ m ih =>
      intro n k q mp out hk hmk hnk hq ho
      obtain ⟨⟨seen, hqs⟩, -⟩ := id hq
      have hql := hqs.len
      obtain ⟨n, rfl⟩ : ∃ n', n = n' + 1 := ⟨n - 1, by omega⟩
      show f83.s0 L N _ (f83.l0 L N _ n) p (s : Int) (k : Int) ms out mp q = _
      unfold f83.s0 f83.s0'
      by_cases hlt : k < q.length
      · obtain ⟨v, hvq, hTv⟩ := hqs.2.1 _ (List.getElem_mem hlt)
        have hvn : v < ms.length := by have := Tr_lt hTv; rw [hqs.1] at this; exact this
        have hrow := (hm.2 v hvn).1
        simp only [lt_cast hlt, le0, Bool.and_true, cond_true, Int.toNat_natCast, at_lt hlt, hvq, lt_cast hvn, at_lt hvn]
        obtain ⟨mp', a1, a2, a3, a4⟩ := bimpl1 L N (fun z18 z19 z20 z21 z22 z23 z24 => f83.p1_e2 L N (fun z7 => f83.p0_e0 L N some z7) (f83.l0 L N (fun z7 => f83.p0_e0 L N some z7) n) z18 z19 z20 z21 z22 z23 z24) ms hm p hp s hs (k : Int) v hvn L 0 q mp out (by omega) (by omega) hq (by omega)
        rw [List.drop_zero] at a1 a2 a3 a4
        refine (show _ = _ from a4).trans ?_
        show f83.l0 L N _ n p (s : Int) (wi ((k : Int) + 1)) ms (bRow p s ms[v] (q, out)).2 mp' (bRow p s ms[v] (q, out)).1 = _
        have hb : bLoop ms p s (m + 1) k (q, out) = bLoop ms p s m (k + 1) (bRow p s ms[v] (q, out)) := by
          show (if k < q.length then _ else _) = _
          rw [if_pos hlt]
          show bLoop ms p s m (k + 1) (bRow p s (ms.getD (q.getD k 0).toNat []) (q, out)) = _
          rw [getD_lt hlt, hvq, Int.toNat_natCast, getD_lt hvn]
        rw [hb, wi_nat (by omega)]
        exact ih n (k + 1) _ mp' _ (by omega) (by omega) (by omega) a1 (by omega)
      · simp only [ge_cast hlt, cond_false]
        have hb : bLoop ms p s (m + 1) k (q, out) = out := by
          show (if k < q.length then _ else _) = _
          rw [if_neg hlt]
        rw [hb]
        show f83.p0_e0' L N some out = _
        unfold f83.p0_e0'
        rw [fsortM_some (by omega), Option.bind_some]
  have hM : MapOk ms (mapPut i64 .bool (s : Int) true ([] : List (Int × Bool))) [(s : Int)] := by
    have h : QOk ms (List.replicate ms.length false) [] := ⟨by simp, fun v hv => by simp at hv, fun t h => absurd h (Tr_replicate _ t), by rw [cnt_replicate]; rfl, List.nodup_nil⟩
    have h2 : MapOk ms [] [] := ⟨⟨_, h⟩, fun t _ => rfl⟩
    exact h2.add hs (by simp)
  exact key 62 L 0 _ _ [] (by simp) (by omega) (by omega) hM (by simp)
end Go.Proofs.Ytdfjdbpklbehoaa.Ev
namespace Go.Proofs.Ytdfjdbpklbehoaa.Ev
open Go
set_option linter.unusedVariables false
set_option linter.unusedSimpArgs false
theorem bRow_len (p : List Int) (s : Nat) : ∀ (row : List Move) (st : List Int × List Move), (bRow p s row st).2.length ≤ st.2.length + row.length
  | [], st => by simp [bRow]
  | m :: row, st => by
    have e : bRow p s (m :: row) st = bRow p s row (bStep p s st m) := by unfold bRow; rw [List.foldl_cons]
    rw [e]
    have h1 := bRow_len p s row (bStep p s st m)
    have h2 : (bStep p s st m).2.length ≤ st.2.length + 1 := by
      unfold bStep
      split
      · split <;> simp
      · simp
    simp only [List.length_cons]
    omega
theorem bLoop_len {ms : List (List Move)} {B : Nat} (hB : ∀ i, (ms.getD i []).length ≤ B) (p : List Int) (s : Nat) : ∀ (n k : Nat) (st : List Int × List Move), (bLoop ms p s n k st).length ≤ st.2.length + n * B
  | 0, k, st => by simp [bLoop]
  | n + 1, k, st => by
    unfold bLoop
    split
    · have h1 := bLoop_len hB p s n (k + 1) (bRow p s (ms.getD (st.1.getD k 0).toNat []) st)
      have h2 := bRow_len p s (ms.getD (st.1.getD k 0).toNat []) st
      have h3 := hB (st.1.getD k 0).toNat
      rw [Nat.succ_mul]
      omega
    · omega
theorem bOut_len {ms : List (List Move)} (hm : Leads ms) (p : List Int) (s : Nat) : (bOut ms p s).length ≤ 65011712 := by
  have h0 : ∀ i, (ms.getD i []).length ≤ 1048576 := fun i => by
    by_cases h : i < ms.length
    · rw [getD_lt h]; exact (hm.2 _ h).1
    · rw [List.getD, List.getElem?_eq_none (by omega)]; simp
  have h1 := bLoop_len h0 p s 62 0 ([(s : Int)], [])
  exact Nat.le_trans h1 (show 0 + 62 * 1048576 ≤ 65011712 from Nat.le_of_ble_eq_true rfl)
def BAkin (ms : List (List Move)) (p : List Int) (j i : Nat) : Prop := p.getD j 0 = p.getD i 0 ∧ tidyM (bOut ms p j) = tidyM (bOut ms p i)
theorem sameMoves_ok (L N : Nat) (a b : List Move) (hL : a.length < L) (hl : a.length ≤ 1099511627776) : ∃ r, f114 L N a b = some r ∧ (r = true ↔ a = b) := by
  show ∃ r, f114.b L N some a b = some r ∧ _
  unfold f114.b f114.b'
  have eqb : ∀ x y : Move, Move.eqb x y = true ↔ x = y := fun x y => by
    constructor
    · intro h
      simp only [Move.eqb, Bool.and_eq_true, beq_iff_eq] at h
      rw [← mv_eta x, ← mv_eta y, h.1, h.2]
    · rintro rfl; simp [Move.eqb]
  by_cases he : a.length = b.length
  · have : ((a.length : Int) != (b.length : Int)) = false := by simp [he]
    rw [this, cond_false]
    have key : ∀ (n i : Nat), i ≤ a.length → a.length - i < n → (∀ j (h1 : j < a.length) (h2 : j < b.length), j < i → a[j] = b[j]) →
        ∃ r, f114.l0 L N (f114.p0_e0 L N some) (fun z3 => f114.p0_r L N some z3) n a b (i : Int) = some r ∧ (r = true ↔ a = b) := by
      intro n
      induction n with
      | zero => intro i _ h; omega
      | succ n ih =>
        intro i hi hn hs
        show ∃ r, f114.s0 L N _ _ (f114.l0 L N _ _ n) a b (i : Int) = some r ∧ _
        unfold f114.s0 f114.s0'
        by_cases hlt : i < a.length
        · have hlt' : i < b.length := by omega
          simp only [le0, lt_cast hlt, lt_cast hlt', Bool.and_true, cond_true, Int.toNat_natCast, at_lt hlt, at_lt hlt']
          cases h0 : Move.eqb a[i] b[i] with
          | true =>
            have h1 := (eqb _ _).1 h0
            rw [Bool.not_true, cond_false, wi_nat (by omega)]
            refine ih (i + 1) (by omega) (by omega) fun j h2 h3 h4 => ?_
            by_cases e : j = i
            · subst e; exact h1
            · exact hs j h2 h3 (by omega)
          | false =>
            rw [Bool.not_false, cond_true]
            refine ⟨false, rfl, ?_⟩
            simp only [Bool.false_eq_true, false_iff]
            intro e
            subst e
            rw [(eqb _ _).2 rfl] at h0; cases h0
        · simp only [ge_cast hlt, cond_false]
          refine ⟨true, rfl, ?_⟩
          simp only [true_iff]
          exact List.ext_getElem he fun j h1 h2 => hs j h1 h2 (by omega)
    exact key L 0 (by omega) (by omega) (fun _ _ _ h => by omega)
  · have : ((a.length : Int) != (b.length : Int)) = true := by simp; omega
    rw [this, cond_true]
    refine ⟨false, rfl, ?_⟩
    simp only [Bool.false_eq_true, false_iff]
    intro e
    exact he (by rw [e])
theorem sameMark_ok (L N : Nat) (ms : List (List Move)) (hm : Leads ms) (hL : 8589934592 ≤ L) (p : List Int) (hp : p.length = ms.length) (i j : Nat) (hi : i < ms.length) (hj : j < ms.length) :
    ∃ a b r, f115 L N ⟨ms⟩ (i : Int) p = some a ∧ f115 L N ⟨ms⟩ (j : Int) p = some b ∧ f114 L N a b = some r ∧ (r = true ↔ tidyM (bOut ms p j) = tidyM (bOut ms p i)) := by
  obtain ⟨a, a1, a2, a3, a4, -⟩ := l5Mark_ok L N ms hm hL p hp i hi
  obtain ⟨b, b1, b2, b3, b4, -⟩ := l5Mark_ok L N ms hm hL p hp j hj
  obtain ⟨r, r1, r2⟩ := sameMoves_ok L N a b (by omega) (by omega)
  have ea : a = tidyM (bOut ms p i) := risesM_ext a2 (tidyM_rises _) fun m => (a3 m).trans (tidyM_mem _ m).symm
  have eb : b = tidyM (bOut ms p j) := risesM_ext b2 (tidyM_rises _) fun m => (b3 m).trans (tidyM_mem _ m).symm
  exact ⟨a, b, r, a1, b1, r1, by rw [r2, ea, eb]; exact eq_comm⟩
theorem keyB_ok (L N : Nat) (ms : List (List Move)) (hm : Leads ms) (hL : 8589934592 ≤ L) (p : List Int) (hp : p.length = ms.length) (i : Nat) (hi : i < ms.length) : f118_1 L N (i : Int) ms p = some (tidyM (bOut ms p i)) := by
  have h := branchMark_ok L N ms hm hL p hp i hi
  have h1 : f82_1 L N p (i : Int) ms = some (tidyM (bOut ms p i)) := by
    show f82_1.b' L N some p (i : Int) ms = _
    unfold f82_1.b'
    rw [h, Option.bind_some]
  show f118_1.b' L N some (i : Int) ms p = _
  unfold f118_1.b'
  rw [h1, Option.bind_some]
theorem refineBAkin (L N : Nat) (ms : List (List Move)) (hm : Leads ms) (hL : 8589934592 ≤ L) (p : List Int) (hp : p.length = ms.length) :
    ∃ q, f117_1 L N p ms p = some q ∧ NextE (BAkin ms p) ms.length q := by
  have hn60 := hm.1
  obtain ⟨q, h1, h2⟩ := refineB_ok L N ms hm.1 hL p hp (fun i => if i < ms.length then tidyM (bOut ms p i) else []) (fun i => by
    by_cases h : i < ms.length
    · simp only [h, if_true]
      have h5 := bOut_len hm p i
      have := tidyM_le (bOut ms p i)
      omega
    · simp only [h, if_false]; simp) (fun i hi => by simp only [hi, if_true]; exact keyB_ok L N ms hm hL p hp i hi)
  refine ⟨q, h1, h2.congr fun i j hj hi => ?_⟩
  have hj' : j < ms.length := by omega
  simp only [hi, hj', if_true]
  exact Iff.rfl
theorem bnext_ok {R : Type} (L N : Nat) (K : List (List Move) → List Int → List Int → Option R) (ms : List (List Move)) (hm : Leads ms) (hL : 8589934592 ≤ L) (p : List Int) (hp : p.length = ms.length) :
    ∃ q, NextE (BAkin ms p) ms.length q ∧ f80.l1 L N K L (0 : Int) ms p [] = K ms p q := by
  have hlim := lim_eq
  have hn60 := hm.1
  have inner : ∀ (K : Int → Int → List (List Move) → List Int → List Int → Option R) (i : Nat) (hi : i < ms.length) (out : List Int) (n c best : Nat) (z : Int), z = (c : Int) - 1 → c < n → c ≤ best → best ≤ i → BAkin ms p best i → (∀ j', c ≤ j' → j' < best → ¬ BAkin ms p j' i) →
      ∃ b' : Nat, b' ≤ i ∧ BAkin ms p b' i ∧ (∀ j', j' < b' → ¬ BAkin ms p j' i) ∧ f80.l2 L N K n (i : Int) (best : Int) z ms p out = K (i : Int) (b' : Int) ms p out := by
    intro K i hi out n
    induction n with
    | zero => intro c best z _ h; omega
    | succ n ih =>
      intro c best z hz hn hcb hbi hE hno
      show ∃ b' : Nat, _ ∧ _ ∧ _ ∧ f80.s2 L N _ (f80.l2 L N _ n) (i : Int) (best : Int) z ms p out = _
      unfold f80.s2 f80.s2'
      cases c with
      | zero =>
        rw [show decide (z ≥ 0) = false from decide_eq_false (by omega), cond_false]
        exact ⟨best, hbi, hE, fun j' h => hno j' (by omega) h, rfl⟩
      | succ c =>
        have hz' : z = (c : Int) := by omega
        subst hz'
        have hc : c < p.length := by omega
        have hip : i < p.length := by omega
        have hw : wi ((c : Int) - 1) = (c : Int) - 1 := wi_id (by omega) (by omega)
        rw [show decide ((c : Int) ≥ 0) = true from decide_eq_true (by omega), cond_true]
        simp only [le0, lt_cast hc, lt_cast hip, Bool.and_true, cond_true, Int.toNat_natCast, atD, hw]
        have stay : ¬ BAkin ms p c i → ∃ b' : Nat, b' ≤ i ∧ BAkin ms p b' i ∧ (∀ j', j' < b' → ¬ BAkin ms p j' i) ∧ f80.l2 L N K n (i : Int) (best : Int) ((c : Int) - 1) ms p out = K (i : Int) (b' : Int) ms p out := fun hne =>
          ih c best ((c : Int) - 1) rfl (by omega) (by omega) hbi hE fun j' h1 h2 => by
            by_cases e : j' = c
            · subst e; exact hne
            · exact hno j' (by omega) h2
        by_cases h1 : p.getD c 0 = p.getD i 0
        · obtain ⟨a, b, r, e1, e2, e3, f⟩ := sameMark_ok L N ms hm hL p hp i c hi (by omega)
          rw [show (p.getD c 0 == p.getD i 0) = true by simpa using h1, cond_true]
          simp only [e1, e2, e3, Option.bind_some]
          cases r with
          | false =>
            rw [cond_false]
            exact stay fun h => absurd (f.2 h.2) (by simp)
          | true =>
            rw [cond_true]
            exact ih c c ((c : Int) - 1) rfl (by omega) (Nat.le_refl _) (by omega) ⟨h1, f.1 rfl⟩ fun j' h1 h2 => by omega
        · rw [show (p.getD c 0 == p.getD i 0) = false by simpa using h1, cond_false]
          exact stay fun h => h1 h.1
  have key : ∀ (n i : Nat) (out : List Int), out.length = i → i ≤ ms.length → ms.length - i < n → (∀ (i' : Nat) (hi : i' < out.length), ∃ j : Nat, out[i'] = (j : Int) ∧ j ≤ i' ∧ BAkin ms p j i' ∧ ∀ j', j' < j → ¬ BAkin ms p j' i') →
      ∃ q, NextE (BAkin ms p) ms.length q ∧ f80.l1 L N K n (i : Int) ms p out = K ms p q := by
    intro n
    induction n with
    | zero => intro i out _ _ h; omega
    | succ n ih =>
      intro i out hl hi hn hout
      show ∃ q, _ ∧ f80.s1 L N _ (f80.l1 L N _ n) (i : Int) ms p out = _
      unfold f80.s1 f80.s1'
      by_cases hlt : i < ms.length
      · have hip : i < p.length := by omega
        have hw : wi ((i : Int) - 1) = (i : Int) - 1 := wi_id (by omega) (by omega)
        simp only [lt_cast hip, cond_true, hw]
        obtain ⟨b', q1, q2, q3, e⟩ := inner (fun z15 z16 z17 z18 z19 => f80.p2_e4 L N K (f80.l1 L N K n) z15 z16 z17 z18 z19) i hlt out L i i ((i : Int) - 1) rfl (by omega) (Nat.le_refl _) (Nat.le_refl _) ⟨rfl, rfl⟩ (fun j' h1 h2 => by omega)
        rw [e]
        show ∃ q, _ ∧ f80.p2_e4' L N K _ (i : Int) (b' : Int) ms p out = _
        unfold f80.p2_e4'
        have hle : decide (out.length + ([(b' : Int)] : List Int).length ≤ lim) = true := dt (by simp only [List.length_cons, List.length_nil]; omega)
        rw [hle, cond_true, wi_nat (by omega)]
        refine ih (i + 1) _ (by simp [hl]) (by omega) (by omega) fun i' hi' => ?_
        by_cases h : i' < out.length
        · rw [List.getElem_append_left h]; exact hout i' h
        · have : i' = i := by simp at hi'; omega
          subst this
          refine ⟨b', ?_, q1, q2, q3⟩
          rw [List.getElem_append_right (by omega)]
          simp
      · have hip : ¬ i < p.length := by omega
        simp only [ge_cast hip, cond_false]
        exact ⟨out, ⟨by omega, hout⟩, rfl⟩
  exact key L 0 [] rfl (by omega) (by omega) (fun _ h => by simp at h)
theorem last_castB {α : Type} (pre : List α) (p d : α) (h : pre.length ≤ 1048576) : wi (((pre ++ [p]).length : Int) - 1) = (pre.length : Int) ∧ pre.length < (pre ++ [p]).length ∧ listAt (pre ++ [p]) d pre.length = p := by
  refine ⟨?_, by simp, ?_⟩
  · rw [List.length_append, List.length_cons, List.length_nil, wi_id (by omega) (by omega)]; omega
  · rw [at_lt (by simp)]; simp
end Go.Proofs.Ytdfjdbpklbehoaa.Ev
namespace Go.Proofs.Ytdfjdbpklbehoaa.Ev
open Go
set_option linter.unusedVariables false
set_option linter.unusedSimpArgs false
theorem nodup_len : ∀ (n : Nat) (l : List Int), l.Nodup → (∀ v ∈ l, 0 ≤ v ∧ v < (n : Int)) → l.length ≤ n
  | 0, l, _, h => by
    cases l with
    | nil => simp
    | cons a t => have := h a (.head _); omega
  | n + 1, l, hn, h => by
    by_cases hm : (n : Int) ∈ l
    · have h1 := nodup_len n (l.erase (n : Int)) (hn.erase _) fun v hv => by
        obtain ⟨h2, h3⟩ := (hn.mem_erase_iff).1 hv
        have := h v h3; omega
      rw [List.length_erase_of_mem hm] at h1
      omega
    · have h1 := nodup_len n l hn fun v hv => by
        have h2 := h v hv
        have h3 : v ≠ (n : Int) := fun e => hm (e ▸ hv)
        omega
      omega
def inB (p : List Int) (s : Nat) (m : Move) : Prop := m.act = 0 ∧ p.getD m.to.toNat 0 = p.getD s 0
inductive Inert (ms : List (List Move)) (p : List Int) (s : Nat) : Nat → Prop
  | base : Inert ms p s s
  | step (u t : Nat) (h : Inert ms p s u) (hu : u < ms.length) (k : Nat) (hk : k < (ms[u]).length) (hi : inB p s (ms[u])[k]) (ht : (ms[u])[k].to = (t : Int)) : Inert ms p s t
theorem Inert.lt {ms : List (List Move)} (hm : Leads ms) {p : List Int} {s u : Nat} (hs : s < ms.length) (h : Inert ms p s u) : u < ms.length := by
  induction h with
  | base => exact hs
  | step u t _ hu k hk _ ht _ => have := (hm.2 u hu).2 k hk; omega
def Marked (ms : List (List Move)) (p : List Int) (s : Nat) (x : Move) : Prop := ∃ u, Inert ms p s u ∧ ∃ (hu : u < ms.length) (k : Nat) (hk : k < (ms[u]).length), ¬ inB p s (ms[u])[k] ∧ x = Move.mk (ms[u])[k].act (p.getD (ms[u])[k].to.toNat 0)
theorem bStep_in {p : List Int} {s : Nat} {st : List Int × List Move} {m : Move} (h : inB p s m) : bStep p s st m = if m.to ∈ st.1 then st else (st.1 ++ [m.to], st.2) := by
  unfold bStep; exact if_pos h
theorem bStep_out {p : List Int} {s : Nat} {st : List Int × List Move} {m : Move} (h : ¬ inB p s m) : bStep p s st m = (st.1, st.2 ++ [Move.mk m.act (p.getD m.to.toNat 0)]) := by
  unfold bStep; exact if_neg h
theorem bRow_spec (p : List Int) (s : Nat) : ∀ (row : List Move) (st : List Int × List Move),
    (∀ v, v ∈ (bRow p s row st).1 ↔ v ∈ st.1 ∨ ∃ m ∈ row, inB p s m ∧ v = m.to) ∧
    (∀ x, x ∈ (bRow p s row st).2 ↔ x ∈ st.2 ∨ ∃ m ∈ row, ¬ inB p s m ∧ x = Move.mk m.act (p.getD m.to.toNat 0)) ∧
    (∃ t, (bRow p s row st).1 = st.1 ++ t) ∧ (st.1.Nodup → (bRow p s row st).1.Nodup)
  | [], st => ⟨fun v => by simp [bRow], fun x => by simp [bRow], ⟨[], by simp [bRow]⟩, fun h => h⟩
  | m :: row, st => by
    have e : bRow p s (m :: row) st = bRow p s row (bStep p s st m) := by unfold bRow; rw [List.foldl_cons]
    obtain ⟨h1, h2, ⟨t, h3⟩, h4⟩ := bRow_spec p s row (bStep p s st m)
    rw [e]
    by_cases hi : inB p s m
    · rw [bStep_in hi] at h1 h2 h3 h4 ⊢
      by_cases hq : m.to ∈ st.1
      · rw [if_pos hq] at h1 h2 h3 h4 ⊢
        refine ⟨fun v => ?_, fun x => ?_, ⟨t, h3⟩, h4⟩
        · rw [h1]
          constructor
          · rintro (h | ⟨m', hm', h⟩)
            · exact .inl h
            · exact .inr ⟨m', .tail _ hm', h⟩
          · rintro (h | ⟨m', hm', h, h'⟩)
            · exact .inl h
            · rcases List.mem_cons.1 hm' with rfl | hm'
              · exact .inl (h' ▸ hq)
              · exact .inr ⟨m', hm', h, h'⟩
        · rw [h2]
          constructor
          · rintro (h | ⟨m', hm', h⟩)
            · exact .inl h
            · exact .inr ⟨m', .tail _ hm', h⟩
          · rintro (h | ⟨m', hm', h, h'⟩)
            · exact .inl h
            · rcases List.mem_cons.1 hm' with rfl | hm'
              · exact absurd hi h
              · exact .inr ⟨m', hm', h, h'⟩
      · rw [if_neg hq] at h1 h2 h3 h4 ⊢
        refine ⟨fun v => ?_, fun x => ?_, ⟨[m.to] ++ t, by rw [h3, List.append_assoc]⟩, fun hn => h4 ?_⟩
        · rw [h1]
          constructor
          · rintro (h | ⟨m', hm', h⟩)
            · rcases List.mem_append.1 h with h | h
              · exact .inl h
              · exact .inr ⟨m, .head _, hi, List.mem_singleton.1 h⟩
            · exact .inr ⟨m', .tail _ hm', h⟩
          · rintro (h | ⟨m', hm', h, h'⟩)
            · exact .inl (List.mem_append.2 (.inl h))
            · rcases List.mem_cons.1 hm' with rfl | hm'
              · exact .inl (List.mem_append.2 (.inr (h' ▸ .head _)))
              · exact .inr ⟨m', hm', h, h'⟩
        · rw [h2]
          constructor
          · rintro (h | ⟨m', hm', h⟩)
            · exact .inl h
            · exact .inr ⟨m', .tail _ hm', h⟩
          · rintro (h | ⟨m', hm', h, h'⟩)
            · exact .inl h
            · rcases List.mem_cons.1 hm' with rfl | hm'
              · exact absurd hi h
              · exact .inr ⟨m', hm', h, h'⟩
        · show (st.1 ++ [m.to]).Nodup
          rw [List.nodup_append]
          refine ⟨hn, by simp, fun a ha b hb => ?_⟩
          rw [List.mem_singleton.1 hb]
          exact fun e => hq (e ▸ ha)
    · rw [bStep_out hi] at h1 h2 h3 h4 ⊢
      refine ⟨fun v => ?_, fun x => ?_, ⟨t, h3⟩, h4⟩
      · rw [h1]
        constructor
        · rintro (h | ⟨m', hm', h⟩)
          · exact .inl h
          · exact .inr ⟨m', .tail _ hm', h⟩
        · rintro (h | ⟨m', hm', h, h'⟩)
          · exact .inl h
          · rcases List.mem_cons.1 hm' with rfl | hm'
            · exact absurd h hi
            · exact .inr ⟨m', hm', h, h'⟩
      · rw [h2]
        constructor
        · rintro (h | ⟨m', hm', h⟩)
          · rcases List.mem_append.1 h with h | h
            · exact .inl h
            · exact .inr ⟨m, .head _, hi, List.mem_singleton.1 h⟩
          · exact .inr ⟨m', .tail _ hm', h⟩
        · rintro (h | ⟨m', hm', h, h'⟩)
          · exact .inl (List.mem_append.2 (.inl h))
          · rcases List.mem_cons.1 hm' with rfl | hm'
            · exact .inl (List.mem_append.2 (.inr (h' ▸ .head _)))
            · exact .inr ⟨m', hm', h, h'⟩
structure BInv (ms : List (List Move)) (p : List Int) (s k : Nat) (st : List Int × List Move) : Prop where
  nd : st.1.Nodup
  ok : ∀ v ∈ st.1, ∃ u : Nat, v = (u : Int) ∧ Inert ms p s u
  own : (s : Int) ∈ st.1
  le : k ≤ st.1.length
  done : ∀ i, i < k → ∀ m ∈ ms.getD (st.1.getD i 0).toNat [], (inB p s m → m.to ∈ st.1) ∧ (¬ inB p s m → Move.mk m.act (p.getD m.to.toNat 0) ∈ st.2)
  out : ∀ x ∈ st.2, Marked ms p s x
theorem bLoop_spec {ms : List (List Move)} (hm : Leads ms) {p : List Int} {s : Nat} (hs : s < ms.length) : ∀ (n k : Nat) (st : List Int × List Move), BInv ms p s k st → ms.length + 1 ≤ n + k → ∀ x, x ∈ bLoop ms p s n k st ↔ Marked ms p s x := by
  intro n
  induction n with
  | zero =>
    intro k st h hn
    have h1 := nodup_len ms.length st.1 h.nd fun v hv => by
      obtain ⟨u, rfl, hu⟩ := h.ok v hv
      have := hu.lt hm hs; omega
    have := h.le
    omega
  | succ n ih =>
    intro k st h hn x
    unfold bLoop
    by_cases hk : k < st.1.length
    · rw [if_pos hk]
      obtain ⟨u, e, hu⟩ := h.ok _ (List.getElem_mem hk)
      have hul := hu.lt hm hs
      have eg : st.1.getD k 0 = (u : Int) := by rw [getD_lt hk, e]
      have er : ms.getD (st.1.getD k 0).toNat [] = ms[u] := by rw [eg, Int.toNat_natCast, getD_lt hul]
      rw [er]
      obtain ⟨h1, h2, ⟨t, h3⟩, h4⟩ := bRow_spec p s ms[u] st
      have hpre : ∀ i, i < st.1.length → (bRow p s ms[u] st).1.getD i 0 = st.1.getD i 0 := fun i hi => by
        rw [h3, List.getD_eq_getElem?_getD, List.getD_eq_getElem?_getD, List.getElem?_append_left hi]
      refine ih (k + 1) _ ⟨h4 h.nd, fun v hv => ?_, (h1 _).2 (.inl h.own), by rw [h3, List.length_append]; omega, fun i hi => ?_, fun x hx => ?_⟩ (by omega) x
      · rcases (h1 v).1 hv with hv | ⟨m, hm', hi, rfl⟩
        · exact h.ok v hv
        · obtain ⟨j, hj, rfl⟩ := List.mem_iff_getElem.1 hm'
          obtain ⟨t', ht, htl⟩ := hm.nat hul hj
          exact ⟨t', ht, .step u t' hu hul j hj hi ht⟩
      · rw [hpre i (by omega)]
        by_cases hlt : i < k
        · intro m hm'
          obtain ⟨d1, d2⟩ := h.done i hlt m hm'
          exact ⟨fun hi => (h1 _).2 (.inl (d1 hi)), fun hi => (h2 _).2 (.inl (d2 hi))⟩
        · obtain rfl : i = k := by omega
          rw [er]
          intro m hm'
          exact ⟨fun hi => (h1 _).2 (.inr ⟨m, hm', hi, rfl⟩), fun hi => (h2 _).2 (.inr ⟨m, hm', hi, rfl⟩)⟩
      · rcases (h2 x).1 hx with hx | ⟨m, hm', hi, rfl⟩
        · exact h.out x hx
        · obtain ⟨j, hj, rfl⟩ := List.mem_iff_getElem.1 hm'
          exact ⟨u, hu, hul, j, hj, hi, rfl⟩
    · rw [if_neg hk]
      have all : ∀ u, Inert ms p s u → (u : Int) ∈ st.1 := fun u hu => by
        induction hu with
        | base => exact h.own
        | step u t _ hul j hj hi ht ihu =>
          obtain ⟨i, hi', e⟩ := List.mem_iff_getElem.1 ihu
          have := (h.done i (by omega) ((ms[u])[j]) (by rw [getD_lt hi', e, Int.toNat_natCast, getD_lt hul]; exact List.getElem_mem hj)).1 hi
          rw [ht] at this
          exact this
      refine ⟨h.out x, ?_⟩
      rintro ⟨u, hu, hul, j, hj, hi, rfl⟩
      obtain ⟨i, hi', e⟩ := List.mem_iff_getElem.1 (all u hu)
      exact (h.done i (by omega) ((ms[u])[j]) (by rw [getD_lt hi', e, Int.toNat_natCast, getD_lt hul]; exact List.getElem_mem hj)).2 hi
theorem bOut_mem {ms : List (List Move)} (hm : Leads ms) (p : List Int) {s : Nat} (hs : s < ms.length) (x : Move) : x ∈ bOut ms p s ↔ Marked ms p s x := by
  have hn := hm.1
  refine bLoop_spec hm hs 62 0 ([(s : Int)], []) ⟨by simp, fun v hv => ⟨s, List.mem_singleton.1 hv, .base⟩, .head _, by simp, fun i hi => by omega, fun x hx => by cases hx⟩ (by omega) x
theorem bakin_iff {ms : List (List Move)} (hm : Leads ms) (p : List Int) {i j : Nat} (hi : i < ms.length) (hj : j < ms.length) : BAkin ms p j i ↔ p.getD j 0 = p.getD i 0 ∧ ∀ x, Marked ms p j x ↔ Marked ms p i x := by
  unfold BAkin
  refine and_congr Iff.rfl ⟨fun h x => ?_, fun h => ?_⟩
  · rw [← bOut_mem hm p hj, ← bOut_mem hm p hi, ← tidyM_mem (bOut ms p j), ← tidyM_mem (bOut ms p i), h]
  · exact risesM_ext (tidyM_rises _) (tidyM_rises _) fun x => by rw [tidyM_mem, tidyM_mem, bOut_mem hm p hj, bOut_mem hm p hi, h x]
theorem bakinEq (ms : List (List Move)) : EqE (BAkin ms) where
  refl p i := ⟨rfl, rfl⟩
  symm p i j h := ⟨h.1.symm, h.2.symm⟩
  trans p i j k h1 h2 := ⟨h1.1.trans h2.1, h1.2.trans h2.2⟩
  fine p i j h := h.1
theorem inert_sim {ms : List (List Move)} (hm : Leads ms) {q p : List Int} (hq : Fix (Akin ms) ms.length q) (hp : ∀ i j, i < ms.length → j < ms.length → q.getD i 0 = q.getD j 0 → p.getD i 0 = p.getD j 0)
    {i i' u : Nat} (hi : i < ms.length) (hi' : i' < ms.length) (e : q.getD i 0 = q.getD i' 0) (h : Inert ms p i u) : ∃ u', Inert ms p i' u' ∧ q.getD u 0 = q.getD u' 0 := by
  induction h with
  | base => exact ⟨i', .base, e⟩
  | step u t hu hul k hk hin ht ih =>
    obtain ⟨u', h1, h2⟩ := ih
    have hul' := h1.lt hm hi'
    have hak := (hq.same (akinEq ms) hul hul').1 h2
    have hs : Sig ms q u ⟨0, q.getD t 0⟩ := ⟨hul, k, hk, hin.1.symm, by rw [ht, Int.toNat_natCast]⟩
    obtain ⟨_, k', hk', a1, a2⟩ := (hak.2 _).2 hs
    obtain ⟨t', ht', htl'⟩ := hm.nat hul' hk'
    have htl : t < ms.length := by have := (hm.2 u hul).2 k hk; omega
    have a2' : q.getD t 0 = q.getD t' 0 := by rw [ht', Int.toNat_natCast] at a2; exact a2
    refine ⟨t', .step u' t' h1 hul' k' hk' ⟨a1.symm, ?_⟩ ht', a2'⟩
    have h3 := hin.2
    rw [ht, Int.toNat_natCast] at h3
    rw [ht', Int.toNat_natCast, ← hp t t' htl htl' a2', h3]
    exact hp i i' hi hi' e
theorem marked_sim {ms : List (List Move)} (hm : Leads ms) {q p : List Int} (hq : Fix (Akin ms) ms.length q) (hp : ∀ i j, i < ms.length → j < ms.length → q.getD i 0 = q.getD j 0 → p.getD i 0 = p.getD j 0)
    {i i' : Nat} (hi : i < ms.length) (hi' : i' < ms.length) (e : q.getD i 0 = q.getD i' 0) {x : Move} (h : Marked ms p i x) : Marked ms p i' x := by
  obtain ⟨u, hu, hul, k, hk, hn, rfl⟩ := h
  obtain ⟨u', h1, h2⟩ := inert_sim hm hq hp hi hi' e hu
  have hul' := h1.lt hm hi'
  have hak := (hq.same (akinEq ms) hul hul').1 h2
  obtain ⟨t, ht, htl⟩ := hm.nat hul hk
  have hs : Sig ms q u ⟨(ms[u])[k].act, q.getD t 0⟩ := ⟨hul, k, hk, rfl, by rw [ht, Int.toNat_natCast]⟩
  obtain ⟨_, k', hk', a1, a2⟩ := (hak.2 _).2 hs
  obtain ⟨t', ht', htl'⟩ := hm.nat hul' hk'
  have a1' : (ms[u])[k].act = (ms[u'])[k'].act := a1
  have a2' : q.getD t 0 = q.getD t' 0 := by rw [ht', Int.toNat_natCast] at a2; exact a2
  have ep := hp t t' htl htl' a2'
  have ei := hp i i' hi hi' e
  refine ⟨u', h1, hul', k', hk', fun hin => hn ⟨a1'.trans hin.1, ?_⟩, ?_⟩
  · have := hin.2
    rw [ht', Int.toNat_natCast] at this
    rw [ht, Int.toNat_natCast, ep, this, ei]
  · rw [a1', ht, ht', Int.toNat_natCast, Int.toNat_natCast, ep]
theorem alike_branch {ms : List (List Move)} (hm : Leads ms) {q b : List Int} {pre : List (List Int)} (hq : Fix (Akin ms) ms.length q) (hb : Chain (BAkin ms) ms.length pre b) {i j : Nat} (hi : i < ms.length) (hj : j < ms.length) (e : q.getD i 0 = q.getD j 0) : b.getD i 0 = b.getD j 0 := by
  refine hb.keeps (bakinEq ms) (fun i j => q.getD i 0 = q.getD j 0) (fun p hpl hp i j hi hj e => ?_) i j hi hj e
  exact (bakin_iff hm p hj hi).2 ⟨hp i j hi hj e, fun x => ⟨marked_sim hm hq hp hi hj e, marked_sim hm hq hp hj hi e.symm⟩⟩
theorem marked_calm {ms : List (List Move)} {p : List Int} {s : Nat} (hs : s < ms.length) (hc : ∀ (u : Nat) (hu : u < ms.length) (k : Nat) (hk : k < (ms[u]).length), (ms[u])[k].act ≠ 0) (x : Move) : Marked ms p s x ↔ Sig ms p s x := by
  constructor
  · rintro ⟨u, hu, hul, k, hk, hn, rfl⟩
    cases hu with
    | base => exact ⟨hul, k, hk, rfl, rfl⟩
    | step u' t h hu' k' hk' hin ht => exact absurd hin.1 (hc u' hu' k' hk')
  · rintro ⟨hu, k, hk, h1, h2⟩
    exact ⟨s, .base, hu, k, hk, fun hin => hc s hu k hk hin.1, by rw [← mv_eta x, h1, h2]⟩
theorem branch_calm {ms : List (List Move)} (hm : Leads ms) {q b : List Int} {pre pre' : List (List Int)} (hq : Chain (Akin ms) ms.length pre q) (hq' : Fix (Akin ms) ms.length q) (hb : Chain (BAkin ms) ms.length pre' b) (hb' : Fix (BAkin ms) ms.length b)
    (hc : ∀ (u : Nat) (hu : u < ms.length) (k : Nat) (hk : k < (ms[u]).length), (ms[u])[k].act ≠ 0) : q = b := by
  have key : ∀ i j, i < ms.length → j < ms.length → (q.getD i 0 = q.getD j 0 ↔ b.getD i 0 = b.getD j 0) := fun i j hi hj => by
    refine ⟨alike_branch hm hq' hb hi hj, fun e => ?_⟩
    refine hq.keeps (akinEq ms) (fun i j => b.getD i 0 = b.getD j 0) (fun p hpl hp i j hi hj e => ⟨hp i j hi hj e, fun m => ?_⟩) i j hi hj e
    have hak := ((bakin_iff hm b hj hi).1 ((hb'.same (bakinEq ms) hi hj).1 e)).2
    have go : ∀ i j, i < ms.length → j < ms.length → (∀ x, Sig ms b i x → Sig ms b j x) → ∀ m, Sig ms p i m → Sig ms p j m := fun i j hi hj h m ⟨hu, k, hk, h1, h2⟩ => by
      obtain ⟨t, ht, htl⟩ := hm.nat hu hk
      obtain ⟨hu', k', hk', h3, h4⟩ := h ⟨m.act, b.getD t 0⟩ ⟨hu, k, hk, h1, by rw [ht, Int.toNat_natCast]⟩
      obtain ⟨t', ht', htl'⟩ := hm.nat hu' hk'
      have h4' : b.getD t 0 = b.getD t' 0 := by rw [ht', Int.toNat_natCast] at h4; exact h4
      exact ⟨hu', k', hk', h3, by rw [h2, ht, ht', Int.toNat_natCast, Int.toNat_natCast]; exact hp t t' htl htl' h4'⟩
    have hs : ∀ x, Sig ms b i x ↔ Sig ms b j x := fun x => by rw [← marked_calm hi hc, ← marked_calm hj hc, hak]
    exact ⟨go j i hj hi (fun x => (hs x).2) m, go i j hi hj (fun x => (hs x).1) m⟩
  have h2 := hb'.2
  refine hq'.2.uniq ?_
  refine ⟨by rw [h2.1], fun i hi => ?_⟩
  obtain ⟨j, a1, a2, a3, a4⟩ := h2.2 i hi
  have hin : i < ms.length := by rw [← h2.1]; exact hi
  refine ⟨j, a1, a2, (hq'.same (akinEq ms) (by omega) hin).1 ((key j i (by omega) hin).2 a3.1), fun j' hj' h => a4 j' hj' ?_⟩
  exact (hb'.same (bakinEq ms) (by omega) hin).1 ((key j' i (by omega) hin).1 h.1)
end Go.Proofs.Ytdfjdbpklbehoaa.Ev
namespace Go.Proofs.Ytdfjdbpklbehoaa.Ev
open Go
set_option linter.unusedVariables false
set_option linter.unusedSimpArgs false
theorem roundsBC (L N : Nat) (ms : List (List Move)) (hm : Leads ms) (hL : 8589934592 ≤ L) : ∀ (n : Nat) (pre : List (List Int)) (p : List Int), p.length = ms.length → Low p → pre.length ≤ wgt p → 3600 - wgt p < n → Chain (BAkin ms) ms.length pre p →
    ∃ pre' q, f80.l0 L N (fun z37 => f80.p0_r L N some z37) n ms p = some q ∧ f81_1.l0 L N (fun z4 => f81_1.p0_r L N some z4) n ms (pre ++ [p]) = some (pre' ++ [q]) ∧ pre'.length ≤ 3600 ∧ Chain (BAkin ms) ms.length pre' q ∧ Fix (BAkin ms) ms.length q := by
  have hlim := lim_eq
  have hn60 := hm.1
  have hw : ∀ p : List Int, p.length = ms.length → Low p → wgt p ≤ 3600 := fun p hp hl => by
    have h1 := wgt_le (p := p) (B := 60) fun x hx => by
      obtain ⟨i, hi, rfl⟩ := List.mem_iff_getElem.1 hx
      have := hl i hi; omega
    omega
  intro n
  induction n with
  | zero => intro pre p _ _ _ h; omega
  | succ n ih =>
    intro pre p hp hl hpre hn hch
    have hwp := hw p hp hl
    obtain ⟨e1, e2, e3⟩ := last_castB pre p [] (by omega)
    obtain ⟨q1, a2, a1⟩ := bnext_ok L N (fun z6 z7 z8 => f80.p1_e2 L N (fun z37 => f80.p0_r L N some z37) (f80.l0 L N (fun z37 => f80.p0_r L N some z37) n) z6 z7 z8) ms hm hL p hp
    obtain ⟨q2, b1, b2⟩ := refineBAkin L N ms hm hL p hp
    obtain rfl := a2.uniq b2
    have hq : q1.length = ms.length := a2.1
    obtain ⟨r1, c1, c2⟩ := l4Same_ok L N q1 p (by omega) (by omega)
    obtain ⟨r2, d1, d2⟩ := equalI_ok L N q1 p (by omega) (by omega)
    have hr : r1 = r2 := by rw [Bool.eq_iff_iff, c2, d2]
    subst hr
    have hle : decide ((pre ++ [p]).length + ([q1] : List (List Int)).length ≤ lim) = true := dt (by simp only [List.length_append, List.length_cons, List.length_nil]; omega)
    have s1 : f80.l0 L N (fun z37 => f80.p0_r L N some z37) (n + 1) ms p = bif r1 then some p else f80.l0 L N (fun z37 => f80.p0_r L N some z37) n ms q1 := by
      show f80.l1 L N _ L (0 : Int) ms p [] = _
      refine a1.trans ?_
      show f80.p1_e2' L N _ _ ms p q1 = _
      unfold f80.p1_e2'
      rw [c1, Option.bind_some]
      rfl
    have s2 : f81_1.l0 L N (fun z4 => f81_1.p0_r L N some z4) (n + 1) ms (pre ++ [p]) = bif r1 then some (pre ++ [p]) else f81_1.l0 L N (fun z4 => f81_1.p0_r L N some z4) n ms (pre ++ [p] ++ [q1]) := by
      show f81_1.s0 L N _ (f81_1.l0 L N _ n) ms (pre ++ [p]) = _
      unfold f81_1.s0 f81_1.s0'
      simp only [e1, le0, lt_cast e2, Bool.and_true, cond_true, Int.toNat_natCast, e3, b1, d1, Option.bind_some, hle]
      rfl
    rw [s1, s2]
    cases r1 with
    | true =>
      have heq : q1 = p := c2.1 rfl
      subst heq
      exact ⟨pre, q1, rfl, rfl, by omega, hch, hp, a2⟩
    | false =>
      have hne : p ≠ q1 := fun e => absurd (c2.2 e.symm) (by simp)
      have hlt := wgt_lt (by omega) (fun i h1 h2 => ⟨(hl i h1).1, a2.ge hp hl (fun j i h => h.1) i h1 h2⟩) hne
      have hwq := hw q1 hq a2.low
      exact ih (pre ++ [p]) q1 hq a2.low (by simp only [List.length_append, List.length_cons, List.length_nil]; omega) (by omega) (.snoc _ _ _ hch a2)
theorem branchClassesC (L N : Nat) (g : Graph) (hg : g.moves.length + gsize g.moves ≤ 1048576) (hL : 8589934592 ≤ L) :
    ∃ q, f40 L N g = some q ∧ f41 L N g = some q ∧ q.length ≤ 60 ∧ (graphOk g = false → q = []) ∧ (graphOk g = true → ∃ pre, Chain (BAkin g.moves) g.moves.length pre q ∧ Fix (BAkin g.moves) g.moves.length q) := by
  have hge : Graph.mk g.moves = g := by cases g; rfl
  have hlim := lim_eq
  have h1 := gok1_ok L N g (by omega) hg
  have h2 := gok2_ok L N g (by omega) hg
  cases hok : graphOk g with
  | false =>
    refine ⟨[], ?_, ?_, by simp, fun _ => rfl, (fun h => by cases h)⟩
    · show f40.b' L N some g = _
      unfold f40.b'
      rw [hge, h2, Option.bind_some, hok, Bool.not_false, cond_true]
    · show f41.b' L N some g = _
      unfold f41.b'
      rw [hge, h1, Option.bind_some, hok, Bool.not_false, cond_true]
  | true =>
    have hm := leads_of hok hg
    have hn := hm.1
    have h0 : decide ((g.moves.length : Int) ≤ (lim : Int)) = true := dt (by omega)
    have e0 : ((g.moves.length : Int)).toNat = g.moves.length := rfl
    obtain ⟨pre, q, r1, r2, r4, r5, r6⟩ := roundsBC L N g.moves hm hL L [] (List.replicate g.moves.length 0) (by simp) (low_zero _) (by simp) (by omega) .zero
    have r3 := r6.1
    obtain ⟨e1, e2, e3⟩ := last_castB pre q [] (by omega)
    refine ⟨q, ?_, ?_, by omega, (fun h => by cases h), fun _ => ⟨pre, r5, r6⟩⟩
    · have hr : f80 L N g = some q := by
        show f80.b L N some g = _
        unfold f80.b f80.b'
        simp only [le0, h0, Bool.and_true, cond_true, e0]
        exact r1
      show f40.b' L N some g = _
      unfold f40.b'
      rw [hge, h2, Option.bind_some, hok, Bool.not_true, cond_false, hr, Option.bind_some]
    · have hr : f81_1 L N (g.moves.length : Int) g.moves = some (pre ++ [q]) := by
        show f81_1.b L N some (g.moves.length : Int) g.moves = _
        unfold f81_1.b f81_1.b'
        simp only [le0, h0, Bool.and_true, cond_true, e0]
        exact r2
      show f41.b' L N some g = _
      unfold f41.b'
      have hfc : fclone q = some () := by unfold fclone; rw [dt (by omega)]; rfl
      rw [hge, h1, Option.bind_some, hok, Bool.not_true, cond_false, hr]
      simp only [Option.bind_some, e1, le0, lt_cast e2, Bool.and_true, cond_true, Int.toNat_natCast, e3, hfc]
end Go.Proofs.Ytdfjdbpklbehoaa.Ev
namespace Go.Proofs.Ytdfjdbpklbehoaa.Ev
open Go
set_option linter.unusedVariables false
set_option linter.unusedSimpArgs false
theorem mnInts_same (L N : Nat) (q : List Int) (hL : q.length < L) (hl : q.length ≤ 1048576) : f31 L N q q = some true := by
  show f31.b L N some q q = _
  unfold f31.b f31.b'
  simp only [bne_self_eq_false, cond_false]
  have key : ∀ (n i : Nat), i ≤ q.length → q.length - i < n → f31.l0 L N (f31.p0_e0 L N some) (fun z3 => f31.p0_r L N some z3) n q q (i : Int) = some true := by
    intro n
    induction n with
    | zero => intro i _ h; omega
    | succ n ih =>
      intro i hi hn
      show f31.s0 L N _ _ (f31.l0 L N _ _ n) q q (i : Int) = _
      unfold f31.s0 f31.s0'
      by_cases hlt : i < q.length
      · simp only [lt_cast hlt, le0, Bool.and_true, cond_true, bne_self_eq_false, cond_false]
        rw [wi_nat (by omega)]
        exact ih (i + 1) (by omega) (by omega)
      · rw [ge_cast hlt, cond_false]; rfl
  exact key L 0 (by omega) (by omega)
end Go.Proofs.Ytdfjdbpklbehoaa.Ev
namespace Go.Proofs.Ytdfjdbpklbehoaa.Ev
open Go
set_option linter.unusedVariables false
set_option linter.unusedSimpArgs false
theorem mnFiner_ok (L N : Nat) (a b : List Int) (hl : a.length = b.length) (h : ∀ i j, i < a.length → j < a.length → a.getD i 0 = a.getD j 0 → b.getD i 0 = b.getD j 0) (hL : a.length + 1 < L) (hlen : a.length ≤ 1048576) : f45 L N a b = some true := by
  show f45.b L N some a b = _
  unfold f45.b f45.b'
  have he : ((a.length : Int) != (b.length : Int)) = false := by rw [hl]; simp
  rw [he, cond_false]
  have key : ∀ (n i : Nat), i ≤ a.length → a.length - i < n → f45.l0 L N (f45.p0_e0 L N some) (fun z23 => f45.p0_r L N some z23) n a b (i : Int) = some true := by
    intro n
    induction n with
    | zero => intro i _ h; omega
    | succ n ih =>
      intro i hi hn
      show f45.s0 L N _ _ (f45.l0 L N _ _ n) a b (i : Int) = _
      unfold f45.s0 f45.s0'
      by_cases hlt : i < a.length
      · rw [lt_cast hlt, cond_true]
        have row : ∀ (n' j : Nat), j ≤ i → i - j < n' → f45.l1 L N (fun z7 z8 z9 => f45.p1_e2 L N (f45.p0_e0 L N some) (fun z23 => f45.p0_r L N some z23) (f45.l0 L N (f45.p0_e0 L N some) (fun z23 => f45.p0_r L N some z23) n) z7 z8 z9) (fun z15 z16 z17 z18 => f45.p1_r L N (f45.p0_e0 L N some) (fun z23 => f45.p0_r L N some z23) (f45.l0 L N (f45.p0_e0 L N some) (fun z23 => f45.p0_r L N some z23) n) z15 z16 z17 z18) n' a b (i : Int) (j : Int) = some true := by
          intro n'
          induction n' with
          | zero => intro j _ h; omega
          | succ n' ih2 =>
            intro j hj hn'
            show f45.s1 L N _ _ (f45.l1 L N _ _ n') a b (i : Int) (j : Int) = _
            unfold f45.s1 f45.s1'
            by_cases hji : j < i
            · have hja : j < a.length := by omega
              have hib : i < b.length := by omega
              have hjb : j < b.length := by omega
              rw [dt (show (j : Int) < (i : Int) by omega), cond_true]
              simp only [le0, lt_cast hlt, lt_cast hja, lt_cast hib, lt_cast hjb, Bool.and_true, cond_true, Int.toNat_natCast, atD]
              rw [wi_nat (by omega)]
              cases hc : (a.getD i 0 == a.getD j 0) with
              | false => rw [cond_false]; exact ih2 (j + 1) (by omega) (by omega)
              | true =>
                have e := h i j hlt hja (eq_of_beq hc)
                rw [cond_true, e, bne_self_eq_false, cond_false]
                exact ih2 (j + 1) (by omega) (by omega)
            · rw [df (show ¬ (j : Int) < (i : Int) by omega), cond_false]
              show f45.l0 L N _ _ n a b (wi ((i : Int) + 1)) = _
              rw [wi_nat (by omega)]
              exact ih (i + 1) (by omega) (by omega)
        exact row L 0 (by omega) (by omega)
      · rw [ge_cast hlt, cond_false]; rfl
  exact key L 0 (by omega) (by omega)
theorem alikeC (L N : Nat) (g : Graph) (hg : g.moves.length + gsize g.moves ≤ 1048576) (hL : 8589934592 ≤ L) :
    ∃ q, f44 L N g = some q ∧ q.length ≤ 60 ∧ (graphOk g = false → q = []) ∧ (graphOk g = true → ∃ pre, Chain (Akin g.moves) g.moves.length pre q ∧ Fix (Akin g.moves) g.moves.length q) := by
  have hge : Graph.mk g.moves = g := by cases g; rfl
  have h1 := gok1_ok L N g (by omega) hg
  cases hok : graphOk g with
  | false =>
    refine ⟨[], ?_, by simp, fun _ => rfl, (fun h => by cases h)⟩
    show f44.b' L N some g = _
    unfold f44.b'
    rw [hge, h1, Option.bind_some, hok, Bool.not_false, cond_true]
  | true =>
    have hm := leads_of hok hg
    have hn := hm.1
    obtain ⟨pre, q, c3, c5, c6, c7⟩ := chainI L N g.moves hm hL
    have hql := c7.1
    have c4 := classesI L N g.moves c3 c5 (by omega)
    refine ⟨q, ?_, by omega, (fun h => by cases h), fun _ => ⟨pre, c6, c7⟩⟩
    show f44.b' L N some g = _
    unfold f44.b'
    rw [hge, h1, Option.bind_some, hok, Bool.not_true, cond_false, show f86 L N g = some q from (by rw [← hge]; exact c4), Option.bind_some]
end Go.Proofs.Ytdfjdbpklbehoaa.Ev
namespace Go.Proofs.Ytdfjdbpklbehoaa.Ev
open Go
set_option linter.unusedVariables false
def BOk (c : List Int) : Prop := c.length ≤ 2000 ∧ ∀ b ∈ c, 0 ≤ b ∧ b ≤ 255
theorem BOk.at {c : List Int} (h : BOk c) (i : Nat) : 0 ≤ listAt c (0 : Int) i ∧ listAt c (0 : Int) i ≤ 255 := by
  by_cases hi : i < c.length
  · rw [at_lt hi]; exact h.2 _ (List.getElem_mem hi)
  · have : listAt c (0 : Int) i = 0 := by
      unfold listAt
      rw [List.getD_eq_getElem?_getD, List.getElem?_eq_none (by omega)]; rfl
    omega
theorem xor_nonneg {a b : Int} (a0 : 0 ≤ a) (a1 : a < 9223372036854775808) (b0 : 0 ≤ b) (b1 : b < 9223372036854775808) :
    0 ≤ IntKind.wrap .i64 ((BitVec.ofInt (IntKind.bits .i64) a ^^^ BitVec.ofInt (IntKind.bits .i64) b).toNat) := by
  have key : ((BitVec.ofInt (IntKind.bits .i64) a ^^^ BitVec.ofInt (IntKind.bits .i64) b).toNat) < 9223372036854775808 := by
    rw [BitVec.toNat_xor]
    have h1 : (BitVec.ofInt (IntKind.bits .i64) a).toNat < 2 ^ 63 := by
      rw [BitVec.toNat_ofInt]
      have : ((2 ^ IntKind.bits .i64 : Nat) : Int) = 18446744073709551616 := by decide
      rw [this]; omega
    have h2 : (BitVec.ofInt (IntKind.bits .i64) b).toNat < 2 ^ 63 := by
      rw [BitVec.toNat_ofInt]
      have : ((2 ^ IntKind.bits .i64 : Nat) : Int) = 18446744073709551616 := by decide
      rw [this]; omega
    have := Nat.xor_lt_two_pow h1 h2
    omega
  have := wi_id (n := ((BitVec.ofInt (IntKind.bits .i64) a ^^^ BitVec.ofInt (IntKind.bits .i64) b).toNat : Int)) (by omega) (by omega)
  unfold wi at this
  rw [this]; omega
theorem tmod_range {x n : Int} (h0 : 0 ≤ x) (h1 : 1 ≤ n) : 0 ≤ Int.tmod x n ∧ Int.tmod x n < n :=
  ⟨Int.tmod_nonneg n h0, Int.tmod_lt_of_pos x (by omega)⟩
theorem pick_ok (L N : Nat) {c : List Int} (hb : BOk c) {p n : Int} (p0 : 0 ≤ p) (p1 : p ≤ 1099511627776) (n1 : 1 ≤ n) : ∃ r, f91 L N c p n = some (r, c, p + 1) ∧ 0 ≤ r ∧ r < n := by
  show ∃ r, f91.b L N (fun a0 a1 a2 => some (a0, a1, a2)) c p n = _ ∧ _
  unfold f91.b f91.b' f91.j0'
  have hw : wi (p + 1) = p + 1 := wi_id (by omega) (by omega)
  have hw1 : wi (p + 1 - 1) = p := by
    have h1 : p + 1 - 1 = p := by omega
    rw [h1]; exact wi_id (by omega) (by omega)
  rw [df (show ¬ n < 1 by omega), cond_false, hw, hw1]
  have hl := hb.1
  by_cases he : c.length = 0
  · have : ((c.length : Int) == 0) = true := by rw [beq_iff_eq]; omega
    rw [this, cond_true]
    exact ⟨0, rfl, by omega, by omega⟩
  · have : ((c.length : Int) == 0) = false := by simp; intro h; simp [h] at he
    rw [this, cond_false]
    by_cases hlt : p < (c.length : Int)
    · rw [dt hlt, cond_true, dt p0, Bool.true_and, cond_true, df (show ¬ n = 0 by omega), cond_false]
      have := hb.at p.toNat
      rw [wi_id (by omega) (by omega)]
      have := tmod_range this.1 n1
      exact ⟨_, rfl, this.1, this.2⟩
    · rw [df hlt, cond_false]
      have hq := tmod_range (n := (c.length : Int)) p0 (by omega)
      have h7 : wi (wi (p * 7) + 3) = p * 7 + 3 := by rw [wi_id (n := p * 7) (by omega) (by omega), wi_id (by omega) (by omega)]
      have hr := tmod_range (x := p * 7 + 3) (n := (c.length : Int)) (by omega) (by omega)
      rw [df (show ¬ (c.length : Int) = 0 by omega), cond_false, dt hq.1, dt hq.2, Bool.true_and, cond_true, h7, dt hr.1, dt hr.2, Bool.true_and, cond_true, df (show ¬ n = 0 by omega)]
      simp only [cond_false, show decide ((64 : Int) = 0) = false from rfl]
      have b1 := hb.at (Int.tmod p (c.length : Int)).toNat
      have b2 := hb.at (Int.tmod (p * 7 + 3) (c.length : Int)).toNat
      generalize listAt c (0 : Int) (Int.tmod p (c.length : Int)).toNat = x1 at b1 ⊢
      generalize listAt c (0 : Int) (Int.tmod (p * 7 + 3) (c.length : Int)).toNat = x2 at b2 ⊢
      have hd0 : 0 ≤ Int.tdiv p (c.length : Int) := Int.tdiv_nonneg p0 (by omega)
      have hd1 : Int.tdiv p (c.length : Int) ≤ p := Int.tdiv_le_self _ p0
      generalize Int.tdiv p (c.length : Int) = q at hd0 hd1 ⊢
      rw [wi_id (n := x1) (by omega) (by omega), wi_id (n := x2) (by omega) (by omega), wi_id (n := x1 * 131) (by omega) (by omega), wi_id (n := x2 * 1117) (by omega) (by omega), wi_id (n := x1 * 131 + x2 * 1117) (by omega) (by omega),
        wi_id (n := p * 29) (by omega) (by omega), wi_id (n := x1 * 131 + x2 * 1117 + p * 29) (by omega) (by omega), wi_id (n := q) (by omega) (by omega), wi_id (n := q * 53) (by omega) (by omega), wi_id (n := x1 * 131 + x2 * 1117 + p * 29 + q * 53) (by omega) (by omega)]
      have ha0 : 0 ≤ x1 * 131 + x2 * 1117 + p * 29 + q * 53 := by omega
      have ha1 : x1 * 131 + x2 * 1117 + p * 29 + q * 53 < 1000000000000000 := by omega
      generalize x1 * 131 + x2 * 1117 + p * 29 + q * 53 = a at ha0 ha1 ⊢
      have hs0 : 0 ≤ Int.tdiv a 64 := Int.tdiv_nonneg ha0 (by omega)
      have hs1 : Int.tdiv a 64 ≤ a := Int.tdiv_le_self _ ha0
      generalize Int.tdiv a 64 = s at hs0 hs1 ⊢
      rw [wi_id (n := s) (by omega) (by omega)]
      have := tmod_range (xor_nonneg ha0 (by omega) hs0 (by omega)) n1
      exact ⟨_, rfl, this.1, this.2⟩
theorem open_ok (L N : Nat) {x : List Int} (hx : DatOk (.sl (.int .u8)) x) : ∃ c, f68 L N x = some (c, 0) ∧ BOk c := by
  have hb : ∀ b ∈ x, 0 ≤ b ∧ b ≤ 255 := by
    intro b hb
    have h1 := hx (.sl (x.map fun n => [.int .u8 n])) (by simp only [enc, List.mem_cons, List.not_mem_nil, or_false])
    cases h1 with | sl _ h1 h2 =>
    have h3 := h2 [.int .u8 b] (List.mem_map.2 ⟨b, hb, rfl⟩) (.int .u8 b) (.head _)
    cases h3 with | int _ _ h3 =>
    simp only [Lit.wf, Bool.and_eq_true, decide_eq_true_eq] at h3
    exact h3
  show ∃ c, f68.b L N (fun a0 a1 => some (a0, a1)) x = _ ∧ _
  unfold f68.b f68.b'
  by_cases h : (x.length : Int) > 2000
  · rw [dt h, cond_true]
    have hs : slB (0 : Int) (2000 : Int) x.length = true := by
      unfold slB
      rw [dt (show (0 : Int) ≤ 0 by omega), dt (show (0 : Int) ≤ 2000 by omega), dt (show (2000 : Int) ≤ (x.length : Int) by omega)]; rfl
    rw [hs, cond_true]
    refine ⟨_, rfl, ?_, fun b hb' => ?_⟩
    · unfold slX
      rw [List.length_take]
      have : (2000 : Int).toNat - (0 : Int).toNat = 2000 := rfl
      rw [this]; omega
    · unfold slX at hb'
      exact hb b (List.mem_of_mem_drop (List.mem_of_mem_take hb'))
  · rw [df h, cond_false]
    exact ⟨x, rfl, by omega, hb⟩
theorem do_ok (L N : Nat) {c : List Int} (hb : BOk c) {p : Int} (p0 : 0 ≤ p) (p1 : p ≤ 1099511600000) : ∃ r, f134 L N c p = some (r, c, p + 2) ∧ -4 ≤ r ∧ r ≤ 4 := by
  show ∃ r, f134.b L N (fun a0 a1 a2 => some (a0, a1, a2)) c p = _ ∧ _
  unfold f134.b f134.b'
  obtain ⟨r, hr, r0, r1⟩ := pick_ok L N hb p0 (by omega) (show (1 : Int) ≤ 3 by omega)
  rw [hr]
  simp only [Option.bind_some]
  by_cases h : r > 0
  · rw [dt h, cond_true]
    obtain ⟨s, hs, s0, s1⟩ := pick_ok L N hb (p := p + 1) (by omega) (by omega) (show (1 : Int) ≤ 5 by omega)
    rw [hs]
    simp only [Option.bind_some]
    rw [wi_id (by omega) (by omega)]
    exact ⟨_, by rw [show p + 1 + 1 = p + 2 by omega], by omega, by omega⟩
  · rw [df h, cond_false]
    obtain ⟨s, hs, s0, s1⟩ := pick_ok L N hb (p := p + 1) (by omega) (by omega) (show (1 : Int) ≤ 9 by omega)
    rw [hs]
    simp only [Option.bind_some]
    rw [wi_id (by omega) (by omega)]
    exact ⟨_, by rw [show p + 1 + 1 = p + 2 by omega], by omega, by omega⟩
end Go.Proofs.Ytdfjdbpklbehoaa.Ev
namespace Go.Proofs.Ytdfjdbpklbehoaa.Ev
open Go
set_option linter.unusedVariables false
mutual
def nodes : Tree → Nat
  | .mk _ _ ps => 1 + nodess ps
def nodess : List Tree → Nat
  | [] => 0
  | p :: r => nodes p + nodess r
end
theorem nodes_pos (t : Tree) : 1 ≤ nodes t := by cases t; simp [nodes]
theorem nodess_len : ∀ ps : List Tree, ps.length ≤ nodess ps
  | [] => by simp
  | p :: r => by have := nodess_len r; have := nodes_pos p; simp [nodess]; omega
theorem nodess_drop {ps : List Tree} {i : Nat} (h : i < ps.length) : nodess (ps.drop i) = nodes ps[i] + nodess (ps.drop (i + 1)) := by
  rw [List.drop_eq_getElem_cons h]; rfl
theorem nodess_drop_le : ∀ (ps : List Tree) (i : Nat), nodess (ps.drop i) ≤ nodess ps
  | [], i => by simp
  | p :: r, 0 => by simp
  | p :: r, i + 1 => by have := nodess_drop_le r i; simp [nodess]; omega
theorem nodes_get {ps : List Tree} {i : Nat} (h : i < ps.length) : nodes ps[i] ≤ nodess ps := by
  have h1 := nodess_drop h
  have h2 := nodess_drop_le ps i
  omega
end Go.Proofs.Ytdfjdbpklbehoaa.Ev
namespace Go.Proofs.Ytdfjdbpklbehoaa.Ev
open Go
set_option linter.unusedVariables false
set_option linter.unusedSimpArgs false
theorem tree_eta (t : Tree) : Tree.mk t.op t.n t.parts = t := by cases t; rfl
theorem nodes_mk (o n : Int) (t : Tree) : nodes (Tree.mk o n t.parts) = nodes t := by cases t; simp [nodes, Tree.parts]
theorem pow3_pos (d : Nat) : 1 ≤ 3 ^ d := Nat.one_le_pow _ _ (by omega)
theorem pow2_pos (d : Nat) : 1 ≤ 2 ^ d := Nat.one_le_pow _ _ (by omega)
theorem good_draw (L N : Nat) {c : List Int} (hb : BOk c) : ∀ (m d : Nat) (p n : Int) (b : Bool), d < m → d ≤ 6 → 0 ≤ p → p + 20 * ((3 ^ d : Nat) : Int) ≤ 1099511000000 → 0 ≤ n →
    ∃ t p', f147 L N m c p (d : Int) n b = some (t, c, p') ∧ p ≤ p' ∧ p' ≤ p + 20 * ((3 ^ d : Nat) : Int) ∧ nodes t + 1 ≤ 3 * 2 ^ d := by
  intro m
  induction m with
  | zero => intro d p n b h; omega
  | succ m ih =>
    intro d p n b hdm hd p0 pb n0
    have h3 := pow3_pos d
    have h2 := pow2_pos d
    show ∃ t p', f147.b L N (f147 L N m) (fun a0 a1 a2 => some (a0, a1, a2)) c p (d : Int) n b = _ ∧ _
    unfold f147.b f147.b'
  
    have tail : ∀ (v q : Int) (call : Bool), 0 ≤ v → (d = 0 → v < 2) → p ≤ q → q ≤ p + 2 → (call = true → 0 < n) → (v = 0 ∨ 1 ≤ v) →
        ∃ t p', f147.j0' L N (f147 L N m) (fun a0 a1 a2 => some (a0, a1, a2)) (d : Int) n b v call c q (0 : Int) (0 : Int) = some (t, c, p') ∧ p ≤ p' ∧ p' ≤ p + 20 * ((3 ^ d : Nat) : Int) ∧ nodes t + 1 ≤ 3 * 2 ^ d := by
      intro v q call v0 vd hq0 hq1 hcall _
      unfold f147.j0'
      cases call with
      | true =>
        rw [cond_true]
        obtain ⟨r, hr, r0, r1⟩ := pick_ok L N hb (p := q) (n := n) (by omega) (by omega) (by have := hcall rfl; omega)
        rw [hr]
        simp only [Option.bind_some]
        exact ⟨_, _, rfl, by omega, by omega, by simp only [nodes, nodess]; omega⟩
      | false =>
        rw [cond_false]
        by_cases hv0 : v = 0
        · rw [show (v == 0) = true by simpa using hv0, cond_true]
          exact ⟨_, _, rfl, by omega, by omega, by simp only [nodes, nodess]; omega⟩
        · rw [show (v == 0) = false by simpa using hv0, cond_false]
          by_cases hv5 : v < 5
          · rw [dt hv5, cond_true]
            obtain ⟨r, hr, r0, r1⟩ := do_ok L N hb (p := q) (by omega) (by omega)
            rw [hr]
            simp only [Option.bind_some]
            by_cases hdz : d = 0
            · subst hdz
              rw [show (((0 : Nat) : Int) == 0) = true from rfl, cond_true]
              exact ⟨_, _, rfl, by omega, by omega, by simp [nodes, nodess]⟩
            · obtain ⟨d', rfl⟩ : ∃ d', d = d' + 1 := ⟨d - 1, by omega⟩
              have hpw : ((3 ^ (d' + 1) : Nat) : Int) = 3 * ((3 ^ d' : Nat) : Int) := by rw [Nat.pow_succ]; omega
              have hpw2 : 2 ^ (d' + 1) = 2 * 2 ^ d' := by rw [Nat.pow_succ]; omega
              have hw : wi (((d' + 1 : Nat) : Int) - 1) = (d' : Int) := by rw [wi_id (by omega) (by omega)]; omega
              have h3' := pow3_pos d'
              rw [show ((((d' + 1 : Nat) : Int)) == 0) = false by simp; omega, cond_false, hw]
              have hmax : (bif decide ((d' : Int) > 0) then (d' : Int) else 0) = (d' : Int) := by
                by_cases h : (d' : Int) > 0
                · rw [dt h, cond_true]
                · rw [df h, cond_false]; omega
              rw [hmax]
              obtain ⟨t, p', e, e1, e2, e3⟩ := ih d' (q + 2) n true (by omega) (by omega) (by omega) (by omega) n0
              rw [e]
              simp only [Option.bind_some]
              exact ⟨_, _, rfl, by omega, by omega, by simp only [nodes, nodess]; omega⟩
          · rw [df hv5, cond_false]
            have hdz : d ≠ 0 := fun h => by have := vd h; omega
            obtain ⟨d', rfl⟩ : ∃ d', d = d' + 1 := ⟨d - 1, by omega⟩
            have hpw : ((3 ^ (d' + 1) : Nat) : Int) = 3 * ((3 ^ d' : Nat) : Int) := by rw [Nat.pow_succ]; omega
            have hpw2 : 2 ^ (d' + 1) = 2 * 2 ^ d' := by rw [Nat.pow_succ]; omega
            have hw : wi (((d' + 1 : Nat) : Int) - 1) = (d' : Int) := by rw [wi_id (by omega) (by omega)]; omega
            have h3' := pow3_pos d'
            by_cases hv5' : v = 5
            · rw [show (v == 5) = true by simpa using hv5', cond_true]
              obtain ⟨r, hr, r0, r1⟩ := pick_ok L N hb (p := q) (n := 4) (by omega) (by omega) (by omega)
              rw [hr]
              simp only [Option.bind_some, hw]
              obtain ⟨t, p', e, e1, e2, e3⟩ := ih d' (q + 1) n b (by omega) (by omega) (by omega) (by omega) n0
              rw [e]
              simp only [Option.bind_some]
              exact ⟨_, _, rfl, by omega, by omega, by simp only [nodes, nodess]; omega⟩
            · rw [show (v == 5) = false by simpa using hv5', cond_false, hw]
              obtain ⟨t, p', e, e1, e2, e3⟩ := ih d' q n b (by omega) (by omega) (by omega) (by omega) n0
              obtain ⟨t2, p2, f, f1, f2, f3⟩ := ih d' p' n b (by omega) (by omega) (by omega) (by omega) n0
              rw [e]
              simp only [Option.bind_some, f, tree_eta]
              cases hv8 : (v == 8) with
              | true =>
                rw [cond_true]
                exact ⟨_, _, rfl, by omega, by omega, by simp only [nodes, nodess]; omega⟩
              | false =>
                rw [cond_false]
                exact ⟨_, _, rfl, by omega, by omega, by simp only [nodes, nodess]; omega⟩
    have mid : ∀ (v q : Int), 0 ≤ v → (d = 0 → v < 2) → p ≤ q → q ≤ p + 2 →
        ∃ t p', f147.j1' L N (f147 L N m) (fun a0 a1 a2 => some (a0, a1, a2)) (d : Int) n b v c q (0 : Int) (0 : Int) = some (t, c, p') ∧ p ≤ p' ∧ p' ≤ p + 20 * ((3 ^ d : Nat) : Int) ∧ nodes t + 1 ≤ 3 * 2 ^ d := by
      intro v q v0 vd hq0 hq1
      unfold f147.j1'
      by_cases h2' : v < 2
      · rw [dt h2', cond_true]
        by_cases hn : n > 0
        · rw [dt hn, cond_true]
          exact tail v q b v0 vd hq0 hq1 (fun _ => by omega) (by omega)
        · rw [df hn, cond_false]
          exact tail v q false v0 vd hq0 hq1 (fun h => by cases h) (by omega)
      · rw [df h2', cond_false]
        exact tail v q false v0 vd hq0 hq1 (fun h => by cases h) (by omega)
    obtain ⟨r, hr, r0, r1⟩ := pick_ok L N hb (p := p) (n := 9) p0 (by omega) (by omega)
    rw [hr]
    simp only [Option.bind_some]
    by_cases hdz : d = 0
    · subst hdz
      obtain ⟨s, hs, s0, s1⟩ := pick_ok L N hb (p := p + 1) (n := 2) (by omega) (by omega) (by omega)
      rw [show (((0 : Nat) : Int) == 0) = true from rfl, cond_true, hs]
      simp only [Option.bind_some]
      exact mid s (p + 1 + 1) s0 (fun _ => s1) (by omega) (by omega)
    · rw [show ((d : Int) == 0) = false by simp; omega, cond_false]
      exact mid r (p + 1) r0 (fun h => absurd h hdz) (by omega) (by omega)
theorem term_draw (L N : Nat) (hN : 8 ≤ N) {c : List Int} (hb : BOk c) {p n : Int} (p0 : 0 ≤ p) (pb : p ≤ 1000000000) (n0 : 0 ≤ n) :
    ∃ t p', f131 L N c p n = some (t, c, p') ∧ p ≤ p' ∧ p' ≤ p + 10000 ∧ nodes t ≤ 50 := by
  show ∃ t p', f131.b' L N (fun a0 a1 a2 => some (a0, a1, a2)) c p n = _ ∧ _
  unfold f131.b'
  obtain ⟨r, hr, r0, r1⟩ := pick_ok L N hb (p := p) (n := 4) p0 (by omega) (by omega)
  obtain ⟨k, rfl⟩ := Int.eq_ofNat_of_zero_le r0
  have hw : wi (1 + (k : Int)) = ((k + 1 : Nat) : Int) := by rw [wi_id (by omega) (by omega)]; omega
  have h3 : ((3 ^ (k + 1) : Nat) : Int) ≤ 81 := by have := Nat.pow_le_pow_right (n := 3) (by omega) (show k + 1 ≤ 4 by omega); omega
  have h2 : 2 ^ (k + 1) ≤ 16 := by have := Nat.pow_le_pow_right (n := 2) (by omega) (show k + 1 ≤ 4 by omega); omega
  obtain ⟨t, p', e, e1, e2, e3⟩ := good_draw L N hb N (k + 1) (p + 1) n false (by omega) (by omega) (by omega) (by omega) n0
  obtain ⟨s, hs, s0, s1⟩ := pick_ok L N hb (p := p') (n := 24) (by omega) (by omega) (by omega)
  rw [hr]
  simp only [Option.bind_some, hw, e, hs, tree_eta]
  by_cases q0 : s = 0
  · rw [show (s == 0) = true by simpa using q0, cond_true]
    exact ⟨_, _, rfl, by omega, by omega, by rw [nodes_mk]; omega⟩
  · rw [show (s == 0) = false by simpa using q0, cond_false]
    by_cases q1 : s = 1
    · obtain ⟨u, hu, u0, u1⟩ := pick_ok L N hb (p := p' + 1) (n := 8) (by omega) (by omega) (by omega)
      rw [show (s == 1) = true by simpa using q1, cond_true, hu]
      simp only [Option.bind_some]
      exact ⟨_, _, rfl, by omega, by omega, by rw [nodes_mk]; omega⟩
    · rw [show (s == 1) = false by simpa using q1, cond_false]
      by_cases q2 : s = 2
      · rw [show (s == 2) = true by simpa using q2, cond_true]
        have hlen := nodess_len t.parts
        have hnt : nodes t = 1 + nodess t.parts := by cases t; rfl
        have hlim := lim_eq
        have hle : decide (([(Tree.mk (0 : Int) (0 : Int) [])] : (List Tree)).length + t.parts.length ≤ lim) = true := dt (by simp only [List.length_cons, List.length_nil]; omega)
        rw [hle, cond_true]
        refine ⟨_, _, rfl, by omega, by omega, ?_⟩
        show 1 + (nodes (Tree.mk 0 0 []) + nodess t.parts) ≤ 50
        simp only [nodes, nodess]
        omega
      · rw [show (s == 2) = false by simpa using q2, cond_false]
        exact ⟨_, _, rfl, by omega, by omega, by omega⟩
theorem defs_draw (L N : Nat) (hN : 8 ≤ N) (hL : 8 ≤ L) {c : List Int} (hb : BOk c) {p : Int} (p0 : 0 ≤ p) (pb : p ≤ 1000000000) :
    ∃ ds p', f130 L N c p = some (ds, c, p') ∧ p ≤ p' ∧ p' ≤ p + 10000 ∧ ds.length ≤ 3 ∧ ∀ d ∈ ds, nodes d ≤ 50 := by
  have hlim := lim_eq
  show ∃ ds p', f130.b L N (fun a0 a1 a2 => some (a0, a1, a2)) c p = _ ∧ _
  unfold f130.b f130.b'
  obtain ⟨r, hr, r0, r1⟩ := pick_ok L N hb (p := p) (n := 4) p0 (by omega) (by omega)
  obtain ⟨k, rfl⟩ := Int.eq_ofNat_of_zero_le r0
  rw [hr]
  simp only [Option.bind_some]
  have fin : ∀ (q : Int) (ds : List Tree), p ≤ q → q ≤ p + 9000 → ds.length = k → (∀ d ∈ ds, nodes d ≤ 50) → ∃ ds' p', f130.p0_e0' L N (fun a0 a1 a2 => some (a0, a1, a2)) (k : Int) c q ds = some (ds', c, p') ∧ p ≤ p' ∧ p' ≤ p + 10000 ∧ ds'.length ≤ 3 ∧ ∀ d ∈ ds', nodes d ≤ 50 := by
    intro q ds hq0 hq1 hl hd
    unfold f130.p0_e0'
    have plain : ∀ q', p ≤ q' → q' ≤ p + 10000 → ∃ ds' p', f130.j0' L N (fun a0 a1 a2 => some (a0, a1, a2)) (k : Int) false c q' ds = some (ds', c, p') ∧ p ≤ p' ∧ p' ≤ p + 10000 ∧ ds'.length ≤ 3 ∧ ∀ d ∈ ds', nodes d ≤ 50 := fun q' h1 h2 => by
      unfold f130.j0'
      rw [cond_false]
      exact ⟨_, _, rfl, h1, h2, by omega, hd⟩
    by_cases hk : (k : Int) > 0
    · rw [dt hk, cond_true]
      obtain ⟨s, hs, s0, s1⟩ := pick_ok L N hb (p := q) (n := 20) (by omega) (by omega) (by omega)
      rw [hs]
      simp only [Option.bind_some]
      cases hs0 : (s == 0) with
      | false => exact plain _ (by omega) (by omega)
      | true =>
        unfold f130.j0'
        rw [cond_true]
        obtain ⟨u, hu, u0, u1⟩ := pick_ok L N hb (p := q + 1) (n := (k : Int)) (by omega) (by omega) (by omega)
        obtain ⟨k1, rfl⟩ := Int.eq_ofNat_of_zero_le u0
        have hw : wi ((k : Int) + 1) = ((k + 1 : Nat) : Int) := wi_nat (by omega)
        obtain ⟨v, hv, v0, v1⟩ := pick_ok L N hb (p := q + 1 + 1) (n := ((k + 1 : Nat) : Int)) (by omega) (by omega) (by omega)
        have hkl : k1 < ds.length := by omega
        simp only [hu, Option.bind_some, hw, hv, le0, lt_cast hkl, Bool.and_true, cond_true, Int.toNat_natCast]
        refine ⟨_, _, rfl, by omega, by omega, by simp [hl]; omega, fun d hdm => ?_⟩
        rcases List.mem_or_eq_of_mem_set hdm with h | h
        · exact hd d h
        · rw [h]; simp [nodes, nodess]
    · rw [df hk, cond_false]
      exact plain q hq0 (by omega)
  have key : ∀ (n i : Nat) (q : Int) (ds : List Tree), i ≤ k → k - i < n → ds.length = i → (∀ d ∈ ds, nodes d ≤ 50) → p ≤ q → q ≤ p + 1 + 2000 * (i : Int) →
      ∃ ds' p', f130.l0 L N (fun z6 z7 z8 z9 => f130.p0_e0 L N (fun a0 a1 a2 => some (a0, a1, a2)) z6 z7 z8 z9) n (k : Int) (i : Int) c q ds = some (ds', c, p') ∧ p ≤ p' ∧ p' ≤ p + 10000 ∧ ds'.length ≤ 3 ∧ ∀ d ∈ ds', nodes d ≤ 50 := by
    intro n
    induction n with
    | zero => intro i q ds _ h; omega
    | succ n ih =>
      intro i q ds hi hn hl hd hq0 hq1
      show ∃ ds' p', f130.s0 L N _ (f130.l0 L N _ n) (k : Int) (i : Int) c q ds = _ ∧ _
      unfold f130.s0 f130.s0'
      by_cases hlt : i < k
      · obtain ⟨s, hs, s0, s1⟩ := pick_ok L N hb (p := q) (n := 3) (by omega) (by omega) (by omega)
        obtain ⟨k2, rfl⟩ := Int.eq_ofNat_of_zero_le s0
        have hw : wi (1 + (k2 : Int)) = ((k2 + 1 : Nat) : Int) := by rw [wi_id (by omega) (by omega)]; omega
        have h3 : ((3 ^ (k2 + 1) : Nat) : Int) ≤ 81 := by have := Nat.pow_le_pow_right (n := 3) (by omega) (show k2 + 1 ≤ 4 by omega); omega
        have h2 : 2 ^ (k2 + 1) ≤ 16 := by have := Nat.pow_le_pow_right (n := 2) (by omega) (show k2 + 1 ≤ 4 by omega); omega
        obtain ⟨t, p', e, e1, e2, e3⟩ := good_draw L N hb N (k2 + 1) (q + 1) (k : Int) false (by omega) (by omega) (by omega) (by omega) (by omega)
        have hle : decide (ds.length + ([t] : List Tree).length ≤ lim) = true := dt (by simp only [List.length_cons, List.length_nil]; omega)
        simp only [lt_cast hlt, cond_true, hs, Option.bind_some, hw, e, hle]
        rw [wi_nat (by omega)]
        refine ih (i + 1) p' _ (by omega) (by omega) (by simp [hl]) (fun d hdm => ?_) (by omega) (by omega)
        rcases List.mem_append.1 hdm with h | h
        · exact hd d h
        · rw [List.mem_singleton.1 h]; omega
      · simp only [ge_cast hlt, cond_false]
        have hi' : i = k := by omega
        subst hi'
        exact fin q ds hq0 (by omega) hl hd
  exact key L 0 (p + 1) [] (by omega) (by omega) rfl (fun d h => by cases h) (by omega) (by omega)
theorem called_draw (L N : Nat) (hN : 8 ≤ N) (hL : 8 ≤ L) {c : List Int} (hb : BOk c) {p : Int} (p0 : 0 ≤ p) (pb : p ≤ 100000000) :
    ∃ t ds p', f103 L N c p = some (t, ds, c, p') ∧ p ≤ p' ∧ p' ≤ p + 30000 ∧ nodes t ≤ 50 ∧ ds.length ≤ 3 ∧ ∀ d ∈ ds, nodes d ≤ 50 := by
  show ∃ t ds p', f103.b' L N (fun a0 a1 a2 a3 => some (a0, a1, a2, a3)) c p = _ ∧ _
  unfold f103.b'
  obtain ⟨ds, p1, e, e1, e2, e3, e4⟩ := defs_draw L N hN hL hb p0 (by omega)
  obtain ⟨t, p2, f, f1, f2, f3⟩ := term_draw L N hN hb (p := p1) (n := (ds.length : Int)) (by omega) (by omega) (by omega)
  rw [e]
  simp only [Option.bind_some, f]
  have plain : ∀ q, p ≤ q → q ≤ p + 30000 → ∃ t' ds' p', f103.j0' L N (fun a0 a1 a2 a3 => some (a0, a1, a2, a3)) ds false c q (0 : Int) (0 : Int) t.op t.n t.parts = some (t', ds', c, p') ∧ p ≤ p' ∧ p' ≤ p + 30000 ∧ nodes t' ≤ 50 ∧ ds'.length ≤ 3 ∧ ∀ d ∈ ds', nodes d ≤ 50 := fun q h1 h2 => by
    unfold f103.j0'
    rw [cond_false]
    exact ⟨_, _, _, rfl, h1, h2, by show nodes (Tree.mk t.op t.n t.parts) ≤ 50; rw [tree_eta]; exact f3, e3, e4⟩
  by_cases hk : (ds.length : Int) > 0
  · rw [dt hk, cond_true]
    obtain ⟨s, hs, s0, s1⟩ := pick_ok L N hb (p := p2) (n := 3) (by omega) (by omega) (by omega)
    rw [hs]
    simp only [Option.bind_some]
    cases hs0 : (s == 0) with
    | false => exact plain _ (by omega) (by omega)
    | true =>
      unfold f103.j0'
      rw [cond_true]
      obtain ⟨u, hu, u0, u1⟩ := pick_ok L N hb (p := p2 + 1) (n := (ds.length : Int)) (by omega) (by omega) (by omega)
      rw [hu]
      simp only [Option.bind_some]
      exact ⟨_, _, _, rfl, by omega, by omega, by simp [nodes, nodess], e3, e4⟩
  · rw [df hk, cond_false]
    exact plain p2 (by omega) (by omega)
end Go.Proofs.Ytdfjdbpklbehoaa.Ev
namespace Go.Proofs.Ytdfjdbpklbehoaa.Ev
open Go
set_option linter.unusedVariables false
set_option linter.unusedSimpArgs false
inductive WT : Tree → Nat → Prop
  | nil : WT (.mk 0 0 []) 1
  | act (n : Int) (t : Tree) (k : Nat) (hn : -4 ≤ n ∧ n ≤ 4) (h : WT t k) : WT (.mk 1 n [t]) (k + 1)
  | sum (a b : Tree) (i j : Nat) (ha : WT a i) (hb : WT b j) : WT (.mk 2 0 [a, b]) (i + j + 1)
  | par (a b : Tree) (i j : Nat) (ha : WT a i) (hb : WT b j) : WT (.mk 3 0 [a, b]) (i + j + 1)
  | hide (n : Int) (t : Tree) (k : Nat) (hn : 0 ≤ n ∧ n ≤ 3) (h : WT t k) : WT (.mk 4 n [t]) (k + 1)
  | call (n : Int) (hn : 0 ≤ n ∧ n ≤ 2) : WT (.mk 5 n []) 1
theorem WT.pos {t : Tree} {k : Nat} (h : WT t k) : 1 ≤ k := by cases h <;> omega
theorem WT.nodes_eq {t : Tree} {k : Nat} (h : WT t k) : nodes t = k := by
  induction h with
  | nil => simp [nodes, nodess]
  | act n t k hn h ih => simp only [nodes, nodess]; omega
  | sum a b i j ha hb iha ihb => simp only [nodes, nodess]; omega
  | par a b i j ha hb iha ihb => simp only [nodes, nodess]; omega
  | hide n t k hn h ih => simp only [nodes, nodess]; omega
  | call n hn => simp [nodes, nodess]
inductive CL (n : Int) : Bool → Tree → Prop
  | call (b : Bool) (x : Int) (ps : List Tree) (h : x < n) : CL n b (.mk 5 x ps)
  | stop (x : Int) (ps : List Tree) : CL n true (.mk 1 x ps)
  | node (b : Bool) (o x : Int) (ps : List Tree) (ho : o ≠ 5) (h : ∀ p ∈ ps, CL n b p) : CL n b (.mk o x ps)
theorem CL.sub {n : Int} {o x : Int} {ps : List Tree} (h : CL n false (.mk o x ps)) (ho : o ≠ 5) : ∀ p ∈ ps, CL n false p := by
  cases h with
  | call b x ps h => exact absurd rfl ho
  | node b o x ps ho h => exact h
theorem CL.sub2 {n : Int} {o x : Int} {ps : List Tree} (h : CL n true (.mk o x ps)) (ho : o ≠ 5) (h1 : o ≠ 1) : ∀ p ∈ ps, CL n true p := by
  cases h with
  | call b x ps h => exact absurd rfl ho
  | stop x ps => exact absurd rfl h1
  | node b o x ps ho h => exact h
theorem CL.lt {n : Int} {b : Bool} {x : Int} {ps : List Tree} (h : CL n b (.mk 5 x ps)) : x < n := by
  cases h with
  | call b x ps h => exact h
  | node b o x ps ho h => exact absurd rfl ho
theorem l2Nodes_ok (L N : Nat) : ∀ (m : Nat) (t : Tree), nodes t ≤ m → nodes t < L → ∃ r : Int, f152 L N m t = some r ∧ 0 ≤ r ∧ r ≤ 1000 ∧ (1 ≤ r → r < 1000 → WT t r.toNat) := by
  intro m
  induction m with
  | zero => intro t h; have := nodes_pos t; omega
  | succ m ih =>
    intro t ht hL
    obtain ⟨o, x, ps⟩ := t
    simp only [nodes] at ht hL
    have hpl := nodess_len ps
    show ∃ r, f152.b L N (f152 L N m) some (.mk o x ps) = some r ∧ _
    unfold f152.b f152.b'
    simp only [Tree.op, Tree.n, Tree.parts]
  
    have sub : ∀ p ∈ ps, ∃ r : Int, f152 L N m p = some r ∧ 0 ≤ r ∧ r ≤ 1000 ∧ (1 ≤ r → r < 1000 → WT p r.toNat) := fun p hp => by
      obtain ⟨i, hi, rfl⟩ := List.mem_iff_getElem.1 hp
      have := nodes_get hi
      exact ih _ (by omega) (by omega)
    obtain ⟨L', rfl⟩ : ∃ L', L = L' + 1 := ⟨L - 1, by omega⟩
    have fin : ∀ (c : Nat) (ok : Bool) (P : Prop), c ≤ 2 → (ok = true → P) →
        (P → (c = 0 → ps = [] → WT (.mk o x ps) 1) ∧ (∀ a k, c = 1 → ps = [a] → WT a k → WT (.mk o x ps) (k + 1)) ∧ (∀ a b i j, c = 2 → ps = [a, b] → WT a i → WT b j → WT (.mk o x ps) (i + j + 1))) →
        ∃ r : Int, f152.j2' (L' + 1) N (f152 (L' + 1) N m) some (fun s24 s25 s26 s27 s28 s29 => f152.l0 (L' + 1) N (f152 (L' + 1) N m) (fun z30 => f152.p0_e1 (L' + 1) N (f152 (L' + 1) N m) some z30) (fun z32 z33 => f152.p0_r (L' + 1) N (f152 (L' + 1) N m) some z32 z33) (L' + 1) s24 s25 s26 s27 s28 s29) (c : Int) ok o x ps = some r ∧ 0 ≤ r ∧ r ≤ 1000 ∧ (1 ≤ r → r < 1000 → WT (.mk o x ps) r.toNat) := by
      intro c ok P hc2 hok hP
      unfold f152.j2'
      cases ok with
      | false => rw [Bool.not_false, cond_true]; exact ⟨0, rfl, by omega, by omega, fun h => by omega⟩
      | true =>
        obtain ⟨w0, w1, w2⟩ := hP (hok rfl)
        rw [Bool.not_true, cond_false]
        by_cases hlen : ps.length = c
        · rw [show ((ps.length : Int) != (c : Int)) = false by simp [hlen], cond_false]
          unfold f152.j1'
          match ps, hlen, sub, hpl with
          | [], hlen, sub, hpl =>
            have hc : c = 0 := by simpa using hlen.symm
            subst hc
            show ∃ r, f152.s0 _ N _ _ _ _ _ _ _ _ _ [] = some r ∧ _
            unfold f152.s0 f152.s0'
            rw [show decide ((0 : Int) < ((0 : Nat) : Int)) = false from rfl, cond_false]
            exact ⟨1, rfl, by omega, by omega, fun _ _ => w0 rfl rfl⟩
          | [a], hlen, sub, hpl =>
            have hc : c = 1 := by simpa using hlen.symm
            subst hc
            obtain ⟨r1, a1, a2, a3, a4⟩ := sub a (.head _)
            obtain ⟨L2, rfl⟩ : ∃ L2, L' = L2 + 1 := ⟨L' - 1, by simp only [List.length_cons, List.length_nil] at hpl; omega⟩
            show ∃ r, f152.s0 _ N _ _ _ _ _ _ _ _ _ [a] = some r ∧ _
            unfold f152.s0 f152.s0'
            rw [show decide ((0 : Int) < ((1 : Nat) : Int)) = true from rfl, cond_true]
            simp only [show (decide ((0 : Int) ≤ 0) && decide ((0 : Int) < (([a] : List Tree).length : Int))) = true from rfl, cond_true, show listAt [a] (Ty.dflt (.st 1)) (0 : Int).toNat = a from rfl, a1, Option.bind_some]
            by_cases hr : r1 = 0
            · rw [show (r1 == 0) = true by simpa using hr, cond_true]
              exact ⟨0, rfl, by omega, by omega, fun h => by omega⟩
            · rw [show (r1 == 0) = false by simpa using hr, cond_false]
              have hw : wi (1 + r1) = 1 + r1 := wi_id (by omega) (by omega)
              show ∃ r, f152.s0 _ N _ _ _ _ _ _ _ _ _ [a] = some r ∧ _
              unfold f152.s0 f152.s0'
              rw [show decide (wi ((0 : Int) + 1) < ((1 : Nat) : Int)) = false from rfl, cond_false, hw]
              refine ⟨_, rfl, ?_⟩
              by_cases hb : 1 + r1 < 1000
              · rw [dt hb, cond_true]
                refine ⟨by omega, by omega, fun _ _ => ?_⟩
                have := w1 a r1.toNat rfl rfl (a4 (by omega) (by omega))
                rw [show (1 + r1).toNat = r1.toNat + 1 by omega]; exact this
              · rw [df hb, cond_false]; exact ⟨by omega, by omega, fun _ h => by omega⟩
          | [a, b], hlen, sub, hpl =>
            have hc : c = 2 := by simpa using hlen.symm
            subst hc
            obtain ⟨r1, a1, a2, a3, a4⟩ := sub a (.head _)
            obtain ⟨r2, b1, b2, b3, b4⟩ := sub b (.tail _ (.head _))
            obtain ⟨L2, rfl⟩ : ∃ L2, L' = L2 + 2 := ⟨L' - 2, by simp only [List.length_cons, List.length_nil] at hpl; omega⟩
            show ∃ r, f152.s0 _ N _ _ _ _ _ _ _ _ _ [a, b] = some r ∧ _
            unfold f152.s0 f152.s0'
            rw [show decide ((0 : Int) < ((2 : Nat) : Int)) = true from rfl, cond_true]
            simp only [show (decide ((0 : Int) ≤ 0) && decide ((0 : Int) < (([a, b] : List Tree).length : Int))) = true from rfl, cond_true, show listAt [a, b] (Ty.dflt (.st 1)) (0 : Int).toNat = a from rfl, a1, Option.bind_some]
            by_cases hr : r1 = 0
            · rw [show (r1 == 0) = true by simpa using hr, cond_true]
              exact ⟨0, rfl, by omega, by omega, fun h => by omega⟩
            · rw [show (r1 == 0) = false by simpa using hr, cond_false]
              have hw : wi (1 + r1) = 1 + r1 := wi_id (by omega) (by omega)
              show ∃ r, f152.s0 _ N _ _ _ _ _ _ _ _ _ [a, b] = some r ∧ _
              unfold f152.s0 f152.s0'
              rw [show decide (wi ((0 : Int) + 1) < ((2 : Nat) : Int)) = true from rfl, cond_true, hw]
              simp only [show (decide ((0 : Int) ≤ wi ((0 : Int) + 1)) && decide (wi ((0 : Int) + 1) < (([a, b] : List Tree).length : Int))) = true from rfl, cond_true, show listAt [a, b] (Ty.dflt (.st 1)) (wi ((0 : Int) + 1)).toNat = b from rfl, b1, Option.bind_some]
              by_cases hr2 : r2 = 0
              · rw [show (r2 == 0) = true by simpa using hr2, cond_true]
                exact ⟨0, rfl, by omega, by omega, fun h => by omega⟩
              · rw [show (r2 == 0) = false by simpa using hr2, cond_false]
                show ∃ r, f152.s0 _ N _ _ _ _ _ _ _ _ _ [a, b] = some r ∧ _
                unfold f152.s0 f152.s0'
                rw [show decide (wi (wi ((0 : Int) + 1) + 1) < ((2 : Nat) : Int)) = false from rfl, cond_false]
                refine ⟨_, rfl, ?_⟩
                by_cases hb : 1 + r1 < 1000
                · rw [dt hb, cond_true, show wi (1 + r1 + r2) = 1 + r1 + r2 from wi_id (by omega) (by omega)]
                  by_cases hb2 : 1 + r1 + r2 < 1000
                  · rw [dt hb2, cond_true]
                    refine ⟨by omega, by omega, fun _ _ => ?_⟩
                    have := w2 a b r1.toNat r2.toNat rfl rfl (a4 (by omega) (by omega)) (b4 (by omega) (by omega))
                    rw [show (1 + r1 + r2).toNat = r1.toNat + r2.toNat + 1 by omega]; exact this
                  · rw [df hb2, cond_false]; exact ⟨by omega, by omega, fun _ h => by omega⟩
                · rw [df hb, cond_false, show wi (1000 + r2) = 1000 + r2 from wi_id (by omega) (by omega), df (by omega), cond_false]
                  exact ⟨by omega, by omega, fun _ h => by omega⟩
          | _ :: _ :: _ :: _, hlen, sub, hpl => simp at hlen; omega
        · rw [show ((ps.length : Int) != (c : Int)) = true by simp; omega, cond_true]
          exact ⟨0, rfl, by omega, by omega, fun h => by omega⟩
    by_cases h0 : o = 0
    · subst h0
      rw [show ((0 : Int) == 0) = true from rfl, cond_true]
      exact fin 0 (x == 0) (x = 0) (by omega) (by simp) fun hx => ⟨fun _ hp => by rw [hx, hp]; exact .nil, fun _ _ h => by omega, fun _ _ _ _ h => by omega⟩
    · rw [show (o == 0) = false by simpa using h0, cond_false]
      by_cases h1 : o = 1
      · subst h1
        rw [show ((1 : Int) == 1) = true from rfl, cond_true, act2_ok, Option.bind_some]
        exact fin 1 _ (-4 ≤ x ∧ x ≤ 4) (by omega) (fun h => of_decide_eq_true h) fun hx => ⟨fun h => by omega, fun a k _ hp hw => by rw [hp]; exact .act x a k hx hw, fun _ _ _ _ h => by omega⟩
      · rw [show (o == 1) = false by simpa using h1, cond_false]
        by_cases h2 : o = 2
        · subst h2
          rw [show ((2 : Int) == 2) = true from rfl, cond_true]
          unfold f152.j0'
          rw [cond_true]
          exact fin 2 (x == 0) (x = 0) (by omega) (by simp) fun hx => ⟨fun h => by omega, fun _ _ h => by omega, fun a b i j _ hp hi hj => by rw [hx, hp]; exact .sum a b i j hi hj⟩
        · rw [show (o == 2) = false by simpa using h2, cond_false]
          unfold f152.j0'
          by_cases h3 : o = 3
          · subst h3
            rw [show ((3 : Int) == 3) = true from rfl, cond_true]
            exact fin 2 (x == 0) (x = 0) (by omega) (by simp) fun hx => ⟨fun h => by omega, fun _ _ h => by omega, fun a b i j _ hp hi hj => by rw [hx, hp]; exact .par a b i j hi hj⟩
          · rw [show (o == 3) = false by simpa using h3, cond_false]
            by_cases h4 : o = 4
            · subst h4
              rw [show ((4 : Int) == 4) = true from rfl, cond_true, in_ok, Option.bind_some]
              exact fin 1 _ (0 ≤ x ∧ x ≤ 3) (by omega) (fun h => of_decide_eq_true h) fun hx => ⟨fun h => by omega, fun a k _ hp hw => by rw [hp]; exact .hide x a k hx hw, fun _ _ _ _ h => by omega⟩
            · rw [show (o == 4) = false by simpa using h4, cond_false]
              by_cases h5 : o = 5
              · subst h5
                rw [show ((5 : Int) == 5) = true from rfl, cond_true, in_ok, Option.bind_some]
                exact fin 0 _ (0 ≤ x ∧ x ≤ 2) (by omega) (fun h => of_decide_eq_true h) fun hx => ⟨fun _ hp => by rw [hp]; exact .call x hx, fun _ _ h => by omega, fun _ _ _ _ h => by omega⟩
              · rw [show (o == 5) = false by simpa using h5, cond_false]
                exact fin 0 false False (by omega) (fun h => by cases h) fun h => h.elim
end Go.Proofs.Ytdfjdbpklbehoaa.Ev
namespace Go.Proofs.Ytdfjdbpklbehoaa.Ev
open Go
set_option linter.unusedVariables false
set_option linter.unusedSimpArgs false
theorem l2Calls_ok (L N : Nat) : ∀ (m : Nat) (t : Tree) (b : Bool), nodes t ≤ m → nodes t < L → nodes t ≤ 1048576 → ∃ c : Int, f158 L N m t b = some c ∧ ∀ n : Int, c < n → CL n b t := by
  intro m
  induction m with
  | zero => intro t b h; have := nodes_pos t; omega
  | succ m ih =>
    intro t b ht hL hsz
    obtain ⟨o, x, ps⟩ := t
    simp only [nodes] at ht hL hsz
    have hpl := nodess_len ps
    show ∃ c, f158.b L N (f158 L N m) some (.mk o x ps) b = some c ∧ _
    unfold f158.b f158.b'
    simp only [Tree.op, Tree.n, Tree.parts]
    by_cases h5 : o = 5
    · subst h5
      rw [show ((5 : Int) == 5) = true from rfl, cond_true]
      exact ⟨x, rfl, fun n h => .call b x ps h⟩
    · rw [show (o == 5) = false by simpa using h5, cond_false]
      by_cases hb : b = true ∧ o = 1
      · obtain ⟨rfl, rfl⟩ := hb
        refine ⟨-1, ?_, fun n _ => .stop x ps⟩
        obtain ⟨L', rfl⟩ : ∃ L', L = L' + 1 := ⟨L - 1, by omega⟩
        show f158.s0 _ N _ _ _ _ _ _ _ _ ps = _
        unfold f158.s0 f158.s0'
        by_cases h0 : (0 : Int) < (ps.length : Int)
        · rw [dt h0]; rfl
        · rw [df h0]; rfl
      · have key : ∀ (n i : Nat) (c : Int), i ≤ ps.length → ps.length - i < n → (∀ (j : Nat) (hj : j < ps.length), j < i → ∀ q : Int, c < q → CL q b ps[j]) →
            ∃ c' : Int, f158.l0 L N (f158 L N m) (fun z13 => f158.p0_e0 L N (f158 L N m) some z13) n b c (i : Int) o x ps = some c' ∧ ∀ q : Int, c' < q → ∀ p ∈ ps, CL q b p := by
          intro n
          induction n with
          | zero => intro i c _ h; omega
          | succ n ihn =>
            intro i c hi hn hc
            show ∃ c', f158.s0 L N _ _ (f158.l0 L N _ _ n) b c (i : Int) o x ps = some c' ∧ _
            unfold f158.s0 f158.s0'
            by_cases hlt : i < ps.length
            · have hg := nodes_get hlt
              obtain ⟨c2, e, hc2⟩ := ih ps[i] b (by omega) (by omega) (by omega)
              have go : ∃ c', f158.j0' L N (f158 L N m) (fun z13 => f158.p0_e0 L N (f158 L N m) some z13) (f158.l0 L N (f158 L N m) (fun z13 => f158.p0_e0 L N (f158 L N m) some z13) n) b c (i : Int) o x ps = some c' ∧ ∀ q : Int, c' < q → ∀ p ∈ ps, CL q b p := by
                unfold f158.j0'
                simp only [le0, lt_cast hlt, Bool.and_true, cond_true, Int.toNat_natCast, at_lt hlt, e, Option.bind_some]
                rw [wi_nat (by omega)]
                refine ihn (i + 1) _ (by omega) (by omega) fun j hj hji q hq => ?_
                by_cases hgt : c2 > c
                · rw [dt hgt, cond_true] at hq
                  by_cases e : j = i
                  · subst e; exact hc2 q hq
                  · exact hc j hj (by omega) q (by omega)
                · rw [df hgt, cond_false] at hq
                  by_cases e : j = i
                  · subst e; exact hc2 q (by omega)
                  · exact hc j hj (by omega) q hq
              rw [lt_cast hlt, cond_true]
              cases b with
              | true =>
                have h1 : o ≠ 1 := fun h => hb ⟨rfl, h⟩
                rw [cond_true, show (o == 1) = false by simpa using h1, Bool.not_false, cond_true]
                exact go
              | false => exact go
            · rw [ge_cast hlt, cond_false]
              exact ⟨c, rfl, fun q hq p hp => by
                obtain ⟨j, hj, rfl⟩ := List.mem_iff_getElem.1 hp
                exact hc j hj (by omega) q hq⟩
        obtain ⟨c, e, hc⟩ := key L 0 (-1) (by omega) (by omega) (fun j hj h => by omega)
        exact ⟨c, e, fun n hn => .node b o x ps h5 (hc n hn)⟩
theorem fits_ok (L N : Nat) (t : Tree) (n : Int) (h : nodes t ≤ 1000) (hN : 1000 ≤ N) (hL : 1000 < L) : ∃ r, f149 L N t n = some r ∧ (r = true → ∃ k, k ≤ 24 ∧ WT t k ∧ (0 ≤ n ∧ n ≤ 3) ∧ CL n false t) := by
  obtain ⟨r, e, r0, r1, hw⟩ := l2Nodes_ok L N N t (by omega) (by omega)
  obtain ⟨c, f, hc⟩ := l2Calls_ok L N N t false (by omega) (by omega) (by omega)
  have hok : f159 L N t = some (decide (1 ≤ r ∧ r ≤ 24)) := by
    show f159.b' L N some t = _
    unfold f159.b'
    rw [tree_eta, e, Option.bind_some, in_ok, Option.bind_some]
  show ∃ r, f149.b' L N some t n = some r ∧ _
  unfold f149.b'
  rw [tree_eta, hok, Option.bind_some]
  by_cases h1 : 1 ≤ r ∧ r ≤ 24
  · rw [dt h1, cond_true, in_ok, Option.bind_some]
    by_cases h2 : 0 ≤ n ∧ n ≤ 3
    · rw [dt h2, cond_true, f, Option.bind_some]
      refine ⟨_, rfl, fun h3 => ⟨r.toNat, by omega, hw (by omega) (by omega), h2, hc n (of_decide_eq_true h3)⟩⟩
    · rw [df h2, cond_false]
      exact ⟨false, rfl, fun h => by cases h⟩
  · rw [df h1, cond_false]
    exact ⟨false, rfl, fun h => by cases h⟩
def DefsW (ds : List Tree) : Prop := ds.length ≤ 3 ∧ ∀ d ∈ ds, ∃ k, k ≤ 24 ∧ WT d k ∧ CL (ds.length : Int) false d ∧ CL 0 true d
theorem defsOk_ok (L N : Nat) (ds : List Tree) (h : ∀ d ∈ ds, nodes d ≤ 1000) (hl : ds.length ≤ 1000) (hN : 1000 ≤ N) (hL : 1001 < L) : ∃ r, f148 L N ds = some r ∧ (r = true → DefsW ds) := by
  show ∃ r, f148.b L N some ds = some r ∧ _
  unfold f148.b f148.b'
  have key : ∀ (n i : Nat), i ≤ ds.length → ds.length - i < n → (∀ (j : Nat) (hj : j < ds.length), j < i → ∃ k, k ≤ 24 ∧ WT ds[j] k ∧ CL (ds.length : Int) false ds[j] ∧ CL 0 true ds[j]) →
      ∃ r, f148.l0 L N (fun z2 => f148.p0_e0 L N some z2) (fun z8 z9 => f148.p0_r L N some z8 z9) n ds (i : Int) = some r ∧ (r = true → DefsW ds) := by
    intro n
    induction n with
    | zero => intro i _ h; omega
    | succ n ih =>
      intro i hi hn hd
      show ∃ r, f148.s0 L N _ _ (f148.l0 L N _ _ n) ds (i : Int) = some r ∧ _
      unfold f148.s0 f148.s0'
      by_cases hlt : i < ds.length
      · have hdn := h ds[i] (List.getElem_mem hlt)
        obtain ⟨r, e, hr⟩ := fits_ok L N ds[i] (ds.length : Int) hdn hN (by omega)
        obtain ⟨c, f, hc⟩ := l2Calls_ok L N N ds[i] true (by omega) (by omega) (by omega)
        simp only [lt_cast hlt, le0, Bool.and_true, cond_true, Int.toNat_natCast, at_lt hlt, e, f, Option.bind_some]
        cases r with
        | false => exact ⟨false, rfl, fun h => by cases h⟩
        | true =>
          rw [Bool.not_true, cond_false]
          by_cases h0 : c ≥ 0
          · rw [dt h0, cond_true]; exact ⟨false, rfl, fun h => by cases h⟩
          · rw [df h0, cond_false, wi_nat (by omega)]
            refine ih (i + 1) (by omega) (by omega) fun j hj hji => ?_
            by_cases e : j = i
            · subst e
              obtain ⟨k, a1, a2, a3, a4⟩ := hr rfl
              exact ⟨k, a1, a2, a4, hc 0 (by omega)⟩
            · exact hd j hj (by omega)
      · rw [ge_cast hlt, cond_false]
        refine ⟨_, rfl, fun h3 => ⟨?_, fun d hd' => ?_⟩⟩
        · have h3 : ((ds.length : Int) ≤ 3) := of_decide_eq_true h3
          omega
        · obtain ⟨j, hj, rfl⟩ := List.mem_iff_getElem.1 hd'
          exact hd j hj (by omega)
  exact key L 0 (by omega) (by omega) (fun j hj h => by omega)
theorem l1t_ok (L N : Nat) {n : Int} (h : -4 ≤ n ∧ n ≤ 4) : ∃ s, f162 L N n = some s ∧ s.size ≤ 3 := by
  have hc : n = -4 ∨ n = -3 ∨ n = -2 ∨ n = -1 ∨ n = 0 ∨ n = 1 ∨ n = 2 ∨ n = 3 ∨ n = 4 := by omega
  rcases hc with rfl | rfl | rfl | rfl | rfl | rfl | rfl | rfl | rfl <;> exact ⟨_, rfl, by decide⟩
theorem l6dec_ok (L N m : Nat) {n : Int} (h : 0 ≤ n ∧ n ≤ 2) : ∃ s, f160 L N (m + 1) n = some s ∧ s.size ≤ 3 := by
  have hc : n = 0 ∨ n = 1 ∨ n = 2 := by omega
  rcases hc with rfl | rfl | rfl <;> exact ⟨_, rfl, by decide⟩
theorem bif_y {c : Bool} {α : Type} {a b : α} (h : c = true) : (bif c then a else b) = a := by rw [h]; rfl
theorem text1 (L' N' m : Nat) (a : Tree) (s : ByteArray) (e : f150 (L' + 3) (N' + 1) m a = some s) (b0 : ByteArray) (o n : Int) (k : Nat) (hb : b0.size ≤ 9) (hs : s.size ≤ 20 * k) (hk : k ≤ 100000) :
    ∃ r, f150.l0 (L' + 3) (N' + 1) (f150 (L' + 3) (N' + 1) m) (fun z17 => f150.p0_e1 (L' + 3) (N' + 1) (f150 (L' + 3) (N' + 1) m) some z17) (L' + 3) b0 (0 : Int) o n [a] = some r ∧ r.size ≤ 20 * (k + 1) := by
  have hsz : ∀ a b : ByteArray, (a ++ b).size = a.size + b.size := fun a b => ByteArray.size_append
  have z1 : (ByteArray.mk #[32]).size = 1 := rfl
  have z2 : (ByteArray.mk #[41]).size = 1 := rfl
  show ∃ r, f150.s0 _ _ _ _ _ b0 (0 : Int) o n [a] = some r ∧ _
  unfold f150.s0 f150.s0'
  rw [show decide ((0 : Int) < (([a] : List Tree).length : Int)) = true from rfl, cond_true, bif_y (dt (by omega)), show (decide ((0 : Int) ≤ 0) && true) = true from rfl, cond_true, show listAt [a] (Ty.dflt (.st 1)) (0 : Int).toNat = a from rfl, e, Option.bind_some, bif_y (dt (by rw [hsz]; omega))]
  show ∃ r, f150.s0 _ _ _ _ _ ((b0 ++ ByteArray.mk #[32]) ++ s) (wi ((0 : Int) + 1)) o n [a] = some r ∧ _
  unfold f150.s0 f150.s0'
  rw [show decide (wi ((0 : Int) + 1) < (([a] : List Tree).length : Int)) = false from rfl, cond_false]
  show ∃ r, f150.p0_e1' _ _ _ some ((b0 ++ ByteArray.mk #[32]) ++ s) = some r ∧ _
  unfold f150.p0_e1'
  rw [bif_y (dt (by rw [hsz, hsz]; omega))]
  exact ⟨_, rfl, by rw [hsz, hsz, hsz]; omega⟩
theorem text2 (L' N' m : Nat) (a b : Tree) (s u : ByteArray) (e : f150 (L' + 3) (N' + 1) m a = some s) (f : f150 (L' + 3) (N' + 1) m b = some u) (b0 : ByteArray) (o n : Int) (i j : Nat) (hb : b0.size ≤ 9) (hs : s.size ≤ 20 * i) (hu : u.size ≤ 20 * j) (hk : i + j ≤ 100000) :
    ∃ r, f150.l0 (L' + 3) (N' + 1) (f150 (L' + 3) (N' + 1) m) (fun z17 => f150.p0_e1 (L' + 3) (N' + 1) (f150 (L' + 3) (N' + 1) m) some z17) (L' + 3) b0 (0 : Int) o n [a, b] = some r ∧ r.size ≤ 20 * (i + j + 1) := by
  have hsz : ∀ a b : ByteArray, (a ++ b).size = a.size + b.size := fun a b => ByteArray.size_append
  have z1 : (ByteArray.mk #[32]).size = 1 := rfl
  have z2 : (ByteArray.mk #[41]).size = 1 := rfl
  show ∃ r, f150.s0 _ _ _ _ _ b0 (0 : Int) o n [a, b] = some r ∧ _
  unfold f150.s0 f150.s0'
  rw [show decide ((0 : Int) < (([a, b] : List Tree).length : Int)) = true from rfl, cond_true, bif_y (dt (by omega)), show (decide ((0 : Int) ≤ 0) && true) = true from rfl, cond_true, show listAt [a, b] (Ty.dflt (.st 1)) (0 : Int).toNat = a from rfl, e, Option.bind_some, bif_y (dt (by rw [hsz]; omega))]
  show ∃ r, f150.s0 _ _ _ _ _ ((b0 ++ ByteArray.mk #[32]) ++ s) (wi ((0 : Int) + 1)) o n [a, b] = some r ∧ _
  unfold f150.s0 f150.s0'
  rw [show decide (wi ((0 : Int) + 1) < (([a, b] : List Tree).length : Int)) = true from rfl, cond_true, bif_y (dt (by rw [hsz, hsz]; omega)), show (decide ((0 : Int) ≤ wi ((0 : Int) + 1)) && true) = true from rfl, cond_true, show listAt [a, b] (Ty.dflt (.st 1)) (wi ((0 : Int) + 1)).toNat = b from rfl, f, Option.bind_some, bif_y (dt (by rw [hsz, hsz, hsz]; omega))]
  show ∃ r, f150.s0 _ _ _ _ _ _ (wi (wi ((0 : Int) + 1) + 1)) o n [a, b] = some r ∧ _
  unfold f150.s0 f150.s0'
  rw [show decide (wi (wi ((0 : Int) + 1) + 1) < (([a, b] : List Tree).length : Int)) = false from rfl, cond_false]
  show ∃ r, f150.p0_e1' _ _ _ some _ = some r ∧ _
  unfold f150.p0_e1'
  rw [bif_y (dt (by rw [hsz, hsz, hsz, hsz]; omega))]
  exact ⟨_, rfl, by rw [hsz, hsz, hsz, hsz, hsz]; omega⟩
theorem l2Text_ok (L N : Nat) (hN : 1 ≤ N) (hL : 8 ≤ L) : ∀ (t : Tree) (k : Nat), WT t k → k ≤ 100000 → ∀ m, k ≤ m → ∃ s, f150 L N m t = some s ∧ s.size ≤ 20 * k := by
  obtain ⟨N', rfl⟩ : ∃ N', N = N' + 1 := ⟨N - 1, by omega⟩
  obtain ⟨L', rfl⟩ : ∃ L', L = L' + 3 := ⟨L - 3, by omega⟩
  have hsz : ∀ a b : ByteArray, (a ++ b).size = a.size + b.size := fun a b => ByteArray.size_append
  intro t k h
  induction h with
  | nil =>
    intro _ m hm
    obtain ⟨m, rfl⟩ : ∃ m', m = m' + 1 := ⟨m - 1, by omega⟩
    exact ⟨_, rfl, by decide⟩
  | call n hn =>
    intro _ m hm
    obtain ⟨m, rfl⟩ : ∃ m', m = m' + 1 := ⟨m - 1, by omega⟩
    obtain ⟨s, e, hs⟩ := l6dec_ok (L' + 3) (N' + 1) N' hn
    show ∃ s, f150.b _ _ (f150 (L' + 3) (N' + 1) m) some (.mk 5 n []) = some s ∧ _
    unfold f150.b f150.b'
    simp only [Tree.op, Tree.n, Tree.parts]
    rw [show ((5 : Int) == 0) = false from rfl, cond_false, show ((5 : Int) == 5) = true from rfl, cond_true, e, Option.bind_some]
    rw [dt (show (ByteArray.mk #[88]).size + s.size ≤ 4611686018427387904 by have : (ByteArray.mk #[88]).size = 1 := rfl; omega), cond_true]
    exact ⟨_, rfl, by rw [hsz]; have : (ByteArray.mk #[88]).size = 1 := rfl; omega⟩
  | act n a k hn ha ih =>
    intro hk m hm
    obtain ⟨m, rfl⟩ : ∃ m', m = m' + 1 := ⟨m - 1, by omega⟩
    obtain ⟨s, e, hs⟩ := ih (by omega) m (by omega)
    obtain ⟨u, f, hu⟩ := l1t_ok (L' + 3) (N' + 1) hn
    show ∃ s, f150.b _ _ (f150 (L' + 3) (N' + 1) m) some (.mk 1 n [a]) = some s ∧ _
    unfold f150.b f150.b'
    have z1 : ((ByteArray.mk #[40]) ++ (ByteArray.mk #[97, 99, 116])).size = 4 := rfl
    have z2 : (ByteArray.mk #[32]).size = 1 := rfl
    have z3 : (ByteArray.mk #[41]).size = 1 := rfl
    have z4 : (((ByteArray.mk #[40]) ++ (ByteArray.mk #[97, 99, 116])) ++ (ByteArray.mk #[32])).size = 5 := rfl
    have w : f161 (L' + 3) (N' + 1) = some [(ByteArray.mk #[]), (ByteArray.mk #[97, 99, 116]), (ByteArray.mk #[115, 117, 109]), (ByteArray.mk #[112, 97, 114]), (ByteArray.mk #[104, 105, 100, 101])] := rfl
    simp only [Tree.op, Tree.n, Tree.parts, w, Option.bind_some]
    rw [show ((1 : Int) == 0) = false from rfl, cond_false, show ((1 : Int) == 5) = false from rfl, cond_false, show ((1 : Int) == 1) = true from rfl]
    simp only [show listAt [(ByteArray.mk #[]), (ByteArray.mk #[97, 99, 116]), (ByteArray.mk #[115, 117, 109]), (ByteArray.mk #[112, 97, 114]), (ByteArray.mk #[104, 105, 100, 101])] ByteArray.empty (1 : Int).toNat = ByteArray.mk #[97, 99, 116] from rfl, f, Option.bind_some, cond_true]
    rw [bif_y (by rfl), bif_y (by rfl), bif_y (by rw [z1, z2]; rfl), bif_y (by rw [z4]; exact dt (by omega))]
    unfold f150.j1' f150.j0'
    rw [show ((1 : Int) == 4) = false from rfl, cond_false]
    generalize hb0 : (((ByteArray.mk #[40]) ++ (ByteArray.mk #[97, 99, 116])) ++ (ByteArray.mk #[32])) ++ u = b0
    have hb0s : b0.size ≤ 8 := by rw [← hb0, hsz, z4]; omega
    exact text1 L' N' m a s e b0 1 n k (by omega) hs (by omega)
  | hide n a k hn ha ih =>
    intro hk m hm
    obtain ⟨m, rfl⟩ : ∃ m', m = m' + 1 := ⟨m - 1, by omega⟩
    obtain ⟨s, e, hs⟩ := ih (by omega) m (by omega)
    have hw : wi (n + 1) = n + 1 := wi_id (by omega) (by omega)
    obtain ⟨u, f, hu⟩ := l1t_ok (L' + 3) (N' + 1) (n := n + 1) (by omega)
    show ∃ s, f150.b _ _ (f150 (L' + 3) (N' + 1) m) some (.mk 4 n [a]) = some s ∧ _
    unfold f150.b f150.b'
    have z1 : ((ByteArray.mk #[40]) ++ (ByteArray.mk #[104, 105, 100, 101])).size = 5 := rfl
    have z2 : (ByteArray.mk #[32]).size = 1 := rfl
    have z4 : (((ByteArray.mk #[40]) ++ (ByteArray.mk #[104, 105, 100, 101])) ++ (ByteArray.mk #[32])).size = 6 := rfl
    have w : f161 (L' + 3) (N' + 1) = some [(ByteArray.mk #[]), (ByteArray.mk #[97, 99, 116]), (ByteArray.mk #[115, 117, 109]), (ByteArray.mk #[112, 97, 114]), (ByteArray.mk #[104, 105, 100, 101])] := rfl
    simp only [Tree.op, Tree.n, Tree.parts, w, Option.bind_some]
    rw [show ((4 : Int) == 0) = false from rfl, cond_false, show ((4 : Int) == 5) = false from rfl, cond_false, show ((4 : Int) == 1) = false from rfl]
    simp only [show listAt [(ByteArray.mk #[]), (ByteArray.mk #[97, 99, 116]), (ByteArray.mk #[115, 117, 109]), (ByteArray.mk #[112, 97, 114]), (ByteArray.mk #[104, 105, 100, 101])] ByteArray.empty (4 : Int).toNat = ByteArray.mk #[104, 105, 100, 101] from rfl, cond_false]
    rw [bif_y (by rfl), bif_y (by rfl)]
    unfold f150.j1' f150.j0'
    rw [show ((4 : Int) == 4) = true from rfl, cond_true, bif_y (by rw [z1, z2]; rfl), hw, f, Option.bind_some, bif_y (by rw [z4]; exact dt (by omega))]
    generalize hb0 : (((ByteArray.mk #[40]) ++ (ByteArray.mk #[104, 105, 100, 101])) ++ (ByteArray.mk #[32])) ++ u = b0
    have hb0s : b0.size ≤ 9 := by rw [← hb0, hsz, z4]; omega
    exact text1 L' N' m a s e b0 4 n k (by omega) hs (by omega)
  | sum a b i j ha hb iha ihb =>
    intro hk m hm
    obtain ⟨m, rfl⟩ : ∃ m', m = m' + 1 := ⟨m - 1, by omega⟩
    obtain ⟨s, e, hs⟩ := iha (by omega) m (by omega)
    obtain ⟨u, f, hu⟩ := ihb (by omega) m (by omega)
    show ∃ s, f150.b _ _ (f150 (L' + 3) (N' + 1) m) some (.mk 2 0 [a, b]) = some s ∧ _
    unfold f150.b f150.b'
    have w : f161 (L' + 3) (N' + 1) = some [(ByteArray.mk #[]), (ByteArray.mk #[97, 99, 116]), (ByteArray.mk #[115, 117, 109]), (ByteArray.mk #[112, 97, 114]), (ByteArray.mk #[104, 105, 100, 101])] := rfl
    simp only [Tree.op, Tree.n, Tree.parts, w, Option.bind_some]
    rw [show ((2 : Int) == 0) = false from rfl, cond_false, show ((2 : Int) == 5) = false from rfl, cond_false, show ((2 : Int) == 1) = false from rfl]
    simp only [show listAt [(ByteArray.mk #[]), (ByteArray.mk #[97, 99, 116]), (ByteArray.mk #[115, 117, 109]), (ByteArray.mk #[112, 97, 114]), (ByteArray.mk #[104, 105, 100, 101])] ByteArray.empty (2 : Int).toNat = ByteArray.mk #[115, 117, 109] from rfl, cond_false]
    rw [bif_y (by rfl), bif_y (by rfl)]
    unfold f150.j1' f150.j0'
    rw [show ((2 : Int) == 4) = false from rfl, cond_false]
    exact text2 L' N' m a b s u e f _ 2 0 i j (by decide) hs hu (by omega)
  | par a b i j ha hb iha ihb =>
    intro hk m hm
    obtain ⟨m, rfl⟩ : ∃ m', m = m' + 1 := ⟨m - 1, by omega⟩
    obtain ⟨s, e, hs⟩ := iha (by omega) m (by omega)
    obtain ⟨u, f, hu⟩ := ihb (by omega) m (by omega)
    show ∃ s, f150.b _ _ (f150 (L' + 3) (N' + 1) m) some (.mk 3 0 [a, b]) = some s ∧ _
    unfold f150.b f150.b'
    have w : f161 (L' + 3) (N' + 1) = some [(ByteArray.mk #[]), (ByteArray.mk #[97, 99, 116]), (ByteArray.mk #[115, 117, 109]), (ByteArray.mk #[112, 97, 114]), (ByteArray.mk #[104, 105, 100, 101])] := rfl
    simp only [Tree.op, Tree.n, Tree.parts, w, Option.bind_some]
    rw [show ((3 : Int) == 0) = false from rfl, cond_false, show ((3 : Int) == 5) = false from rfl, cond_false, show ((3 : Int) == 1) = false from rfl]
    simp only [show listAt [(ByteArray.mk #[]), (ByteArray.mk #[97, 99, 116]), (ByteArray.mk #[115, 117, 109]), (ByteArray.mk #[112, 97, 114]), (ByteArray.mk #[104, 105, 100, 101])] ByteArray.empty (3 : Int).toNat = ByteArray.mk #[112, 97, 114] from rfl, cond_false]
    rw [bif_y (by rfl), bif_y (by rfl)]
    unfold f150.j1' f150.j0'
    rw [show ((3 : Int) == 4) = false from rfl, cond_false]
    exact text2 L' N' m a b s u e f _ 3 0 i j (by decide) hs hu (by omega)
end Go.Proofs.Ytdfjdbpklbehoaa.Ev
namespace Go.Proofs.Ytdfjdbpklbehoaa.Ev
open Go
set_option linter.unusedVariables false
set_option linter.unusedSimpArgs false
theorem bif_n {c : Bool} {α : Type} {a b : α} (h : c = false) : (bif c then a else b) = b := by rw [h]; rfl
def visS (l : List Step) : Nat := (l.filter fun s => s.act != 0).length
def tauS (l : List Step) : Nat := (l.filter fun s => s.act == 0).length
theorem len_vt : ∀ l : List Step, l.length = visS l + tauS l
  | [] => rfl
  | s :: l => by
    have ih := len_vt l
    unfold visS tauS at *
    by_cases h : s.act = 0
    · simp [h]; omega
    · simp [h]; omega
theorem visS_app (a b : List Step) : visS (a ++ b) = visS a + visS b := by unfold visS; rw [List.filter_append, List.length_append]
theorem tauS_app (a b : List Step) : tauS (a ++ b) = tauS a + tauS b := by unfold tauS; rw [List.filter_append, List.length_append]
theorem visS_map {f : Step → Step} (h : ∀ s, (f s).act = s.act) : ∀ l : List Step, visS (l.map f) = visS l
  | [] => rfl
  | s :: l => by
    have ih := visS_map h l
    unfold visS at *
    rw [List.map_cons, List.filter_cons, List.filter_cons, h s]
    split <;> simp [ih]
theorem tauS_map {f : Step → Step} (h : ∀ s, (f s).act = s.act) : ∀ l : List Step, tauS (l.map f) = tauS l
  | [] => rfl
  | s :: l => by
    have ih := tauS_map h l
    unfold tauS at *
    rw [List.map_cons, List.filter_cons, List.filter_cons, h s]
    split <;> simp [ih]
theorem visS_sub {p : Step → Bool} (l : List Step) : visS (l.filter p) ≤ visS l := by
  unfold visS
  rw [List.filter_filter]
  have h := List.length_filter_le p (l.filter fun s => s.act != 0)
  rw [List.filter_filter] at h
  refine Nat.le_trans (Nat.le_of_eq ?_) h
  congr 1
  apply List.filter_congr
  intro x _
  exact Bool.and_comm _ _
theorem tauS_sub {p : Step → Bool} (l : List Step) : tauS (l.filter p) ≤ tauS l := by
  unfold tauS
  rw [List.filter_filter]
  have h := List.length_filter_le p (l.filter fun s => s.act == 0)
  rw [List.filter_filter] at h
  refine Nat.le_trans (Nat.le_of_eq ?_) h
  congr 1
  apply List.filter_congr
  intro x _
  exact Bool.and_comm _ _
def leftS (b : Tree) (s : Step) : Step := ⟨s.act, .mk 3 0 [s.thn, b]⟩
def rightS (a : Tree) (s : Step) : Step := ⟨s.act, .mk 3 0 [a, s.thn]⟩
def tauRow (x : Step) (right : List Step) : List Step := if x.act ≠ 0 then (right.filter fun y => x.act == wi (0 - y.act)).map fun y => ⟨0, .mk 3 0 [x.thn, y.thn]⟩ else []
theorem tauRow_vis (x : Step) (right : List Step) : visS (tauRow x right) = 0 := by
  unfold tauRow visS
  split
  · rw [List.length_eq_zero_iff, List.filter_eq_nil_iff]
    intro s hs
    obtain ⟨y, -, rfl⟩ := List.mem_map.1 hs
    simp
  · rfl
theorem tauRow_len (x : Step) (right : List Step) : (tauRow x right).length ≤ if x.act ≠ 0 then visS right else 0 := by
  unfold tauRow
  by_cases h : x.act ≠ 0
  · rw [if_pos h, if_pos h, List.length_map]
    unfold visS
    have e : (right.filter fun y => x.act == wi (0 - y.act)) = ((right.filter fun y => y.act != 0).filter fun y => x.act == wi (0 - y.act)) := by
      rw [List.filter_filter]
      apply List.filter_congr
      intro y _
      by_cases hy : y.act = 0
      · have : (x.act == wi (0 - y.act)) = false := by
          rw [hy]
          have : wi (0 - 0) = 0 := by rw [wi_id (by omega) (by omega)]; omega
          rw [this]; simpa using h
        rw [this]; rfl
      · have : (y.act != 0) = true := by simpa using hy
        rw [this, Bool.and_true]
    rw [e]
    exact List.length_filter_le _ _
  · rw [if_neg h, if_neg h]; simp
theorem taus_len (right : List Step) : ∀ left : List Step, (left.flatMap fun x => tauRow x right).length ≤ visS left * visS right
  | [] => by simp
  | x :: l => by
    have ih := taus_len right l
    have h := tauRow_len x right
    rw [List.flatMap_cons, List.length_append]
    have hv : visS (x :: l) = (if x.act ≠ 0 then 1 else 0) + visS l := by
      unfold visS
      rw [List.filter_cons]
      by_cases hx : x.act = 0
      · simp [hx]
      · have : (x.act != 0) = true := by simpa using hx
        simp [hx]; omega
    rw [hv, Nat.add_mul]
    by_cases hx : x.act ≠ 0
    · rw [if_pos hx] at h; rw [if_pos hx, Nat.one_mul]; omega
    · rw [if_neg hx] at h; rw [if_neg hx, Nat.zero_mul]; omega
theorem taus_vis (right : List Step) : ∀ left : List Step, visS (left.flatMap fun x => tauRow x right) = 0
  | [] => rfl
  | x :: l => by rw [List.flatMap_cons, visS_app, tauRow_vis, taus_vis right l]
theorem nloop1 (L' N : Nat) (self : Tree → Option Int) (a : Tree) (r1 : Int) (e : self a = some r1) (h1 : 1 ≤ r1) (h2 : r1 ≤ 998) (o x : Int) :
    f152.l0 (L' + 3) N self (fun z30 => f152.p0_e1 (L' + 3) N self some z30) (fun z32 z33 => f152.p0_r (L' + 3) N self some z32 z33) (L' + 3) (1 : Int) (1 : Int) (0 : Int) o x [a] = some (1 + r1) := by
  have hw : wi (1 + r1) = 1 + r1 := wi_id (by omega) (by omega)
  show f152.s0 _ N _ _ _ _ (1 : Int) (1 : Int) (0 : Int) o x [a] = _
  unfold f152.s0 f152.s0'
  rw [bif_y (by rfl), bif_y (by rfl)]
  show ((self a).bind _) = _
  rw [e, Option.bind_some, show (r1 == 0) = false by simp; omega, cond_false]
  show f152.s0 _ N _ _ _ _ (1 : Int) _ (wi ((0 : Int) + 1)) o x [a] = _
  unfold f152.s0 f152.s0'
  rw [bif_n (by rfl), hw, dt (show 1 + r1 < 1000 by omega), cond_true]
  rfl
theorem nloop2 (L' N : Nat) (self : Tree → Option Int) (a b : Tree) (r1 r2 : Int) (e : self a = some r1) (f : self b = some r2) (h1 : 1 ≤ r1) (h2 : 1 ≤ r2) (h3 : r1 + r2 ≤ 998) (o x : Int) :
    f152.l0 (L' + 3) N self (fun z30 => f152.p0_e1 (L' + 3) N self some z30) (fun z32 z33 => f152.p0_r (L' + 3) N self some z32 z33) (L' + 3) (2 : Int) (1 : Int) (0 : Int) o x [a, b] = some (1 + r1 + r2) := by
  have hw : wi (1 + r1) = 1 + r1 := wi_id (by omega) (by omega)
  have hw2 : wi (1 + r1 + r2) = 1 + r1 + r2 := wi_id (by omega) (by omega)
  show f152.s0 _ N _ _ _ _ (2 : Int) (1 : Int) (0 : Int) o x [a, b] = _
  unfold f152.s0 f152.s0'
  rw [bif_y (by rfl), bif_y (by rfl)]
  show ((self a).bind _) = _
  rw [e, Option.bind_some, show (r1 == 0) = false by simp; omega, cond_false]
  show f152.s0 _ N _ _ _ _ (2 : Int) _ (wi ((0 : Int) + 1)) o x [a, b] = _
  unfold f152.s0 f152.s0'
  rw [bif_y (by rfl), bif_y (by rfl)]
  show ((self b).bind _) = _
  rw [f, Option.bind_some, show (r2 == 0) = false by simp; omega, cond_false]
  show f152.s0 _ N _ _ _ _ (2 : Int) _ (wi (wi ((0 : Int) + 1) + 1)) o x [a, b] = _
  unfold f152.s0 f152.s0'
  rw [bif_n (by rfl), hw, dt (show 1 + r1 < 1000 by omega), cond_true, hw2, dt (show 1 + r1 + r2 < 1000 by omega), cond_true]
  rfl
theorem l2Nodes_wt (L N : Nat) (hL : 3 ≤ L) : ∀ (t : Tree) (k : Nat), WT t k → k ≤ 999 → ∀ m, k ≤ m → f152 L N m t = some (k : Int) := by
  obtain ⟨L', rfl⟩ : ∃ L', L = L' + 3 := ⟨L - 3, by omega⟩
  intro t k h
  induction h with
  | nil =>
    intro _ m hm
    obtain ⟨m, rfl⟩ : ∃ m', m = m' + 1 := ⟨m - 1, by omega⟩
    rfl
  | call x hx =>
    intro _ m hm
    obtain ⟨m, rfl⟩ : ∃ m', m = m' + 1 := ⟨m - 1, by omega⟩
    have hc : x = 0 ∨ x = 1 ∨ x = 2 := by omega
    rcases hc with rfl | rfl | rfl <;> rfl
  | act n a k hn ha ih =>
    intro hk m hm
    obtain ⟨m, rfl⟩ : ∃ m', m = m' + 1 := ⟨m - 1, by omega⟩
    have hp := ha.pos
    have e := ih (by omega) m (by omega)
    show f152.b (L' + 3) N (f152 (L' + 3) N m) some (.mk 1 n [a]) = _
    unfold f152.b f152.b'
    rw [bif_n (by rfl), bif_y (by rfl)]
    show ((f97 (L' + 3) N n).bind _) = _
    rw [act2_ok, Option.bind_some, dt hn]
    unfold f152.j2'
    rw [bif_n (by rfl), bif_n (by rfl)]
    unfold f152.j1'
    refine (nloop1 L' N _ a (k : Int) e (by omega) (by omega) 1 n).trans ?_
    rw [show ((k + 1 : Nat) : Int) = 1 + (k : Int) by omega]
  | hide n a k hn ha ih =>
    intro hk m hm
    obtain ⟨m, rfl⟩ : ∃ m', m = m' + 1 := ⟨m - 1, by omega⟩
    have hp := ha.pos
    have e := ih (by omega) m (by omega)
    show f152.b (L' + 3) N (f152 (L' + 3) N m) some (.mk 4 n [a]) = _
    unfold f152.b f152.b'
    rw [bif_n (by rfl), bif_n (by rfl), bif_n (by rfl)]
    unfold f152.j0'
    rw [bif_n (by rfl), bif_y (by rfl)]
    show ((f96 (L' + 3) N n 0 3).bind _) = _
    rw [in_ok, Option.bind_some, dt hn]
    unfold f152.j2'
    rw [bif_n (by rfl), bif_n (by rfl)]
    unfold f152.j1'
    refine (nloop1 L' N _ a (k : Int) e (by omega) (by omega) 4 n).trans ?_
    rw [show ((k + 1 : Nat) : Int) = 1 + (k : Int) by omega]
  | sum a b i j ha hb iha ihb =>
    intro hk m hm
    obtain ⟨m, rfl⟩ : ∃ m', m = m' + 1 := ⟨m - 1, by omega⟩
    have hpa := ha.pos
    have hpb := hb.pos
    have e := iha (by omega) m (by omega)
    have f := ihb (by omega) m (by omega)
    show f152.b (L' + 3) N (f152 (L' + 3) N m) some (.mk 2 0 [a, b]) = _
    unfold f152.b f152.b'
    rw [bif_n (by rfl), bif_n (by rfl), bif_y (by rfl)]
    unfold f152.j0'
    rw [bif_y (by rfl)]
    unfold f152.j2'
    rw [bif_n (by rfl), bif_n (by rfl)]
    unfold f152.j1'
    refine (nloop2 L' N _ a b (i : Int) (j : Int) e f (by omega) (by omega) (by omega) 2 0).trans ?_
    rw [show ((i + j + 1 : Nat) : Int) = 1 + (i : Int) + (j : Int) by omega]
  | par a b i j ha hb iha ihb =>
    intro hk m hm
    obtain ⟨m, rfl⟩ : ∃ m', m = m' + 1 := ⟨m - 1, by omega⟩
    have hpa := ha.pos
    have hpb := hb.pos
    have e := iha (by omega) m (by omega)
    have f := ihb (by omega) m (by omega)
    show f152.b (L' + 3) N (f152 (L' + 3) N m) some (.mk 3 0 [a, b]) = _
    unfold f152.b f152.b'
    rw [bif_n (by rfl), bif_n (by rfl), bif_n (by rfl)]
    unfold f152.j0'
    rw [bif_y (by rfl)]
    unfold f152.j2'
    rw [bif_n (by rfl), bif_n (by rfl)]
    unfold f152.j1'
    refine (nloop2 L' N _ a b (i : Int) (j : Int) e f (by omega) (by omega) (by omega) 3 0).trans ?_
    rw [show ((i + j + 1 : Nat) : Int) = 1 + (i : Int) + (j : Int) by omega]
section
variable {R : Type} (L N : Nat) (self : Tree → List Tree → Option (List Step))
theorem par0 (K : Int → Int → List Tree → List Step → List Step → List Step → Option R) (o x : Int) (a b : Tree) (left right : List Step) (hl : left.length ≤ 1000000) :
    ∀ (n i : Nat) (out : List Step), i ≤ left.length → left.length - i < n → out.length + (left.length - i) ≤ lim →
      f151.l0 L N self K n (i : Int) o x [a, b] out left right = K o x [a, b] (out ++ (left.drop i).map (leftS b)) left right := by
  intro n
  induction n with
  | zero => intro i out _ h; omega
  | succ n ih =>
    intro i out hi hn ho
    show f151.s0 L N self _ (f151.l0 L N self _ n) (i : Int) o x [a, b] out left right = _
    unfold f151.s0 f151.s0'
    by_cases hlt : i < left.length
    · have g1 : (decide ((0 : Int) ≤ 1) && decide ((1 : Int) < (([a, b] : List Tree).length : Int))) = true := rfl
      have g2 : listAt [a, b] (Ty.dflt (.st 1)) (1 : Int).toNat = b := rfl
      have hle : decide (out.length + ([Step.mk (left[i]).act (Tree.mk 3 0 [(left[i]).thn, b])] : List Step).length ≤ lim) = true := dt (by simp only [List.length_cons, List.length_nil]; omega)
      simp only [lt_cast hlt, le0, Bool.and_true, cond_true, Int.toNat_natCast, at_lt hlt, g1, g2, tree_eta, hle]
      rw [wi_nat (by omega), ih (i + 1) _ (by omega) (by omega) (by simp only [List.length_append, List.length_cons, List.length_nil]; omega), List.drop_eq_getElem_cons hlt, List.map_cons, List.append_assoc]
      rfl
    · simp only [ge_cast hlt, cond_false]
      rw [List.drop_eq_nil_of_le (by omega), List.map_nil, List.append_nil]
theorem par1 (K : List Step → List Step → List Step → Option R) (o x : Int) (a b : Tree) (left right : List Step) (hl : right.length ≤ 1000000) :
    ∀ (n i : Nat) (out : List Step), i ≤ right.length → right.length - i < n → out.length + (right.length - i) ≤ lim →
      f151.l1 L N self K n (i : Int) o x [a, b] out left right = K (out ++ (right.drop i).map (rightS a)) left right := by
  intro n
  induction n with
  | zero => intro i out _ h; omega
  | succ n ih =>
    intro i out hi hn ho
    show f151.s1 L N self _ (f151.l1 L N self _ n) (i : Int) o x [a, b] out left right = _
    unfold f151.s1 f151.s1'
    by_cases hlt : i < right.length
    · have g1 : (decide ((0 : Int) ≤ 0) && decide ((0 : Int) < (([a, b] : List Tree).length : Int))) = true := rfl
      have g2 : listAt [a, b] (Ty.dflt (.st 1)) (0 : Int).toNat = a := rfl
      have hle : decide (out.length + ([Step.mk (right[i]).act (Tree.mk 3 0 [a, (right[i]).thn])] : List Step).length ≤ lim) = true := dt (by simp only [List.length_cons, List.length_nil]; omega)
      rw [g1, g2]
      simp only [lt_cast hlt, le0, Bool.and_true, cond_true, Int.toNat_natCast, at_lt hlt, tree_eta, hle]
      rw [wi_nat (by omega), ih (i + 1) _ (by omega) (by omega) (by simp only [List.length_append, List.length_cons, List.length_nil]; omega), List.drop_eq_getElem_cons hlt, List.map_cons, List.append_assoc]
      rfl
    · simp only [ge_cast hlt, cond_false]
      rw [List.drop_eq_nil_of_le (by omega), List.map_nil, List.append_nil]
theorem par3 (K : Int → List Step → List Step → List Step → Option R) (left right : List Step) (hl : right.length ≤ 1000000) (i : Nat) (hi : i < left.length) :
    ∀ (n j : Nat) (out : List Step), j ≤ right.length → right.length - j < n → out.length + (right.length - j) ≤ lim →
      f151.l3 L N self K n (i : Int) (j : Int) out left right = K (i : Int) (out ++ tauRow left[i] (right.drop j)) left right := by
  intro n
  induction n with
  | zero => intro j out _ h; omega
  | succ n ih =>
    intro j out hj hn ho
    show f151.s3 L N self _ (f151.l3 L N self _ n) (i : Int) (j : Int) out left right = _
    unfold f151.s3 f151.s3'
    by_cases hlt : j < right.length
    · rw [List.drop_eq_getElem_cons hlt]
      have hle : decide (out.length + ([Step.mk 0 (Tree.mk 3 0 [(left[i]).thn, (right[j]).thn])] : List Step).length ≤ lim) = true := dt (by simp only [List.length_cons, List.length_nil]; omega)
      simp only [lt_cast hlt, lt_cast hi, le0, Bool.and_true, cond_true, Int.toNat_natCast, at_lt hlt, at_lt hi]
      by_cases h0 : (left[i]).act = 0
      · rw [show ((left[i]).act != 0) = false by simpa using h0, cond_false]
        unfold f151.j0'
        rw [cond_false, wi_nat (by omega), ih (j + 1) _ (by omega) (by omega) (by omega)]
        unfold tauRow
        rw [if_neg (fun h => h h0), if_neg (fun h => h h0)]
      · rw [show ((left[i]).act != 0) = true by simpa using h0, cond_true]
        unfold f151.j0'
        cases hc : ((left[i]).act == wi (0 - (right[j]).act)) with
        | false =>
          rw [cond_false, wi_nat (by omega), ih (j + 1) _ (by omega) (by omega) (by omega)]
          unfold tauRow
          rw [if_pos h0, if_pos h0, List.filter_cons, hc]
          rfl
        | true =>
          simp only [lt_cast hlt, lt_cast hi, le0, Bool.and_true, cond_true, Int.toNat_natCast, at_lt hlt, at_lt hi, tree_eta, hle]
          rw [wi_nat (by omega), ih (j + 1) _ (by omega) (by omega) (by simp only [List.length_append, List.length_cons, List.length_nil]; omega)]
          unfold tauRow
          rw [if_pos h0, if_pos h0, List.filter_cons, hc, if_pos rfl, List.map_cons, List.append_assoc]
          rfl
    · simp only [ge_cast hlt, cond_false]
      rw [List.drop_eq_nil_of_le (by omega)]
      have : tauRow left[i] [] = [] := by unfold tauRow; split <;> rfl
      rw [this, List.append_nil]
theorem par2 (hL : 1000001 < L) (k : List Step → Option R) (left right : List Step) (hl : left.length ≤ 1000000) (hr : right.length ≤ 1000000) :
    ∀ (n i : Nat) (out : List Step), i ≤ left.length → left.length - i < n → out.length + (left.length - i) * right.length ≤ lim →
      f151.l2 L N self (fun z31 => f151.p2_e5 L N self k z31) n (i : Int) out left right = k (out ++ (left.drop i).flatMap fun x => tauRow x right) := by
  intro n
  induction n with
  | zero => intro i out _ h; omega
  | succ n ih =>
    intro i out hi hn ho
    show f151.s2 L N self _ (f151.l2 L N self _ n) (i : Int) out left right = _
    unfold f151.s2 f151.s2'
    by_cases hlt : i < left.length
    · have hstep : (left.length - i) * right.length = (left.length - (i + 1)) * right.length + right.length := by
        rw [show left.length - i = (left.length - (i + 1)) + 1 by omega, Nat.add_mul, Nat.one_mul]
      rw [lt_cast hlt, cond_true]
      refine (par3 L N self _ left right hr i hlt L 0 out (by omega) (by omega) (by omega)).trans ?_
      show f151.l2 L N self _ n (wi ((i : Int) + 1)) (out ++ tauRow left[i] (right.drop 0)) left right = _
      have htl : (tauRow left[i] right).length ≤ right.length := by
        have h1 := tauRow_len left[i] right
        have h2 := len_vt right
        split at h1 <;> omega
      rw [List.drop_zero, wi_nat (by omega), ih (i + 1) _ (by omega) (by omega) (by rw [List.length_append]; omega), List.drop_eq_getElem_cons hlt, List.flatMap_cons, List.append_assoc]
    · rw [ge_cast hlt, cond_false, List.drop_eq_nil_of_le (by omega), List.flatMap_nil, List.append_nil]
      rfl
def nmS (x : Int) : Int := wi ((bif decide ((wi (0 - x)) > x) then (wi (0 - x)) else x) - 1)
def keepH' (x : Int) (s : Step) : Bool := s.act == 0 || nmS s.act != x
theorem hide4 (k : List Step → Option R) (o x : Int) (ps : List Tree) (st : List Step) (hl : st.length ≤ 1000000) :
    ∀ (n i : Nat) (out : List Step), i ≤ st.length → st.length - i < n → out.length + (st.length - i) ≤ lim →
      f151.l4 L N self (fun z59 => f151.p4_e9 L N self k z59) n (i : Int) o x ps out st = k (out ++ ((st.drop i).filter (keepH' x)).map fun s => ⟨s.act, .mk 4 x [s.thn]⟩) := by
  intro n
  induction n with
  | zero => intro i out _ h; omega
  | succ n ih =>
    intro i out hi hn ho
    show f151.s4 L N self _ (f151.l4 L N self _ n) (i : Int) o x ps out st = _
    unfold f151.s4 f151.s4'
    by_cases hlt : i < st.length
    · rw [List.drop_eq_getElem_cons hlt, List.filter_cons]
      have hnm : f163 L N (st[i]).act = some (nmS (st[i]).act) := rfl
      have hle : decide (out.length + ([Step.mk (st[i]).act (Tree.mk 4 x [(st[i]).thn])] : List Step).length ≤ lim) = true := dt (by simp only [List.length_cons, List.length_nil]; omega)
      simp only [lt_cast hlt, le0, Bool.and_true, cond_true, Int.toNat_natCast, at_lt hlt, hnm, Option.bind_some]
      have go : ∀ c : Bool, c = keepH' x st[i] → f151.j1' L N self (fun z59 => f151.p4_e9 L N self k z59) (f151.l4 L N self (fun z59 => f151.p4_e9 L N self k z59) n) (i : Int) c o x ps out st
          = k (out ++ (if keepH' x st[i] = true then st[i] :: (st.drop (i + 1)).filter (keepH' x) else (st.drop (i + 1)).filter (keepH' x)).map fun s => ⟨s.act, .mk 4 x [s.thn]⟩) := by
        intro c hc
        subst hc
        unfold f151.j1'
        cases hk : keepH' x st[i] with
        | true =>
          simp only [lt_cast hlt, le0, Bool.and_true, cond_true, Int.toNat_natCast, at_lt hlt, tree_eta, hle]
          rw [wi_nat (by omega), ih (i + 1) _ (by omega) (by omega) (by simp only [List.length_append, List.length_cons, List.length_nil]; omega), if_pos trivial, List.map_cons, List.append_assoc]
          rfl
        | false =>
          rw [cond_false, wi_nat (by omega), ih (i + 1) _ (by omega) (by omega) (by omega), if_neg (by simp)]
      cases h0 : ((st[i]).act == 0) with
      | true => rw [cond_true]; exact go true (by unfold keepH'; rw [h0]; rfl)
      | false => rw [cond_false]; exact go _ (by unfold keepH'; rw [h0]; rfl)
    · rw [ge_cast hlt, cond_false, List.drop_eq_nil_of_le (by omega), List.filter_nil, List.map_nil, List.append_nil]
      rfl
end
def SOk (n : Int) (u : Nat) (s : Step) : Prop := (-4 ≤ s.act ∧ s.act ≤ 4) ∧ ∃ k', WT s.thn k' ∧ k' ≤ u ∧ CL n false s.thn
def Res (n : Int) (u : Nat) (r : Option (List Step)) : Prop := ∃ st, r = some st ∧ (∀ s ∈ st, SOk n u s) ∧ visS st ≤ u ∧ tauS st ≤ u * u
theorem steps_gen (L N : Nat) (hL : 1000001 < L) (ds : List Tree) (c e : Nat) (hc : 1 ≤ c ∧ c ≤ 24) (Q : Tree → Prop)
    (hQ2 : ∀ a b, Q (.mk 2 0 [a, b]) → Q a ∧ Q b) (hQ3 : ∀ a b, Q (.mk 3 0 [a, b]) → Q a ∧ Q b) (hQ4 : ∀ x a, Q (.mk 4 x [a]) → Q a)
    (hcall : ∀ m x, 0 ≤ x → x < (ds.length : Int) → Q (.mk 5 x []) → e ≤ m → Res (ds.length : Int) c (f151 L N (m + 1) (.mk 5 x []) ds)) :
    ∀ (t : Tree) (k : Nat), WT t k → k ≤ 24 → CL (ds.length : Int) false t → Q t → ∀ m, k + e ≤ m → Res (ds.length : Int) (c * k) (f151 L N m t ds) := by
  have hlim := lim_eq
  have hck : ∀ k, k ≤ 24 → c * k ≤ 576 := fun k hk => Nat.le_trans (Nat.mul_le_mul hc.2 hk) (by omega)
  have hlen : ∀ (st : List Step) (u : Nat), u ≤ 576 → visS st ≤ u → tauS st ≤ u * u → st.length ≤ 332352 := fun st u hu h1 h2 => by
    have h3 := len_vt st
    have h4 : u * u ≤ 576 * 576 := Nat.mul_le_mul hu hu
    omega
  intro t k h
  induction h with
  | nil =>
    intro _ _ _ m hm
    obtain ⟨m, rfl⟩ : ∃ m', m = m' + 1 := ⟨m - 1, by omega⟩
    have e0 : f151 L N (m + 1) (.mk 0 0 []) ds = some ([] : List Step) := rfl
    exact ⟨([] : List Step), e0, (fun s hs => by cases hs), Nat.zero_le _, Nat.zero_le _⟩
  | call x hx =>
    intro _ hcl hq m hm
    obtain ⟨m, rfl⟩ : ∃ m', m = m' + 1 := ⟨m - 1, by omega⟩
    rw [Nat.mul_one]
    exact hcall m x hx.1 hcl.lt hq (by omega)
  | act n a k hn ha ih =>
    intro hk hcl hq m hm
    obtain ⟨m, rfl⟩ : ∃ m', m = m' + 1 := ⟨m - 1, by omega⟩
    refine ⟨[⟨n, a⟩], ?_, fun s hs => ?_, ?_, ?_⟩
    · show f151.b L N (f151 L N m) some (.mk 1 n [a]) ds = _
      unfold f151.b f151.b'
      rw [bif_y (by rfl), bif_y (by rfl), bif_y (by rfl)]
      show some ([] ++ [Step.mk n (Tree.mk a.op a.n a.parts)]) = _
      rw [tree_eta]
      rfl
    · rw [List.mem_singleton.1 hs]
      have h1 : 1 * k ≤ c * (k + 1) := Nat.mul_le_mul hc.1 (by omega)
      exact ⟨hn, k, ha, by omega, hcl.sub (by decide) a (.head _)⟩
    · have h1 : 1 * 1 ≤ c * (k + 1) := Nat.mul_le_mul hc.1 (by omega)
      have h2 := List.length_filter_le (fun s : Step => s.act != 0) [⟨n, a⟩]
      unfold visS
      simp only [List.length_cons, List.length_nil] at h2 ⊢
      omega
    · have h1 : 1 * 1 ≤ c * (k + 1) := Nat.mul_le_mul hc.1 (by omega)
      have h3 : 1 * 1 ≤ (c * (k + 1)) * (c * (k + 1)) := Nat.mul_le_mul (by omega) (by omega)
      have h2 := List.length_filter_le (fun s : Step => s.act == 0) [⟨n, a⟩]
      unfold tauS
      simp only [List.length_cons, List.length_nil] at h2 ⊢
      omega
  | sum a b i j ha hb iha ihb =>
    intro hk hcl hq m hm
    obtain ⟨m, rfl⟩ : ∃ m', m = m' + 1 := ⟨m - 1, by omega⟩
    obtain ⟨qa, qb⟩ := hQ2 a b hq
    have hs := hcl.sub (by decide)
    obtain ⟨sa, ea, pa, va, ta⟩ := iha (by omega) (hs a (.head _)) qa m (by omega)
    obtain ⟨sb, eb, pb, vb, tb⟩ := ihb (by omega) (hs b (.tail _ (.head _))) qb m (by omega)
    have hu : c * (i + j + 1) = c * i + c * j + c := by rw [Nat.mul_add, Nat.mul_add, Nat.mul_one]
    have hla := hlen sa _ (hck i (by omega)) va ta
    have hlb := hlen sb _ (hck j (by omega)) vb tb
    refine ⟨sa ++ sb, ?_, fun s hs' => ?_, ?_, ?_⟩
    · show f151.b L N (f151 L N m) some (.mk 2 0 [a, b]) ds = _
      unfold f151.b f151.b'
      rw [bif_n (by rfl), bif_y (by rfl), bif_y (by rfl)]
      show ((f151 L N m a ds).bind _) = _
      rw [ea, Option.bind_some, bif_y (by rfl)]
      show ((f151 L N m b ds).bind _) = _
      rw [eb, Option.bind_some, dt (show sa.length + sb.length ≤ lim by omega), cond_true]
    · rcases List.mem_append.1 hs' with h | h
      · obtain ⟨h1, k', h2, h3, h4⟩ := pa s h; exact ⟨h1, k', h2, by omega, h4⟩
      · obtain ⟨h1, k', h2, h3, h4⟩ := pb s h; exact ⟨h1, k', h2, by omega, h4⟩
    · rw [visS_app]; omega
    · rw [tauS_app]
      generalize c * i = u at *
      generalize c * j = v at *
      generalize c * (i + j + 1) = w at *
      have h1 : (u + v) * (u + v) ≤ w * w := Nat.mul_le_mul (by omega) (by omega)
      have h2 : (u + v) * (u + v) = u * u + v * v + 2 * (u * v) := by rw [Nat.add_mul, Nat.mul_add, Nat.mul_add, Nat.mul_comm v u]; omega
      omega
  | par a b i j ha hb iha ihb =>
    intro hk hcl hq m hm
    obtain ⟨m, rfl⟩ : ∃ m', m = m' + 1 := ⟨m - 1, by omega⟩
    obtain ⟨qa, qb⟩ := hQ3 a b hq
    have hs := hcl.sub (by decide)
    have cla := hs a (.head _)
    have clb := hs b (.tail _ (.head _))
    obtain ⟨sa, ea, pa, va, ta⟩ := iha (by omega) cla qa m (by omega)
    obtain ⟨sb, eb, pb, vb, tb⟩ := ihb (by omega) clb qb m (by omega)
    have hu : c * (i + j + 1) = c * i + c * j + c := by rw [Nat.mul_add, Nat.mul_add, Nat.mul_one]
    have hui : i ≤ c * i := by have := Nat.mul_le_mul_right i hc.1; omega
    have huj : j ≤ c * j := by have := Nat.mul_le_mul_right j hc.1; omega
    have hla := hlen sa _ (hck i (by omega)) va ta
    have hlb := hlen sb _ (hck j (by omega)) vb tb
    have hti := taus_len sb sa
    have htv := taus_vis sb sa
    have hmul : sa.length * sb.length ≤ 332352 * 332352 := Nat.mul_le_mul hla hlb
    have mkp : ∀ (p q : Tree) (i' j' : Nat), WT p i' → WT q j' → CL (ds.length : Int) false p → CL (ds.length : Int) false q → i' ≤ c * i → j' ≤ c * j → ∃ k', WT (.mk 3 0 [p, q]) k' ∧ k' ≤ c * (i + j + 1) ∧ CL (ds.length : Int) false (.mk 3 0 [p, q]) := fun p q i' j' h1 h2 h3 h4 h5 h6 =>
      ⟨i' + j' + 1, .par p q i' j' h1 h2, by omega, .node false 3 0 [p, q] (by decide) fun x hx => by
        rcases List.mem_cons.1 hx with rfl | hx
        · exact h3
        · rw [List.mem_singleton.1 hx]; exact h4⟩
    refine ⟨(sa.map (leftS b) ++ sb.map (rightS a)) ++ sa.flatMap fun x => tauRow x sb, ?_, fun s hs' => ?_, ?_, ?_⟩
    · show f151.b L N (f151 L N m) some (.mk 3 0 [a, b]) ds = _
      unfold f151.b f151.b'
      rw [bif_n (by rfl), bif_n (by rfl), bif_y (by rfl), bif_y (by rfl)]
      show ((f151 L N m a ds).bind _) = _
      rw [ea, Option.bind_some, bif_y (by rfl)]
      show ((f151 L N m b ds).bind _) = _
      rw [eb, Option.bind_some]
      refine (par0 L N (f151 L N m) _ 3 0 a b sa sb (by omega) L 0 [] (by omega) (by omega) (by simp only [List.length_nil]; omega)).trans ?_
      refine (par1 L N (f151 L N m) _ 3 0 a b sa sb (by omega) L 0 _ (by omega) (by omega) (by simp only [List.length_append, List.length_map, List.length_nil, List.length_drop]; omega)).trans ?_
      refine (par2 L N (f151 L N m) hL some sa sb (by omega) (by omega) L 0 _ (by omega) (by omega) (by simp only [List.length_append, List.length_map, List.length_nil, List.length_drop, Nat.sub_zero]; omega)).trans ?_
      simp only [List.drop_zero, List.nil_append]
    · rcases List.mem_append.1 hs' with h | h
      · rcases List.mem_append.1 h with h | h
        · obtain ⟨y, hy, rfl⟩ := List.mem_map.1 h
          obtain ⟨h1, k', h2, h3, h4⟩ := pa y hy
          exact ⟨h1, mkp y.thn b k' j h2 hb h4 clb h3 huj⟩
        · obtain ⟨y, hy, rfl⟩ := List.mem_map.1 h
          obtain ⟨h1, k', h2, h3, h4⟩ := pb y hy
          exact ⟨h1, mkp a y.thn i k' ha h2 cla h4 hui h3⟩
      · obtain ⟨x, hx, h⟩ := List.mem_flatMap.1 h
        unfold tauRow at h
        split at h
        · obtain ⟨y, hy, rfl⟩ := List.mem_map.1 h
          obtain ⟨-, k1, h2, h3, h4⟩ := pa x hx
          obtain ⟨-, k2, g2, g3, g4⟩ := pb y (List.mem_filter.1 hy).1
          exact ⟨(show -4 ≤ (0 : Int) ∧ (0 : Int) ≤ 4 by omega), mkp x.thn y.thn k1 k2 h2 g2 h4 g4 h3 g3⟩
        · cases h
    · rw [visS_app, visS_app, htv, visS_map (f := leftS b) (fun _ => rfl), visS_map (f := rightS a) (fun _ => rfl)]; omega
    · have ht3 : tauS (sa.flatMap fun x => tauRow x sb) ≤ visS sa * visS sb := by
        have := len_vt (sa.flatMap fun x => tauRow x sb); omega
      have hvv : visS sa * visS sb ≤ (c * i) * (c * j) := Nat.mul_le_mul va vb
      rw [tauS_app, tauS_app, tauS_map (f := leftS b) (fun _ => rfl), tauS_map (f := rightS a) (fun _ => rfl)]
      generalize c * i = u at *
      generalize c * j = v at *
      generalize c * (i + j + 1) = w at *
      have h1 : (u + v) * (u + v) ≤ w * w := Nat.mul_le_mul (by omega) (by omega)
      have h2 : (u + v) * (u + v) = u * u + v * v + 2 * (u * v) := by rw [Nat.add_mul, Nat.mul_add, Nat.mul_add, Nat.mul_comm v u]; omega
      omega
  | hide x a k hx ha ih =>
    intro hk hcl hq m hm
    obtain ⟨m, rfl⟩ : ∃ m', m = m' + 1 := ⟨m - 1, by omega⟩
    have hs := hcl.sub (by decide)
    obtain ⟨sa, ea, pa, va, ta⟩ := ih (by omega) (hs a (.head _)) (hQ4 x a hq) m (by omega)
    have hu : c * (k + 1) = c * k + c := by rw [Nat.mul_add, Nat.mul_one]
    have hla := hlen sa _ (hck k (by omega)) va ta
    refine ⟨(sa.filter (keepH' x)).map fun s => ⟨s.act, .mk 4 x [s.thn]⟩, ?_, fun s hs' => ?_, ?_, ?_⟩
    · show f151.b L N (f151 L N m) some (.mk 4 x [a]) ds = _
      unfold f151.b f151.b'
      rw [bif_n (by rfl), bif_n (by rfl), bif_n (by rfl), bif_y (by rfl), bif_y (by rfl)]
      show ((f151 L N m a ds).bind _) = _
      rw [ea, Option.bind_some]
      refine (hide4 L N (f151 L N m) some 4 x [a] sa (by omega) L 0 [] (by omega) (by omega) (by simp only [List.length_nil]; omega)).trans ?_
      simp only [List.drop_zero, List.nil_append]
    · obtain ⟨y, hy, rfl⟩ := List.mem_map.1 hs'
      obtain ⟨h1, k', h2, h3, h4⟩ := pa y (List.mem_filter.1 hy).1
      exact ⟨h1, k' + 1, .hide x y.thn k' hx h2, by omega, .node false 4 x [y.thn] (by decide) fun p hp => by rw [List.mem_singleton.1 hp]; exact h4⟩
    · rw [visS_map (f := fun s => ⟨s.act, .mk 4 x [s.thn]⟩) (fun _ => rfl)]
      have := visS_sub (p := keepH' x) sa
      omega
    · rw [tauS_map (f := fun s => ⟨s.act, .mk 4 x [s.thn]⟩) (fun _ => rfl)]
      have := tauS_sub (p := keepH' x) sa
      have h3 : (c * k) * (c * k) ≤ (c * (k + 1)) * (c * (k + 1)) := Nat.mul_le_mul (by omega) (by omega)
      omega
theorem steps_ok (L N : Nat) (hL : 1000001 < L) (ds : List Tree) (hd : DefsW ds) (t : Tree) (k : Nat) (h : WT t k) (hk : k ≤ 24) (hcl : CL (ds.length : Int) false t) (m : Nat) (hm : 60 ≤ m) :
    Res (ds.length : Int) 576 (f151 L N m t ds) := by
  have guarded : ∀ (t : Tree) (k : Nat), WT t k → k ≤ 24 → CL (ds.length : Int) false t → CL 0 true t → ∀ m, k + 0 ≤ m → Res (ds.length : Int) (1 * k) (f151 L N m t ds) :=
    steps_gen L N hL ds 1 0 ⟨by omega, by omega⟩ (fun t => CL 0 true t)
      (fun a b h => ⟨h.sub2 (by decide) (by decide) a (.head _), h.sub2 (by decide) (by decide) b (.tail _ (.head _))⟩)
      (fun a b h => ⟨h.sub2 (by decide) (by decide) a (.head _), h.sub2 (by decide) (by decide) b (.tail _ (.head _))⟩)
      (fun x a h => h.sub2 (by decide) (by decide) a (.head _))
      (fun m x h0 h1 hq _ => by have := hq.lt; omega)
  have all := steps_gen L N hL ds 24 25 ⟨by omega, by omega⟩ (fun _ => True) (fun _ _ _ => ⟨trivial, trivial⟩) (fun _ _ _ => ⟨trivial, trivial⟩) (fun _ _ _ => trivial)
      (fun m x h0 h1 _ hm => by
        obtain ⟨i, rfl⟩ := Int.eq_ofNat_of_zero_le h0
        have hi : i < ds.length := by omega
        obtain ⟨kd, k1, k2, k3, k4⟩ := hd.2 ds[i] (List.getElem_mem hi)
        obtain ⟨st, e, p, v, tt⟩ := guarded ds[i] kd k2 k1 k3 k4 m (by omega)
        refine ⟨st, ?_, fun s hs => ?_, by omega, ?_⟩
        · show f151.b L N (f151 L N m) some (.mk 5 (i : Int) []) ds = _
          unfold f151.b f151.b'
          rw [bif_n (by rfl), bif_n (by rfl), bif_n (by rfl), bif_n (by rfl), bif_y (by rfl)]
          show (bif decide ((0 : Int) ≤ (i : Int)) && decide ((i : Int) < (ds.length : Int)) then ((f151 L N m (listAt ds (Ty.dflt (.st 1)) (i : Int).toNat) ds).bind _) else none) = _
          simp only [le0, lt_cast hi, Bool.and_true, cond_true, Int.toNat_natCast, at_lt hi, e, Option.bind_some]
        · obtain ⟨h1, k', h2, h3, h4⟩ := p s hs
          exact ⟨h1, k', h2, by omega, h4⟩
        · have : (1 * kd) * (1 * kd) ≤ 24 * 24 := Nat.mul_le_mul (by omega) (by omega)
          omega)
  obtain ⟨st, e, p, v, tt⟩ := all t k h hk hcl trivial m (by omega)
  have hb : 24 * k ≤ 576 := by omega
  refine ⟨st, e, fun s hs => ?_, by omega, ?_⟩
  · obtain ⟨h1, k', h2, h3, h4⟩ := p s hs
    exact ⟨h1, k', h2, by omega, h4⟩
  · have : (24 * k) * (24 * k) ≤ 576 * 576 := Nat.mul_le_mul hb hb
    omega
end Go.Proofs.Ytdfjdbpklbehoaa.Ev
namespace Go.Proofs.Ytdfjdbpklbehoaa.Ev
open Go
set_option linter.unusedVariables false
set_option linter.unusedSimpArgs false
def Fwd (r : List Move) : Prop := ∀ m ∈ r, 0 ≤ m.to
def SlimR (r : List Move) : Prop := r.length ≤ 540 ∧ Fwd r
def Slim (g : Graph) : Prop := g.moves.length ≤ 60 ∧ ∀ r ∈ g.moves, SlimR r
theorem Slim.size {g : Graph} (h : Slim g) : g.moves.length + gsize g.moves ≤ 1048576 := by
  have := gsize_le fun r hr => (h.2 r hr).1
  have := h.1
  omega
def Mv60 (row : List Move) : Prop := ∀ m ∈ row, -4 ≤ m.act ∧ m.act ≤ 4 ∧ 0 ≤ m.to ∧ m.to < 60
theorem sorted_slim (L N : Nat) {row : List Move} (hl : row.length ≤ 1000000) (hm : Mv60 row) (hL : 1000002 < L) : ∃ ys, f123 L N row = some ys ∧ SlimR ys := by
  obtain ⟨ys, e, h1, h2, -⟩ := l3Sorted_ok L N row (by omega) (by omega)
  exact ⟨ys, e, risesM_len h1 fun m hmm => hm m ((h2 m).1 hmm), fun m hmm => (hm m ((h2 m).1 hmm)).2.2.1⟩
def FinG (r : Option (Graph × Bool)) : Prop := ∃ g ok, r = some (g, ok) ∧ Slim g
def InvT (n : Int) (terms : List Tree) (keys : List ByteArray) : Prop := terms.length = keys.length ∧ terms.length ≤ 60 ∧ ∀ t ∈ terms, ∃ k, k ≤ 24 ∧ WT t k ∧ CL n false t
theorem search2 {R : Type} (L N : Nat) (K : List Tree → Int → Int → ByteArray → Int → List Tree → List ByteArray → List Step → List Move → List (List Move) → Option R) (ds : List Tree) (i j : Int) (key : ByteArray) (terms : List Tree) (keys : List ByteArray) (st : List Step) (row : List Move) (rows : List (List Move)) (hk : keys.length ≤ 60) :
    ∀ (n q : Nat), q ≤ keys.length → keys.length - q < n → ∃ q' : Nat, q' ≤ keys.length ∧ f133.l2 L N K n ds i j key (q : Int) terms keys st row rows = K ds i j key (q' : Int) terms keys st row rows := by
  intro n
  induction n with
  | zero => intro q _ h; omega
  | succ n ih =>
    intro q hq hn
    show ∃ q' : Nat, _ ∧ f133.s2 L N _ (f133.l2 L N _ n) ds i j key (q : Int) terms keys st row rows = _
    unfold f133.s2 f133.s2'
    by_cases hlt : q < keys.length
    · simp only [lt_cast hlt, le0, Bool.and_true, cond_true, Int.toNat_natCast]
      cases hc : (!((listAt keys ByteArray.empty q).toList == key.toList)) with
      | true => rw [cond_true, wi_nat (by omega)]; exact ih (q + 1) (by omega) (by omega)
      | false => rw [cond_false]; exact ⟨q, hq, rfl⟩
    · rw [ge_cast hlt, cond_false]; exact ⟨q, hq, rfl⟩
theorem inner1 (L N : Nat) (hN : 1000 ≤ N) (hL : 1000002 < L) (ds : List Tree) (nn : Int) (i : Int) (st : List Step) (rows : List (List Move))
    (Ke : List Tree → Int → List Tree → List ByteArray → List Move → List (List Move) → Option (Graph × Bool)) (Kr : List Tree → Bool → Int → List Tree → List ByteArray → List Move → List (List Move) → Option (Graph × Bool))
    (hst : ∀ s ∈ st, SOk nn 576 s) (hsl : st.length ≤ 400000)
    (hKe : ∀ terms keys row, InvT nn terms keys → row.length ≤ 400000 → Mv60 row → FinG (Ke ds i terms keys row rows)) (hKr : ∀ terms keys row, FinG (Kr ds false i terms keys row rows)) :
    ∀ (n j : Nat) (terms : List Tree) (keys : List ByteArray) (row : List Move), j ≤ st.length → st.length - j < n → InvT nn terms keys → row.length ≤ j → Mv60 row →
      FinG (f133.l1 L N Ke Kr n ds i (j : Int) terms keys st row rows) := by
  have hlim := lim_eq
  intro n
  induction n with
  | zero => intro j terms keys row _ h; omega
  | succ n ih =>
    intro j terms keys row hj hn hI hrl hrow
    obtain ⟨hk1, hk2, hk3⟩ := id hI
    show FinG (f133.s1 L N _ _ (f133.l1 L N _ _ n) ds i (j : Int) terms keys st row rows)
    unfold f133.s1 f133.s1'
    by_cases hlt : j < st.length
    · obtain ⟨hact, k', hw, hk', hcl⟩ := hst st[j] (List.getElem_mem hlt)
      have hnd := hw.nodes_eq
      obtain ⟨key, e, hks⟩ := l2Text_ok L N (by omega) (by omega) (st[j]).thn k' hw (by omega) N (by omega)
      simp only [lt_cast hlt, le0, Bool.and_true, cond_true, Int.toNat_natCast, at_lt hlt, tree_eta, e, Option.bind_some]
      obtain ⟨q, hq, e2⟩ := search2 L N (fun z44 z45 z46 z47 z48 z49 z50 z51 z52 z53 => f133.p2_e4 L N Ke Kr (f133.l1 L N Ke Kr n) z44 z45 z46 z47 z48 z49 z50 z51 z52 z53) ds i (j : Int) key terms keys st row rows (by omega) L 0 (by omega) (by omega)
      refine (fun h => by rw [show f133.l2 L N (fun z44 z45 z46 z47 z48 z49 z50 z51 z52 z53 => f133.p2_e4 L N Ke Kr (f133.l1 L N Ke Kr n) z44 z45 z46 z47 z48 z49 z50 z51 z52 z53) L ds i (j : Int) key (0 : Int) terms keys st row rows = _ from e2]; exact h : FinG (f133.p2_e4' L N Ke Kr (f133.l1 L N Ke Kr n) ds i (j : Int) key (q : Int) terms keys st row rows) → _) ?_
    
      have put : ∀ (terms' : List Tree) (keys' : List ByteArray), InvT nn terms' keys' → q < 60 → FinG (f133.j1' L N Ke Kr (f133.l1 L N Ke Kr n) ds i (j : Int) (q : Int) terms' keys' st row rows) := by
        intro terms' keys' hI' hq60
        unfold f133.j1'
        have hle : decide (row.length + ([Move.mk (st[j]).act (q : Int)] : List Move).length ≤ lim) = true := dt (by simp only [List.length_cons, List.length_nil]; omega)
        simp only [lt_cast hlt, le0, Bool.and_true, cond_true, Int.toNat_natCast, at_lt hlt, hle]
        rw [wi_nat (by omega)]
        refine ih (j + 1) terms' keys' _ (by omega) (by omega) hI' (by simp only [List.length_append, List.length_cons, List.length_nil]; omega) fun m hm => ?_
        rcases List.mem_append.1 hm with h | h
        · exact hrow m h
        · rw [List.mem_singleton.1 h]; exact ⟨hact.1, hact.2, by show (0 : Int) ≤ (q : Int); omega, by show (q : Int) < 60; omega⟩
      unfold f133.p2_e4'
      by_cases hqe : q = keys.length
      · rw [show ((q : Int) == (keys.length : Int)) = true by rw [hqe]; simp, cond_true]
        by_cases h60 : q = 60
        · rw [show ((q : Int) == 60) = true by rw [h60]; rfl, cond_true]
          exact hKr terms keys row
        · rw [show ((q : Int) == 60) = false by simp; omega, cond_false]
          obtain ⟨r, f, r0, r1, hr⟩ := l2Nodes_ok L N N (st[j]).thn (by omega) (by omega)
          simp only [lt_cast hlt, le0, Bool.and_true, cond_true, Int.toNat_natCast, at_lt hlt, tree_eta, f, Option.bind_some]
          by_cases h24 : r > 24
          · rw [dt h24, cond_true]; exact hKr terms keys row
          · rw [df h24, cond_false]
            unfold f133.j0'
            have hle1 : decide (terms.length + ([(st[j]).thn] : List Tree).length ≤ lim) = true := dt (by simp only [List.length_cons, List.length_nil]; omega)
            have hle2 : decide (keys.length + ([key] : List ByteArray).length ≤ lim) = true := dt (by simp only [List.length_cons, List.length_nil]; omega)
            simp only [lt_cast hlt, le0, Bool.and_true, cond_true, Int.toNat_natCast, at_lt hlt, tree_eta, hle1, hle2]
            have hk24 : k' ≤ 24 := by
              have h1 := l2Nodes_wt L N (by omega) (st[j]).thn k' hw (by omega) N (by omega)
              rw [f] at h1
              have h1 := Option.some.inj h1
              omega
            refine put _ _ ⟨by simp [hk1], by simp; omega, fun t ht => ?_⟩ (by omega)
            rcases List.mem_append.1 ht with h | h
            · exact hk3 t h
            · rw [List.mem_singleton.1 h]; exact ⟨k', hk24, hw, hcl⟩
      · rw [show ((q : Int) == (keys.length : Int)) = false by simp; omega, cond_false]
        exact put terms keys hI (by omega)
    · rw [ge_cast hlt, cond_false]
      exact hKe terms keys row hI (by omega) hrow
theorem l3Graph_ok (L N : Nat) (hN : 1000 ≤ N) (hL : 1000002 < L) (ds : List Tree) (hd : DefsW ds) (t : Tree) (k : Nat) (hk : k ≤ 24) (hw : WT t k) (hcl : CL (ds.length : Int) false t) : FinG (f133 L N t ds) := by
  have hlim := lim_eq
  obtain ⟨key, e, hks⟩ := l2Text_ok L N (by omega) (by omega) t k hw (by omega) N (by omega)
  show FinG (f133.b L N (fun a0 a1 => some (a0, a1)) t ds)
  unfold f133.b f133.b'
  simp only [tree_eta, e, Option.bind_some]
  have key0 : ∀ (n i : Nat) (terms : List Tree) (keys : List ByteArray) (rows : List (List Move)), i ≤ terms.length → 60 - i < n → InvT (ds.length : Int) terms keys → rows.length = i → (∀ r ∈ rows, SlimR r) →
      FinG (f133.l0 L N (fun z6 => f133.p0_e0 L N (fun a0 a1 => some (a0, a1)) z6) (fun z102 z103 => f133.p0_r L N (fun a0 a1 => some (a0, a1)) z102 z103) n ds (i : Int) terms keys rows) := by
    intro n
    induction n with
    | zero => intro i terms keys rows hi h hI; omega
    | succ n ih =>
      intro i terms keys rows hi hn hI hrl hrr
      obtain ⟨hk1, hk2, hk3⟩ := id hI
      show FinG (f133.s0 L N _ _ (f133.l0 L N _ _ n) ds (i : Int) terms keys rows)
      unfold f133.s0 f133.s0'
      by_cases hlt : i < terms.length
      · obtain ⟨k', hk', hw', hcl'⟩ := hk3 terms[i] (List.getElem_mem hlt)
        obtain ⟨st, f, hs, hv, ht⟩ := steps_ok L N (by omega) ds hd terms[i] k' hw' hk' hcl' N (by omega)
        have hsl := len_vt st
        simp only [lt_cast hlt, le0, Bool.and_true, cond_true, Int.toNat_natCast, at_lt hlt, f, Option.bind_some]
        refine inner1 L N hN hL ds (ds.length : Int) (i : Int) st rows _ _ hs (by omega) (fun terms' keys' row hI' hrow' hmv => ?_) (fun terms' keys' row => ?_) L 0 terms keys [] (by omega) (by omega) hI (by simp) (fun m hm => by cases hm)
        · show FinG (f133.p1_e2' L N _ _ _ ds (i : Int) terms' keys' row rows)
          unfold f133.p1_e2'
          obtain ⟨ys, g, hys⟩ := sorted_slim L N (by omega) hmv hL
          have hle : decide (rows.length + ([ys] : List (List Move)).length ≤ lim) = true := dt (by simp only [List.length_cons, List.length_nil]; omega)
          rw [g, Option.bind_some, hle, cond_true, wi_nat (by omega)]
          by_cases hgt : i + 1 ≤ terms'.length
          · refine ih (i + 1) terms' keys' _ hgt (by omega) hI' (by simp [hrl]) fun r hr => ?_
            rcases List.mem_append.1 hr with h | h
            · exact hrr r h
            · rw [List.mem_singleton.1 h]; exact hys
          · -- no terms are left: the loop ends at once
            obtain ⟨n', rfl⟩ : ∃ n', n = n' + 1 := ⟨n - 1, by omega⟩
            show FinG (f133.s0 L N _ _ (f133.l0 L N _ _ n') ds ((i + 1 : Nat) : Int) terms' keys' _)
            unfold f133.s0 f133.s0'
            rw [ge_cast (by omega), cond_false]
            refine ⟨_, _, rfl, by simp [hrl]; omega, fun r hr => ?_⟩
            rcases List.mem_append.1 hr with h | h
            · exact hrr r h
            · rw [List.mem_singleton.1 h]; exact hys
        · exact ⟨⟨[]⟩, false, rfl, by simp, fun r hr => by cases hr⟩
      · rw [ge_cast hlt, cond_false]
        exact ⟨⟨rows⟩, true, rfl, by show rows.length ≤ 60; omega, hrr⟩
  exact key0 L 0 [t] [key] [] (by simp) (by omega) ⟨rfl, by simp, fun x hx => by rw [List.mem_singleton.1 hx]; exact ⟨k, hk, hw, hcl⟩⟩ rfl (fun r hr => by cases hr)
theorem graphOf_ok (L N : Nat) (hN : 1000 ≤ N) (hL : 1000002 < L) (t : Tree) (ds : List Tree) (ht : nodes t ≤ 1000) (hd : ∀ d ∈ ds, nodes d ≤ 1000) (hdl : ds.length ≤ 1000) : FinG (f104 L N t ds) := by
  obtain ⟨r1, e1, h1⟩ := defsOk_ok L N ds hd hdl hN (by omega)
  obtain ⟨r2, e2, h2⟩ := fits_ok L N t (ds.length : Int) ht hN (by omega)
  have hask : f132 L N t ds = some (r1 && r2) := by
    show f132.b' L N some t ds = _
    unfold f132.b'
    rw [e1, Option.bind_some, tree_eta]
    cases r1 with
    | true => rw [cond_true, e2, Option.bind_some, Bool.true_and]
    | false => rfl
  show FinG (f104.b' L N (fun a0 a1 => some (a0, a1)) t ds)
  unfold f104.b'
  rw [tree_eta, hask, Option.bind_some]
  cases hr : (r1 && r2) with
  | false => rw [Bool.not_false, cond_true]; exact ⟨⟨[]⟩, false, rfl, by simp, fun r hr => by cases hr⟩
  | true =>
    rw [Bool.and_eq_true] at hr
    obtain ⟨k, hk, hw, -, hcl⟩ := h2 hr.2
    obtain ⟨g, ok, e, hg⟩ := l3Graph_ok L N hN hL ds (h1 hr.1) t k hk hw hcl
    rw [Bool.not_true, cond_false, e, Option.bind_some]
    exact ⟨_, _, rfl, hg⟩
theorem wild_draw (L N : Nat) (hL : 1000002 < L) {c : List Int} (hb : BOk c) {p : Int} (p0 : 0 ≤ p) (pb : p ≤ 1000000000) :
    ∃ g p', f105 L N c p (6 : Int) = some (g, c, p') ∧ p ≤ p' ∧ p' ≤ p + 1000 ∧ Slim g := by
  have hlim := lim_eq
  show ∃ g p', f105.b L N (fun a0 a1 a2 => some (a0, a1, a2)) c p (6 : Int) = _ ∧ _
  unfold f105.b f105.b'
  obtain ⟨r, hr, r0, r1⟩ := pick_ok L N hb (p := p) (n := 6) p0 (by omega) (by omega)
  obtain ⟨u, hu, u0, u1⟩ := pick_ok L N hb (p := p + 1) (n := 2) (by omega) (by omega) (by omega)
  rw [hr]
  simp only [Option.bind_some, hu]
  obtain ⟨k, rfl⟩ := Int.eq_ofNat_of_zero_le r0
  have hw : wi (1 + (k : Int)) = ((k + 1 : Nat) : Int) := by rw [wi_id (by omega) (by omega)]; omega
  rw [hw]
  generalize (u == 0) = bb
  generalize hnn : k + 1 = nn
  have hnn6 : 1 ≤ nn ∧ nn ≤ 6 := by omega
  have fin : ∀ (q : Int) (s7 rows : List (List Move)), p ≤ q → q ≤ p + 900 → rows.length = nn → (∀ r ∈ rows, r.length ≤ 3 ∧ Fwd r) →
      ∃ g p', f105.p0_e0' L N (fun a0 a1 a2 => some (a0, a1, a2)) (nn : Int) c q s7 rows = some (g, c, p') ∧ p ≤ p' ∧ p' ≤ p + 1000 ∧ Slim g := by
    intro q s7 rows q0 q1 hl hrr
    unfold f105.p0_e0'
    obtain ⟨v, hv, v0, v1⟩ := pick_ok L N hb (p := q) (n := 30) (by omega) (by omega) (by omega)
    rw [hv]
    simp only [Option.bind_some]
    have h0 : 0 < rows.length := by omega
    have g0 : (decide ((0 : Int) ≤ 0) && decide ((0 : Int) < (rows.length : Int))) = true := by rw [dt (show (0 : Int) < (rows.length : Int) by omega)]; rfl
    have hl0 : listAt rows [] (0 : Int).toNat = rows[0] := at_lt h0
    obtain ⟨hr0, hf0⟩ := hrr rows[0] (List.getElem_mem h0)
    have put : ∀ m : Move, 0 ≤ m.to → Slim ⟨rows.set ((0 : Int).toNat) (rows[0] ++ [m])⟩ := fun m hm0 => by
      refine ⟨by show (rows.set _ _).length ≤ 60; rw [List.length_set]; omega, fun r hr => ?_⟩
      rcases List.mem_or_eq_of_mem_set hr with h | h
      · obtain ⟨a1, a2⟩ := hrr r h; exact ⟨by omega, a2⟩
      · rw [h]
        refine ⟨by rw [List.length_append, List.length_cons, List.length_nil]; omega, fun x hx => ?_⟩
        rcases List.mem_append.1 hx with hx | hx
        · exact hf0 x hx
        · rw [List.mem_singleton.1 hx]; exact hm0
    by_cases e0 : v = 0
    · have hle : decide ((rows[0]).length + ([Move.mk (9 : Int) (0 : Int)] : List Move).length ≤ lim) = true := dt (by simp only [List.length_cons, List.length_nil]; omega)
      rw [show (v == 0) = true by simpa using e0, cond_true, g0, cond_true, hl0, hle, cond_true, cond_true]
      exact ⟨_, _, rfl, by omega, by omega, put _ (by show (0 : Int) ≤ 0; omega)⟩
    · rw [show (v == 0) = false by simpa using e0, cond_false]
      by_cases e1 : v = 1
      · have hle : decide ((rows[0]).length + ([Move.mk (0 : Int) (nn : Int)] : List Move).length ≤ lim) = true := dt (by simp only [List.length_cons, List.length_nil]; omega)
        rw [show (v == 1) = true by simpa using e1, cond_true, g0, cond_true, hl0, hle, cond_true, cond_true]
        exact ⟨_, _, rfl, by omega, by omega, put _ (by show (0 : Int) ≤ (nn : Int); omega)⟩
      · rw [show (v == 1) = false by simpa using e1, cond_false]
        by_cases e2 : v = 2
        · rw [show (v == 2) = true by simpa using e2, cond_true]
          exact ⟨_, _, rfl, by omega, by omega, by simp, fun r hr => by cases hr⟩
        · rw [show (v == 2) = false by simpa using e2, cond_false]
          exact ⟨_, _, rfl, by omega, by omega, by show rows.length ≤ 60; omega, fun r hr => ⟨by have := (hrr r hr).1; omega, (hrr r hr).2⟩⟩
  have row1 : ∀ (K : Int → Bool → Int → List Int → Int → List Move → List (List Move) → List (List Move) → Option (Graph × List Int × Int)) (i : Int) (s22 rows : List (List Move)) (m : Nat) (j : Nat) (q : Int) (row : List Move), j < m → j ≤ 3 → row.length + j ≤ 3 → Fwd row → p ≤ q → q ≤ p + 900 - 5 * (j : Int) →
      ∃ q' row', q ≤ q' ∧ q' ≤ q + 5 * (j : Int) ∧ (row'.length ≤ 3 ∧ Fwd row') ∧ f105.l1 L N K m (nn : Int) bb i (j : Int) c q row s22 rows = K (nn : Int) bb i c q' row' s22 rows := by
    intro K i s22 rows m
    induction m with
    | zero => intro j q row h; omega
    | succ m ih =>
      intro j q row hj hj3 hrl hfw q0 q1
      show ∃ q' row', _ ∧ _ ∧ _ ∧ f105.s1 L N _ (f105.l1 L N _ m) (nn : Int) bb i (j : Int) c q row s22 rows = _
      unfold f105.s1 f105.s1'
      by_cases hj0 : j = 0
      · subst hj0
        rw [show decide (((0 : Nat) : Int) > 0) = false from rfl, cond_false]
        exact ⟨q, row, by omega, by omega, ⟨by omega, hfw⟩, rfl⟩
      · obtain ⟨j', rfl⟩ : ∃ j', j = j' + 1 := ⟨j - 1, by omega⟩
        have hwj : wi (((j' + 1 : Nat) : Int) - 1) = (j' : Int) := by rw [wi_id (by omega) (by omega)]; omega
        have put : ∀ (act z : Int), q ≤ z → z ≤ q + 4 → ∃ q' row', q ≤ q' ∧ q' ≤ q + 5 * ((j' + 1 : Nat) : Int) ∧ (row'.length ≤ 3 ∧ Fwd row') ∧ f105.j0' L N K (f105.l1 L N K m) (nn : Int) bb i ((j' + 1 : Nat) : Int) act c z row s22 rows = K (nn : Int) bb i c q' row' s22 rows := by
          intro act z z0 z1
          unfold f105.j0'
          obtain ⟨v, hv, v0, v1⟩ := pick_ok L N hb (p := z) (n := (nn : Int)) (by omega) (by omega) (by omega)
          have hle : decide (row.length + ([Move.mk act v] : List Move).length ≤ lim) = true := dt (by simp only [List.length_cons, List.length_nil]; omega)
          simp only [hv, Option.bind_some, hle, cond_true, hwj]
          obtain ⟨q', row', a1, a2, a3, a4⟩ := ih j' (z + 1) (row ++ [Move.mk act v]) (by omega) (by omega) (by simp only [List.length_append, List.length_cons, List.length_nil]; omega) (fun x hx => by
            rcases List.mem_append.1 hx with hx | hx
            · exact hfw x hx
            · rw [List.mem_singleton.1 hx]; exact v0) (by omega) (by omega)
          exact ⟨q', row', by omega, by omega, a3, a4⟩
        obtain ⟨v, hv, v0, v1⟩ := pick_ok L N hb (p := q) (n := 3) (by omega) (by omega) (by omega)
        rw [dt (show ((j' + 1 : Nat) : Int) > 0 by omega), cond_true, hv]
        simp only [Option.bind_some]
        cases bb with
        | true => exact put _ _ (by omega) (by omega)
        | false =>
          obtain ⟨w, hw', w0, w1⟩ := do_ok L N hb (p := q + 1) (by omega) (by omega)
          rw [Bool.not_false, cond_true, hw']
          simp only [Option.bind_some]
          exact put _ _ (by omega) (by omega)
  have key : ∀ (n i : Nat) (q : Int) (s7 rows : List (List Move)), i ≤ nn → nn - i < n → rows.length = i → (∀ r ∈ rows, r.length ≤ 3 ∧ Fwd r) → p ≤ q → q ≤ p + 10 + 20 * (i : Int) →
      ∃ g p', f105.l0 L N (fun z9 z10 z11 z12 z13 => f105.p0_e0 L N (fun a0 a1 a2 => some (a0, a1, a2)) z9 z10 z11 z12 z13) n (nn : Int) bb (i : Int) c q s7 rows = some (g, c, p') ∧ p ≤ p' ∧ p' ≤ p + 1000 ∧ Slim g := by
    intro n
    induction n with
    | zero => intro i q s7 rows _ h; omega
    | succ n ih =>
      intro i q s7 rows hi hn hl hrr q0 q1
      show ∃ g p', f105.s0 L N _ (f105.l0 L N _ n) (nn : Int) bb (i : Int) c q s7 rows = _ ∧ _
      unfold f105.s0 f105.s0'
      by_cases hlt : i < nn
      · obtain ⟨v, hv, v0, v1⟩ := pick_ok L N hb (p := q) (n := 4) (by omega) (by omega) (by omega)
        obtain ⟨j, rfl⟩ := Int.eq_ofNat_of_zero_le v0
        rw [lt_cast hlt, cond_true, hv]
        simp only [Option.bind_some]
        obtain ⟨q', row', a1, a2, a3, a4⟩ := row1 (fun z24 z25 z26 z27 z28 z29 z30 z31 => f105.p1_e2 L N (fun z9 z10 z11 z12 z13 => f105.p0_e0 L N (fun a0 a1 a2 => some (a0, a1, a2)) z9 z10 z11 z12 z13) (f105.l0 L N (fun z9 z10 z11 z12 z13 => f105.p0_e0 L N (fun a0 a1 a2 => some (a0, a1, a2)) z9 z10 z11 z12 z13) n) z24 z25 z26 z27 z28 z29 z30 z31) (i : Int) s7 rows L j (q + 1) [] (by omega) (by omega) (by simp; omega) (fun x hx => by cases hx) (by omega) (by omega)
        rw [a4]
        show ∃ g p', f105.p1_e2' L N _ _ (nn : Int) bb (i : Int) c q' row' s7 rows = _ ∧ _
        unfold f105.p1_e2'
        obtain ⟨a3, a3'⟩ := a3
        obtain ⟨ys, e, h1, h2, h3⟩ := l3Sorted_ok L N row' (by omega) (by omega)
        have hle : decide (rows.length + ([ys] : List (List Move)).length ≤ lim) = true := dt (by simp only [List.length_cons, List.length_nil]; omega)
        rw [e, Option.bind_some, hle, cond_true, wi_nat (by omega)]
        refine ih (i + 1) q' s7 _ (by omega) (by omega) (by simp [hl]) (fun r hr => ?_) (by omega) (by omega)
        rcases List.mem_append.1 hr with h | h
        · exact hrr r h
        · rw [List.mem_singleton.1 h]; exact ⟨by omega, fun x hx => a3' x ((h2 x).1 hx)⟩
      · rw [ge_cast hlt, cond_false]
        exact fin q s7 rows q0 (by omega) (by omega) hrr
  exact key L 0 (p + 1 + 1) [] [] (by omega) (by omega) rfl (fun r hr => by cases hr) (by omega) (by omega)
theorem graph_draw (L N : Nat) (hN : 1000 ≤ N) (hL : 1000002 < L) {c : List Int} (hb : BOk c) {p : Int} (p0 : 0 ≤ p) (pb : p ≤ 1000000) :
    ∃ g p', f69 L N c p = some (g, c, p') ∧ p ≤ p' ∧ p' ≤ p + 40000 ∧ Slim g := by
  show ∃ g p', f69.b' L N (fun a0 a1 a2 => some (a0, a1, a2)) c p = _ ∧ _
  unfold f69.b'
  obtain ⟨r, hr, r0, r1⟩ := pick_ok L N hb (p := p) (n := 2) p0 (by omega) (by omega)
  rw [hr]
  simp only [Option.bind_some]
  by_cases h0 : r = 0
  · obtain ⟨t, ds, p1, e, e1, e2, e3, e4, e5⟩ := called_draw L N (by omega) (by omega) hb (p := p + 1) (by omega) (by omega)
    obtain ⟨g, ok, f, hg⟩ := graphOf_ok L N hN hL t ds (by omega) (fun d hd => by have := e5 d hd; omega) (by omega)
    rw [show (r == 0) = true by simpa using h0, cond_true, e]
    simp only [Option.bind_some, tree_eta, f]
    cases ok with
    | true => rw [cond_true]; exact ⟨_, _, rfl, by omega, by omega, hg⟩
    | false =>
      obtain ⟨g2, p2, f2, f3, f4, f5⟩ := wild_draw L N hL hb (p := p1) (by omega) (by omega)
      rw [cond_false, f2]
      simp only [Option.bind_some]
      exact ⟨_, _, rfl, by omega, by omega, f5⟩
  · obtain ⟨g2, p2, f2, f3, f4, f5⟩ := wild_draw L N hL hb (p := p + 1) (by omega) (by omega)
    rw [show (r == 0) = false by simpa using h0, cond_false, f2]
    simp only [Option.bind_some]
    exact ⟨_, _, rfl, by omega, by omega, f5⟩
end Go.Proofs.Ytdfjdbpklbehoaa.Ev
namespace Go.Proofs.Ytdfjdbpklbehoaa.Ev
open Go
set_option linter.unusedVariables false
set_option linter.unusedSimpArgs false
theorem lawBranch (x0 : List Int) (hx0 : DatOk (.sl (.int .u8)) x0) : ∃ L N, f9 L N x0 = some true := by
  generalize hLL : 8589934592 = L
  refine ⟨L, 1000, ?_⟩
  have hlim := lim_eq
  obtain ⟨c, o1, o2⟩ := open_ok L 1000 hx0
  obtain ⟨g, p', d1, -, -, d2⟩ := graph_draw L 1000 (by omega) (by omega) o2 (p := 0) (by omega) (by omega)
  have hge : ∀ g : Graph, Graph.mk g.moves = g := fun g => by cases g; rfl
  have hd : f43 L 1000 x0 = some g := by
    show f43.b' L 1000 some x0 = _
    unfold f43.b'
    rw [o1]
    simp only [Option.bind_some, d1, hge]
  have hsz := d2.size
  obtain ⟨b, e1, e2, e3, e4, e5⟩ := branchClassesC L 1000 g hsz (by omega)
  obtain ⟨q, f1, f2, f3, f4⟩ := alikeC L 1000 g hsz (by omega)
  show f9.b L 1000 some x0 = _
  unfold f9.b f9.b'
  by_cases hl : (x0.length : Int) > 1048576
  · rw [dt hl, cond_true]
  · rw [df hl, cond_false, hd]
    simp only [Option.bind_some, hge, e1, e2, f1, mnInts_same L 1000 b (by omega) (by omega), Bool.not_true, cond_false]
    have hlen : q.length = b.length := by
      cases hk : graphOk g with
      | false => rw [e4 hk, f3 hk]
      | true =>
        obtain ⟨_, -, h1⟩ := e5 hk
        obtain ⟨_, -, h2⟩ := f4 hk
        rw [h1.1, h2.1]
    have hfine : f45 L 1000 q b = some true := by
      refine mnFiner_ok L 1000 q b hlen (fun i j hi hj e => ?_) (by omega) (by omega)
      cases hk : graphOk g with
      | false => rw [f3 hk] at hi; simp at hi
      | true =>
        obtain ⟨_, h0, h1⟩ := e5 hk
        obtain ⟨_, -, h2⟩ := f4 hk
        have := h2.1
        exact alike_branch (leads_of hk hsz) h2 h0 (by omega) (by omega) e
    have fin : ∀ s : Bool, (s = false → ∀ (u : Nat) (hu : u < g.moves.length) (k : Nat) (hk : k < (g.moves[u]).length), (g.moves[u])[k].act ≠ 0) → f9.p0_e0' L 1000 some s b q = some true := by
      intro s hs
      unfold f9.p0_e0'
      rw [hfine, Option.bind_some, cond_true]
      cases s with
      | true => rfl
      | false =>
        rw [cond_false]
        have : q = b := by
          cases hk : graphOk g with
          | false => rw [e4 hk, f3 hk]
          | true =>
            obtain ⟨_, h0, h1⟩ := e5 hk
            obtain ⟨_, h2, h3⟩ := f4 hk
            exact branch_calm (leads_of hk hsz) h2 h3 h0 h1 (hs rfl)
        rw [this, mnInts_same L 1000 b (by omega) (by omega), Option.bind_some]
    have hgl := d2.1
    have key : ∀ (n i : Nat) (s : Bool), i ≤ g.moves.length → g.moves.length - i < n → (s = false → ∀ (u : Nat) (hu : u < g.moves.length) (k : Nat) (hk : k < (g.moves[u]).length), u < i → (g.moves[u])[k].act ≠ 0) →
        f9.l0 L 1000 (fun z10 z11 z12 => f9.p0_e0 L 1000 some z10 z11 z12) n s (i : Int) g.moves b q = some true := by
      intro n
      induction n with
      | zero => intro i s _ h; omega
      | succ n ih =>
        intro i s hi hn hs
        show f9.s0 L 1000 _ (f9.l0 L 1000 _ n) s (i : Int) g.moves b q = _
        unfold f9.s0 f9.s0'
        by_cases hlt : i < g.moves.length
        · rw [lt_cast hlt, cond_true]
          have hrl : (g.moves[i]).length ≤ 1048576 := by have := gsize_row _ (List.getElem_mem hlt); omega
          have row : ∀ (n' k : Nat) (s : Bool), k ≤ (g.moves[i]).length → (g.moves[i]).length - k < n' → (s = false → (∀ (u : Nat) (hu : u < g.moves.length) (k : Nat) (hk : k < (g.moves[u]).length), u < i → (g.moves[u])[k].act ≠ 0) ∧ ∀ (k' : Nat) (hk' : k' < (g.moves[i]).length), k' < k → (g.moves[i])[k'].act ≠ 0) →
              f9.l1 L 1000 (fun z19 z20 z21 z22 z23 => f9.p1_e2 L 1000 (fun z10 z11 z12 => f9.p0_e0 L 1000 some z10 z11 z12) (f9.l0 L 1000 (fun z10 z11 z12 => f9.p0_e0 L 1000 some z10 z11 z12) n) z19 z20 z21 z22 z23) n' s (i : Int) (k : Int) g.moves b q = some true := by
            intro n'
            induction n' with
            | zero => intro k s _ h; omega
            | succ n' ih2 =>
              intro k s hk hn' hs
              show f9.s1 L 1000 _ (f9.l1 L 1000 _ n') s (i : Int) (k : Int) g.moves b q = _
              unfold f9.s1 f9.s1'
              by_cases hkl : k < (g.moves[i]).length
              · simp only [le0, lt_cast hlt, Bool.and_true, cond_true, Int.toNat_natCast, at_lt hlt, lt_cast hkl, at_lt hkl]
                rw [wi_nat (by omega)]
                cases s with
                | true => rw [cond_true]; exact ih2 (k + 1) true (by omega) (by omega) (fun h => by cases h)
                | false =>
                  rw [cond_false]
                  refine ih2 (k + 1) _ (by omega) (by omega) fun h => ⟨(hs rfl).1, fun k' hk' hlt' => ?_⟩
                  by_cases e : k' < k
                  · exact (hs rfl).2 k' hk' e
                  · obtain rfl : k' = k := by omega
                    intro e0
                    rw [e0] at h; cases h
              · simp only [le0, lt_cast hlt, Bool.and_true, cond_true, Int.toNat_natCast, at_lt hlt, ge_cast hkl, cond_false]
                show f9.l0 L 1000 _ n s (wi ((i : Int) + 1)) g.moves b q = _
                rw [wi_nat (by omega)]
                refine ih (i + 1) s (by omega) (by omega) fun h u hu k' hk' hlt' => ?_
                by_cases e : u < i
                · exact (hs h).1 u hu k' hk' e
                · obtain rfl : u = i := by omega
                  exact (hs h).2 k' hk' (by omega)
          exact row L 0 s (by omega) (by omega) fun h => ⟨hs h, fun k' _ h' => by omega⟩
        · rw [ge_cast hlt, cond_false]
          exact fin s fun h u hu k hk => hs h u hu k hk (by omega)
    exact key L 0 false (by omega) (by omega) fun _ u hu k hk h => by omega
end Go.Proofs.Ytdfjdbpklbehoaa.Ev
