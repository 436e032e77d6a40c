/- Plain laws of slipping: what the program's slipFrom and the reference's l8Slip reach is the same. No conditions but those that each states. -/
import Derived.Test.YtdfjdbpklbehoaaPGraphOk
namespace Go.Proofs.Ytdfjdbpklbehoaa.Ev
open Go
set_option linter.unusedVariables false
set_option linter.unusedSimpArgs false

/-! ### Rows in order -/
def Rises (l : List Int) : Prop := l.Pairwise (· < ·)
theorem rises_ext : ∀ {a b : List Int}, Rises a → Rises b → (∀ x, x ∈ a ↔ x ∈ b) → a = b
  | [], [], _, _, _ => rfl
  | [], y :: b, _, _, h => absurd ((h y).2 (.head _)) (by simp)
  | x :: a, [], _, _, h => absurd ((h x).1 (.head _)) (by simp)
  | x :: a, y :: b, ha, hb, h => by
    have ha' := List.pairwise_cons.1 ha
    have hb' := List.pairwise_cons.1 hb
    have hxy : x = y := by
      rcases List.mem_cons.1 ((h x).1 (.head _)) with e | e
      · exact e
      · rcases List.mem_cons.1 ((h y).2 (.head _)) with e' | e'
        · exact e'.symm
        · have := hb'.1 x e; have := ha'.1 y e'; omega
    subst hxy
    refine congrArg (x :: ·) (rises_ext ha'.2 hb'.2 fun z => ?_)
    have := h z
    simp only [List.mem_cons] at this
    constructor
    · intro hz
      rcases this.1 (.inr hz) with e | e
      · have := ha'.1 z hz; omega
      · exact e
    · intro hz
      rcases this.2 (.inr hz) with e | e
      · have := hb'.1 z hz; omega
      · exact e

/-! ### Sets as rows of truths -/
def Tr (l : List Bool) (t : Nat) : Prop := l.getD t false = true
theorem Tr_lt {l : List Bool} {t : Nat} (h : Tr l t) : t < l.length := by
  unfold Tr at h
  rw [List.getD_eq_getElem?_getD] at h
  by_cases hl : t < l.length
  · exact hl
  · rw [List.getElem?_eq_none (by omega)] at h; cases h
theorem Tr_set {l : List Bool} {j t : Nat} (hj : j < l.length) : Tr (l.set j true) t ↔ t = j ∨ Tr l t := by
  unfold Tr
  rw [List.getD_eq_getElem?_getD, List.getD_eq_getElem?_getD]
  by_cases h : t = j
  · subst h; rw [List.getElem?_set_self hj]; simp
  · rw [List.getElem?_set_ne (Ne.symm h)]; simp [h]
theorem Tr_replicate (n t : Nat) : ¬ Tr (List.replicate n false) t := by
  unfold Tr
  rw [List.getD_eq_getElem?_getD, List.getElem?_replicate]
  split <;> simp
def cnt : List Bool → Nat
  | [] => 0
  | b :: r => (bif b then 1 else 0) + cnt r
theorem cnt_le : ∀ l : List Bool, cnt l ≤ l.length
  | [] => Nat.le_refl _
  | b :: r => by have := cnt_le r; cases b <;> simp [cnt] <;> omega
theorem cnt_set : ∀ (l : List Bool) (j : Nat), j < l.length → l.getD j false = false → cnt (l.set j true) = cnt l + 1
  | b :: r, 0, _, h => by
    have hb : b = false := h
    subst hb
    simp [cnt]; omega
  | b :: r, j + 1, hj, h => by
    have := cnt_set r j (by simpa using hj) (by simpa using h)
    simp only [List.set_cons_succ, cnt, this]; omega
theorem cnt_replicate (n : Nat) : cnt (List.replicate n false) = 0 := by
  induction n with
  | zero => rfl
  | succ n ih => rw [List.replicate_succ]; simp [cnt, ih]

/-! ### What one slips to -/
inductive Slip (ms : List (List Move)) (X : Nat → Prop) : Nat → Prop
  | base (t : Nat) (h : X t) : Slip ms X t
  | step (s t : Nat) (hs : Slip ms X s) (hl : s < ms.length) (k : Nat) (hk : k < (ms[s]).length) (ha : (ms[s])[k].act = 0) (ht : (ms[s])[k].to = (t : Int)) : Slip ms X t
theorem Slip.mono {ms : List (List Move)} {X Y : Nat → Prop} (h : ∀ t, X t → Y t) {t : Nat} (r : Slip ms X t) : Slip ms Y t := by
  induction r with
  | base t hx => exact .base t (h t hx)
  | step s t _ hl k hk ha ht ih => exact .step s t ih hl k hk ha ht
theorem Slip.iff {ms : List (List Move)} {X Y : Nat → Prop} (h : ∀ t, X t ↔ Y t) (t : Nat) : Slip ms X t ↔ Slip ms Y t := ⟨fun r => r.mono fun t hx => (h t).1 hx, fun r => r.mono fun t hx => (h t).2 hx⟩

/-- moves lead to states -/
def Leads (ms : List (List Move)) : Prop := ms.length ≤ 60 ∧ ∀ (i : Nat) (hi : i < ms.length), (ms[i]).length ≤ 1048576 ∧ ∀ (k : Nat) (hk : k < (ms[i]).length), 0 ≤ (ms[i])[k].to ∧ (ms[i])[k].to < (ms.length : Int)
theorem leads_of {g : Graph} (h : graphOk g = true) (hs : g.moves.length + gsize g.moves ≤ 1048576) : Leads g.moves := by
  obtain ⟨h1, h2, h3⟩ := graphOk_mv h
  refine ⟨h2, fun i hi => ⟨?_, fun k hk => ?_⟩⟩
  · have := gsize_row _ (List.getElem_mem hi); omega
  · have := h3 i hi k hk; exact ⟨this.2.2.1, this.2.2.2⟩
theorem Leads.nat {ms : List (List Move)} (h : Leads ms) {i : Nat} (hi : i < ms.length) {k : Nat} (hk : k < (ms[i]).length) : ∃ t : Nat, (ms[i])[k].to = (t : Int) ∧ t < ms.length := by
  obtain ⟨h1, h2⟩ := (h.2 i hi).2 k hk
  obtain ⟨t, ht⟩ := Int.eq_ofNat_of_zero_le h1
  exact ⟨t, ht, by omega⟩

end Go.Proofs.Ytdfjdbpklbehoaa.Ev
