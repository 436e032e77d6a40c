/- Plain laws of slipping: what the program's slipFrom and the reference's l8Slip reach is the same. No conditions but those that each states. -/
import Derived.Test.YtdfjdbpklbehoaaPGraphOk
namespace Go.Proofs.Ytdfjdbpklbehoaa.Ev
open Go
set_option linter.unusedVariables false
set_option linter.unusedSimpArgs false

/-! ### Rows in order -/
def Rises (l : List Int) : Prop := l.Pairwise (· < ·)
theorem rises_ext : ∀ {a b : List Int}, Rises a → Rises b → (∀ x, x ∈ a ↔ x ∈ b) → a = b
  | [], [], _, _, _ => rfl
  | [], y :: b, _, _, h => absurd ((h y).2 (.head _)) (by simp)
  | x :: a, [], _, _, h => absurd ((h x).1 (.head _)) (by simp)
  | x :: a, y :: b, ha, hb, h => by
    have ha' := List.pairwise_cons.1 ha
    have hb' := List.pairwise_cons.1 hb
    have hxy : x = y := by
      rcases List.mem_cons.1 ((h x).1 (.head _)) with e | e
      · exact e
      · rcases List.mem_cons.1 ((h y).2 (.head _)) with e' | e'
        · exact e'.symm
        · have := hb'.1 x e; have := ha'.1 y e'; omega
    subst hxy
    refine congrArg (x :: ·) (rises_ext ha'.2 hb'.2 fun z => ?_)
    have := h z
    simp only [List.mem_cons] at this
    constructor
    · intro hz
      rcases this.1 (.inr hz) with e | e
      · have := ha'.1 z hz; omega
      · exact e
    · intro hz
      rcases this.2 (.inr hz) with e | e
      · have := hb'.1 z hz; omega
      · exact e

/-! ### Sets as rows of truths -/
def Tr (l : List Bool) (t : Nat) : Prop := l.getD t false = true
theorem Tr_lt {l : List Bool} {t : Nat} (h : Tr l t) : t < l.length := by
  unfold Tr at h
  rw [List.getD_eq_getElem?_getD] at h
  by_cases hl : t < l.length
  · exact hl
  · rw [List.getElem?_eq_none (by omega)] at h; cases h
theorem Tr_set {l : List Bool} {j t : Nat} (hj : j < l.length) : Tr (l.set j true) t ↔ t = j ∨ Tr l t := by
  unfold Tr
  rw [List.getD_eq_getElem?_getD, List.getD_eq_getElem?_getD]
  by_cases h : t = j
  · subst h; rw [List.getElem?_set_self hj]; simp
  · rw [List.getElem?_set_ne (Ne.symm h)]; simp [h]
theorem Tr_replicate (n t : Nat) : ¬ Tr (List.replicate n false) t := by
  unfold Tr
  rw [List.getD_eq_getElem?_getD, List.getElem?_replicate]
  split <;> simp
def cnt : List Bool → Nat
  | [] => 0
  | b :: r => (bif b then 1 else 0) + cnt r
theorem cnt_le : ∀ l : List Bool, cnt l ≤ l.length
  | [] => Nat.le_refl _
  | b :: r => by have := cnt_le r; cases b <;> simp [cnt] <;> omega
theorem cnt_set : ∀ (l : List Bool) (j : Nat), j < l.length → l.getD j false = false → cnt (l.set j true) = cnt l + 1
  | b :: r, 0, _, h => by
    have hb : b = false := h
    subst hb
    simp [cnt]; omega
  | b :: r, j + 1, hj, h => by
    have := cnt_set r j (by simpa using hj) (by simpa using h)
    simp only [List.set_cons_succ, cnt, this]; omega
theorem cnt_replicate (n : Nat) : cnt (List.replicate n false) = 0 := by
  induction n with
  | zero => rfl
  | succ n ih => rw [List.replicate_succ]; simp [cnt, ih]

/-! ### What one slips to -/
inductive Slip (ms : List (List Move)) (X : Nat → Prop) : Nat → Prop
  | base (t : Nat) (h : X t) : Slip ms X t
  | step (s t : Nat) (hs : Slip ms X s) (hl : s < ms.length) (k : Nat) (hk : k < (ms[s]).length) (ha : (ms[s])[k].act = 0) (ht : (ms[s])[k].to = (t : Int)) : Slip ms X t
theorem Slip.mono {ms : List (List Move)} {X Y : Nat → Prop} (h : ∀ t, X t → Y t) {t : Nat} (r : Slip ms X t) : Slip ms Y t := by
  induction r with
  | base t hx => exact .base t (h t hx)
  | step s t _ hl k hk ha ht ih => exact .step s t ih hl k hk ha ht
theorem Slip.iff {ms : List (List Move)} {X Y : Nat → Prop} (h : ∀ t, X t ↔ Y t) (t : Nat) : Slip ms X t ↔ Slip ms Y t := ⟨fun r => r.mono fun t hx => (h t).1 hx, fun r => r.mono fun t hx => (h t).2 hx⟩

/-- moves lead to states -/
def Leads (ms : List (List Move)) : Prop := ms.length ≤ 60 ∧ ∀ (i : Nat) (hi : i < ms.length), (ms[i]).length ≤ 1048576 ∧ ∀ (k : Nat) (hk : k < (ms[i]).length), 0 ≤ (ms[i])[k].to ∧ (ms[i])[k].to < (ms.length : Int)
theorem leads_of {g : Graph} (h : graphOk g = true) (hs : g.moves.length + gsize g.moves ≤ 1048576) : Leads g.moves := by
  obtain ⟨h1, h2, h3⟩ := graphOk_mv h
  refine ⟨h2, fun i hi => ⟨?_, fun k hk => ?_⟩⟩
  · have := gsize_row _ (List.getElem_mem hi); omega
  · have := h3 i hi k hk; exact ⟨this.2.2.1, this.2.2.2⟩
theorem Leads.nat {ms : List (List Move)} (h : Leads ms) {i : Nat} (hi : i < ms.length) {k : Nat} (hk : k < (ms[i]).length) : ∃ t : Nat, (ms[i])[k].to = (t : Int) ∧ t < ms.length := by
  obtain ⟨h1, h2⟩ := (h.2 i hi).2 k hk
  obtain ⟨t, ht⟩ := Int.eq_ofNat_of_zero_le h1
  exact ⟨t, ht, by omega⟩

/-! ### The reference -/
def ClosedAt (ms : List (List Move)) (out : List Bool) (s n : Nat) : Prop := ∀ (hs : s < ms.length) (k : Nat) (hk : k < (ms[s]).length), k < n → Tr out s → (ms[s])[k].act = 0 → ∀ t : Nat, (ms[s])[k].to = (t : Int) → Tr out t

theorem slip2_ok (L N : Nat) (ms : List (List Move)) (x : List Bool) (hm : Leads ms) (hx : x.length = ms.length) (hL : 1048576 < L) :
    ∃ out, f137 L N ⟨ms⟩ x = some out ∧ out.length = ms.length ∧ ∀ t, Tr out t ↔ Slip ms (Tr x) t := by
  have hlim := lim_eq
  have hn := hm.1
  show ∃ out, f137.b L N some ⟨ms⟩ x = some out ∧ _
  unfold f137.b f137.b'
  have hle : decide (([] : List Bool).length + x.length ≤ lim) = true := dt (by simp only [List.length_nil]; omega)
  simp only [hle, cond_true, List.nil_append]
  -- one round
  have round : ∀ (m : Nat) (out0 : List Bool), out0.length = ms.length → (∀ t, Tr out0 t → Slip ms (Tr x) t) →
      ∃ st : Bool × List Bool, f137.l1 L N (fun z8 z9 z10 => f137.p1_e2 L N (fun z3 => f137.p0_e0 L N some z3) (f137.l0 L N (fun z3 => f137.p0_e0 L N some z3) m) z8 z9 z10) L false (0 : Int) ms out0 = f137.l0 L N (fun z3 => f137.p0_e0 L N some z3) m st.1 ms st.2 ∧
        st.2.length = ms.length ∧ (∀ t, Tr st.2 t → Slip ms (Tr x) t) ∧ (∀ t, Tr out0 t → Tr st.2 t) ∧ cnt out0 + (bif st.1 then 1 else 0) ≤ cnt st.2 ∧ (st.1 = false → st.2 = out0 ∧ ∀ s, ClosedAt ms st.2 s 1048577) := by
    intro m out0 h0 hs0
    obtain ⟨st, h1, h2, h3, h4, h5, h6⟩ := inv_loop (l := fun n i st => f137.l1 L N (fun z8 z9 z10 => f137.p1_e2 L N (fun z3 => f137.p0_e0 L N some z3) (f137.l0 L N (fun z3 => f137.p0_e0 L N some z3) m) z8 z9 z10) n st.1 i ms st.2) (len := ms.length)
      (K := fun st : Bool × List Bool => f137.l0 L N (fun z3 => f137.p0_e0 L N some z3) m st.1 ms st.2)
      (fun i st => st.2.length = ms.length ∧ (∀ t, Tr st.2 t → Slip ms (Tr x) t) ∧ (∀ t, Tr out0 t → Tr st.2 t) ∧ cnt out0 + (bif st.1 then 1 else 0) ≤ cnt st.2 ∧ (st.1 = false → st.2 = out0 ∧ ∀ s, s < i → ClosedAt ms st.2 s 1048577))
      (fun n i st hi ⟨p1, p2, p3, p4, p5⟩ => by
        obtain ⟨st', q1, q2, q3, q4, q5, q6⟩ := inv_loop (l := fun n' k st => f137.l2 L N (fun z16 z17 z18 z19 => f137.p2_e4 L N (fun z8 z9 z10 => f137.p1_e2 L N (fun z3 => f137.p0_e0 L N some z3) (f137.l0 L N (fun z3 => f137.p0_e0 L N some z3) m) z8 z9 z10) (f137.l1 L N (fun z8 z9 z10 => f137.p1_e2 L N (fun z3 => f137.p0_e0 L N some z3) (f137.l0 L N (fun z3 => f137.p0_e0 L N some z3) m) z8 z9 z10) n) z16 z17 z18 z19) n' st.1 (i : Int) k ms st.2) (len := (ms[i]).length)
          (K := fun st : Bool × List Bool => f137.l1 L N (fun z8 z9 z10 => f137.p1_e2 L N (fun z3 => f137.p0_e0 L N some z3) (f137.l0 L N (fun z3 => f137.p0_e0 L N some z3) m) z8 z9 z10) n st.1 ((i + 1 : Nat) : Int) ms st.2)
          (fun k st => st.2.length = ms.length ∧ (∀ t, Tr st.2 t → Slip ms (Tr x) t) ∧ (∀ t, Tr out0 t → Tr st.2 t) ∧ cnt out0 + (bif st.1 then 1 else 0) ≤ cnt st.2 ∧ (st.1 = false → st.2 = out0 ∧ (∀ s, s < i → ClosedAt ms st.2 s 1048577) ∧ ClosedAt ms st.2 i k))
          (fun n' k st hk ⟨r1, r2, r3, r4, r5⟩ => by
            show ∃ s', f137.s2 L N _ (f137.l2 L N _ n') st.1 (i : Int) k ms st.2 = _ ∧ _
            unfold f137.s2 f137.s2'
            obtain ⟨t, ht, htl⟩ := hm.nat hi hk
            have hrow := (hm.2 i hi).1
            simp only [le0, lt_cast hi, lt_cast hk, lt_cast (show i < st.2.length by omega), Bool.and_true, Bool.true_and, cond_true, Int.toNat_natCast, at_lt hi, at_lt hk, ht, lt_cast (show t < st.2.length by omega), atD]
            unfold f137.j0'
            simp only [le0, lt_cast (show t < st.2.length by omega), Bool.and_true, cond_true, Int.toNat_natCast, wi_nat (show k < 9223372036854775807 by omega)]
            have stay : ¬ (Tr st.2 i ∧ (ms[i])[k].act = 0 ∧ ¬ Tr st.2 t) → ∃ s' : Bool × List Bool, f137.l2 L N (fun z16 z17 z18 z19 => f137.p2_e4 L N (fun z8 z9 z10 => f137.p1_e2 L N (fun z3 => f137.p0_e0 L N some z3) (f137.l0 L N (fun z3 => f137.p0_e0 L N some z3) m) z8 z9 z10) (f137.l1 L N (fun z8 z9 z10 => f137.p1_e2 L N (fun z3 => f137.p0_e0 L N some z3) (f137.l0 L N (fun z3 => f137.p0_e0 L N some z3) m) z8 z9 z10) n) z16 z17 z18 z19) n' st.1 (i : Int) ((k + 1 : Nat) : Int) ms st.2 = f137.l2 L N (fun z16 z17 z18 z19 => f137.p2_e4 L N (fun z8 z9 z10 => f137.p1_e2 L N (fun z3 => f137.p0_e0 L N some z3) (f137.l0 L N (fun z3 => f137.p0_e0 L N some z3) m) z8 z9 z10) (f137.l1 L N (fun z8 z9 z10 => f137.p1_e2 L N (fun z3 => f137.p0_e0 L N some z3) (f137.l0 L N (fun z3 => f137.p0_e0 L N some z3) m) z8 z9 z10) n) z16 z17 z18 z19) n' s'.1 (i : Int) ((k + 1 : Nat) : Int) ms s'.2 ∧
                (s'.2.length = ms.length ∧ (∀ t, Tr s'.2 t → Slip ms (Tr x) t) ∧ (∀ t, Tr out0 t → Tr s'.2 t) ∧ cnt out0 + (bif s'.1 then 1 else 0) ≤ cnt s'.2 ∧ (s'.1 = false → s'.2 = out0 ∧ (∀ s, s < i → ClosedAt ms s'.2 s 1048577) ∧ ClosedAt ms s'.2 i (k + 1))) := by
              intro hno
              refine ⟨st, rfl, r1, r2, r3, r4, fun hst => ?_⟩
              obtain ⟨u1, u2, u3⟩ := r5 hst
              refine ⟨u1, u2, fun hs k' hk' hlt htr hact t' ht' => ?_⟩
              by_cases hkk : k' = k
              · subst hkk
                rw [ht] at ht'
                obtain rfl : t = t' := by omega
                by_cases hT : Tr st.2 t
                · exact hT
                · exact absurd ⟨htr, hact, hT⟩ hno
              · exact u3 hs k' hk' (by omega) htr hact t' ht'
            cases hi2 : st.2.getD i false
            · simp only [cond_false]
              exact stay fun h => by have := h.1; unfold Tr at this; rw [hi2] at this; cases this
            · simp only [cond_true]
              by_cases ha : (ms[i])[k].act = 0
              · have hb : ((ms[i])[k].act == 0) = true := by simpa using ha
                rw [hb]
                simp only [cond_true]
                cases ht2 : st.2.getD t false
                · simp only [Bool.not_false, cond_true]
                  have hTi : Tr st.2 i := hi2
                  refine ⟨(true, st.2.set t true), rfl, by simp [r1], fun t' ht' => ?_, fun t' ht' => ?_, ?_, fun h => by cases h⟩
                  · rcases (Tr_set (by omega)).1 ht' with rfl | h
                    · exact .step i t' (r2 i hTi) hi k hk ha ht
                    · exact r2 t' h
                  · exact (Tr_set (by omega)).2 (.inr (r3 t' ht'))
                  · show cnt out0 + 1 ≤ cnt (st.2.set t true)
                    rw [cnt_set _ _ (by omega) ht2]
                    cases h9 : st.1 <;> rw [h9] at r4 <;> simp at r4 <;> omega
                · simp only [Bool.not_true, cond_false]
                  exact stay fun h => h.2.2 ht2
              · have hb : ((ms[i])[k].act == 0) = false := by simpa using ha
                rw [hb]
                simp only [cond_false]
                exact stay fun h => ha h.2.1)
          (fun n' st _ => by
            show f137.s2 L N _ (f137.l2 L N _ n') st.1 (i : Int) (ms[i]).length ms st.2 = _
            unfold f137.s2 f137.s2'
            simp only [le0, lt_cast hi, Bool.and_true, cond_true, Int.toNat_natCast, at_lt hi, ge_cast (Nat.lt_irrefl _), cond_false]
            show f137.l1 L N _ n st.1 (wi ((i : Int) + 1)) ms st.2 = _
            rw [wi_nat (by omega)])
          L 0 st (by have := (hm.2 i hi).1; omega) (by omega) ⟨p1, p2, p3, p4, fun h => ⟨(p5 h).1, (p5 h).2, fun _ _ _ h' => by omega⟩⟩
        refine ⟨st', ?_, q2, q3, q4, q5, fun h => ⟨(q6 h).1, fun s hs => ?_⟩⟩
        · show f137.s1 L N _ (f137.l1 L N _ n) st.1 i ms st.2 = _
          unfold f137.s1 f137.s1'
          simp only [lt_cast (show i < st.2.length by omega), cond_true]
          exact q1
        · by_cases hsi : s = i
          · subst hsi
            intro hs' k hk hlt
            exact (q6 h).2.2 hs' k hk hk
          · exact (q6 h).2.1 s (by omega))
      (fun n st hP => by
        show f137.s1 L N _ (f137.l1 L N _ n) st.1 ms.length ms st.2 = _
        unfold f137.s1 f137.s1'
        rw [hP.1]
        simp only [ge_cast (Nat.lt_irrefl _), cond_false]
        rfl)
      L 0 (false, out0) (by omega) (by omega) ⟨h0, hs0, fun t h => h, by simp, fun _ => ⟨rfl, fun s h => by omega⟩⟩
    exact ⟨st, h1, h2, h3, h4, h5, fun h => ⟨(h6 h).1, fun s hs k hk hlt => (h6 h).2 s hs hs k hk hlt⟩⟩
  -- all rounds
  have all : ∀ (m : Nat) (out0 : List Bool), out0.length = ms.length → ms.length + 1 - cnt out0 < m → (∀ t, Tr out0 t → Slip ms (Tr x) t) → (∀ t, Tr x t → Tr out0 t) →
      ∃ out, f137.l0 L N (fun z3 => f137.p0_e0 L N some z3) m true ms out0 = some out ∧ out.length = ms.length ∧ ∀ t, Tr out t ↔ Slip ms (Tr x) t := by
    intro m
    induction m with
    | zero => intro out0 _ h; omega
    | succ m ih =>
      intro out0 h0 hc hs0 hb0
      have hcl := cnt_le out0
      obtain ⟨st, h1, h2, h3, h4, h5, h6⟩ := round m out0 h0 hs0
      have hcl2 := cnt_le st.2
      show ∃ out, f137.s0 L N _ (f137.l0 L N _ m) true ms out0 = some out ∧ _
      unfold f137.s0 f137.s0'
      simp only [cond_true]
      rw [h1]
      cases hst : st.1
      · obtain ⟨e1, e2⟩ := h6 hst
        obtain ⟨m', rfl⟩ : ∃ m', m = m' + 1 := ⟨m - 1, by omega⟩
        refine ⟨st.2, rfl, h2, fun t => ⟨h3 t, fun r => ?_⟩⟩
        induction r with
        | base t hx => exact h4 t (hb0 t hx)
        | step s t _ hl k hk ha ht ihr => exact e2 s hl k hk (by have := (hm.2 s hl).1; omega) ihr ha t ht
      · rw [hst] at h5
        simp only [cond_true] at h5
        exact ih st.2 h2 (by omega) h3 fun t hx => h4 t (hb0 t hx)
  exact all L x hx (by omega) (fun t h => .base t h) fun t h => h
end Go.Proofs.Ytdfjdbpklbehoaa.Ev
