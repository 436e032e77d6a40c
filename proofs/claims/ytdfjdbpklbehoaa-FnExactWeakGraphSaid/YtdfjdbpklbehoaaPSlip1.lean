/- Plain laws of slipping: the program's slipFrom. No conditions but those that each states. -/
import Derived.Test.YtdfjdbpklbehoaaPSlip
import Derived.Test.YtdfjdbpklbehoaaEvSort
namespace Go.Proofs.Ytdfjdbpklbehoaa.Ev
open Go
set_option linter.unusedVariables false
set_option linter.unusedSimpArgs false

/-- the queue and what was seen say the same -/
def QOk (ms : List (List Move)) (seen : List Bool) (q : List Int) : Prop := seen.length = ms.length ∧ (∀ v ∈ q, ∃ t : Nat, v = (t : Int) ∧ Tr seen t) ∧ (∀ t : Nat, Tr seen t → (t : Int) ∈ q) ∧ q.length = cnt seen ∧ q.Nodup
theorem QOk.add {ms : List (List Move)} {seen : List Bool} {q : List Int} (h : QOk ms seen q) {t : Nat} (ht : t < ms.length) (hf : seen.getD t false = false) : QOk ms (seen.set t true) (q ++ [(t : Int)]) := by
  obtain ⟨h1, h2, h3, h4, h5⟩ := h
  refine ⟨by simp [h1], fun v hv => ?_, fun t' ht' => ?_, ?_, ?_⟩
  · rcases List.mem_append.1 hv with hv | hv
    · obtain ⟨s, rfl, hs⟩ := h2 v hv
      exact ⟨s, rfl, (Tr_set (by omega)).2 (.inr hs)⟩
    · obtain rfl := List.mem_singleton.1 hv
      exact ⟨t, rfl, (Tr_set (by omega)).2 (.inl rfl)⟩
  · rcases (Tr_set (by omega)).1 ht' with rfl | h
    · exact List.mem_append_right _ (List.mem_singleton.2 rfl)
    · exact List.mem_append_left _ (h3 t' h)
  · rw [List.length_append, cnt_set _ _ (by omega) hf, h4]; rfl
  · refine List.nodup_append.2 ⟨h5, by simp, fun a ha b hb e => ?_⟩
    obtain rfl := List.mem_singleton.1 hb
    obtain ⟨s, hs, hT⟩ := h2 a ha
    obtain rfl : s = t := by omega
    unfold Tr at hT
    rw [hf] at hT; cases hT
theorem QOk.len {ms : List (List Move)} {seen : List Bool} {q : List Int} (h : QOk ms seen q) : q.length ≤ ms.length := by
  have := cnt_le seen
  obtain ⟨h1, -, -, h4, -⟩ := h
  omega
theorem sortI_rises {q : List Int} (h : q.Nodup) : Rises (sortI q) := by
  have h1 : (sortI q).Pairwise fun a b => decide (a ≤ b) = true := List.pairwise_mergeSort (fun a b c hab hbc => by simp only [decide_eq_true_eq] at *; omega) (fun a b => by simp only [Bool.or_eq_true, decide_eq_true_eq]; omega) q
  have h2 : (sortI q).Nodup := (List.mergeSort_perm q _).nodup_iff.2 h
  exact (h1.and h2).imp fun {a b} hab => by have := of_decide_eq_true hab.1; have := hab.2; omega

theorem slip1_ok (L N : Nat) (ms : List (List Move)) (list : List Int) (hm : Leads ms) (hl : ∀ v ∈ list, 0 ≤ v ∧ v < (ms.length : Int)) (hLl : list.length < L) (hll : list.length ≤ lim) (hL : 1048576 < L) :
    ∃ q, f112 L N ⟨ms⟩ list = some q ∧ q.length ≤ ms.length ∧ (∀ v ∈ q, 0 ≤ v ∧ v < (ms.length : Int)) ∧ (∀ t : Nat, (t : Int) ∈ q ↔ Slip ms (fun s => (s : Int) ∈ list) t) ∧ Rises q := by
  have hlim := lim_eq
  have hn := hm.1
  show ∃ q, f112.b L N some ⟨ms⟩ list = some q ∧ _
  unfold f112.b f112.b'
  have h0 : (decide ((0 : Int) ≤ (ms.length : Int)) && decide ((ms.length : Int) ≤ (lim : Int))) = true := by rw [le0, dt (by omega)]; rfl
  simp only [h0, cond_true]
  -- the worklist
  have work : ∀ (m k : Nat) (seen : List Bool) (q : List Int), k ≤ q.length → ms.length + 1 - k < m → QOk ms seen q → (∀ v ∈ q, ∃ t : Nat, v = (t : Int) ∧ Slip ms (fun s => (s : Int) ∈ list) t) → (∀ v ∈ list, v ∈ q) →
      (∀ (j : Nat) (hj : j < q.length), j < k → ∀ s : Nat, q[j] = (s : Int) → ∀ (hs : s < ms.length) (i : Nat) (hi : i < (ms[s]).length), (ms[s])[i].act = 0 → ∀ t : Nat, (ms[s])[i].to = (t : Int) → Tr seen t) →
      ∃ r, f112.l1 L N (fun z19 => f112.p1_e2 L N some z19) m (k : Int) ms seen q = some r ∧ r.length ≤ ms.length ∧ (∀ v ∈ r, 0 ≤ v ∧ v < (ms.length : Int)) ∧ (∀ t : Nat, (t : Int) ∈ r ↔ Slip ms (fun s => (s : Int) ∈ list) t) ∧ Rises r := by
    intro m
    induction m with
    | zero => intro k seen q _ h; omega
    | succ m ih =>
      intro k seen q hk hmk hq hsl hba hpr
      have hql := hq.len
      show ∃ r, f112.s1 L N _ (f112.l1 L N _ m) (k : Int) ms seen q = some r ∧ _
      unfold f112.s1 f112.s1'
      by_cases hlt : k < q.length
      · obtain ⟨s, hs, hTs⟩ := hq.2.1 _ (List.getElem_mem hlt)
        have hsn : s < ms.length := by have := Tr_lt hTs; rw [hq.1] at this; exact this
        have hrow := (hm.2 s hsn).1
        simp only [lt_cast hlt, le0, Bool.and_true, cond_true, Int.toNat_natCast, at_lt hlt, hs, lt_cast hsn, at_lt hsn]
        obtain ⟨t0, hst0, hslip0⟩ := hsl _ (List.getElem_mem hlt)
        obtain rfl : s = t0 := by rw [hs] at hst0; omega
        obtain ⟨st, g1, g2, g3, g4, g5, g6⟩ := inv_loop (l := fun n' i st => f112.l2 L N (fun z27 z28 z29 z30 => f112.p2_e4 L N (fun z19 => f112.p1_e2 L N some z19) (f112.l1 L N (fun z19 => f112.p1_e2 L N some z19) m) z27 z28 z29 z30) n' (k : Int) ms[s] ((ms[s]).length : Int) i ms st.1 st.2) (len := (ms[s]).length)
          (K := fun st : List Bool × List Int => f112.l1 L N (fun z19 => f112.p1_e2 L N some z19) m ((k + 1 : Nat) : Int) ms st.1 st.2)
          (fun i st => QOk ms st.1 st.2 ∧ (∀ v ∈ st.2, ∃ t : Nat, v = (t : Int) ∧ Slip ms (fun s => (s : Int) ∈ list) t) ∧ (∀ j : Nat, j < q.length → st.2[j]? = q[j]?) ∧ (∀ t, Tr seen t → Tr st.1 t) ∧ ∀ (i' : Nat) (hi' : i' < (ms[s]).length), i' < i → (ms[s])[i'].act = 0 → ∀ t : Nat, (ms[s])[i'].to = (t : Int) → Tr st.1 t)
          (fun n' i st hi ⟨r1, r2, r3, r4, r5⟩ => by
            show ∃ s', f112.s2 L N _ (f112.l2 L N _ n') (k : Int) ms[s] ((ms[s]).length : Int) i ms st.1 st.2 = _ ∧ _
            unfold f112.s2 f112.s2'
            obtain ⟨t, ht, htl⟩ := hm.nat hsn hi
            have hsl1 := r1.1
            simp only [le0, lt_cast hi, Bool.and_true, Bool.true_and, cond_true, Int.toNat_natCast, at_lt hi, ht, lt_cast (show t < st.1.length by omega), atD]
            unfold f112.j0'
            simp only [le0, lt_cast (show t < st.1.length by omega), Bool.and_true, cond_true, Int.toNat_natCast, wi_nat (show i < 9223372036854775807 by omega)]
            have stay : ¬ ((ms[s])[i].act = 0 ∧ ¬ Tr st.1 t) → (QOk ms st.1 st.2 ∧ (∀ v ∈ st.2, ∃ t : Nat, v = (t : Int) ∧ Slip ms (fun s => (s : Int) ∈ list) t) ∧ (∀ j : Nat, j < q.length → st.2[j]? = q[j]?) ∧ (∀ t, Tr seen t → Tr st.1 t) ∧ ∀ (i' : Nat) (hi' : i' < (ms[s]).length), i' < i + 1 → (ms[s])[i'].act = 0 → ∀ t : Nat, (ms[s])[i'].to = (t : Int) → Tr st.1 t) := by
              intro hno
              refine ⟨r1, r2, r3, r4, fun i' hi' hlt' ha' t' ht' => ?_⟩
              by_cases he : i' = i
              · subst he
                rw [ht] at ht'
                obtain rfl : t = t' := by omega
                by_cases hT : Tr st.1 t
                · exact hT
                · exact absurd ⟨ha', hT⟩ hno
              · exact r5 i' hi' (by omega) ha' t' ht'
            by_cases ha : (ms[s])[i].act = 0
            · have hb : ((ms[s])[i].act == 0) = true := by simpa using ha
              rw [hb]
              simp only [cond_true]
              cases ht2 : st.1.getD t false
              · have hqq := r1.len
                have hle : decide (st.2.length + ([(t : Int)] : List Int).length ≤ lim) = true := dt (by simp only [List.length_cons, List.length_nil]; omega)
                simp only [Bool.not_false, cond_true, hle]
                refine ⟨(st.1.set t true, st.2 ++ [(t : Int)]), rfl, r1.add htl ht2, fun v hv => ?_, fun j hj => ?_, fun t' ht' => (Tr_set (by omega)).2 (.inr (r4 t' ht')), fun i' hi' hlt' ha' t' ht' => ?_⟩
                · rcases List.mem_append.1 hv with hv | hv
                  · exact r2 v hv
                  · obtain rfl := List.mem_singleton.1 hv
                    exact ⟨t, rfl, .step s t hslip0 hsn i hi ha ht⟩
                · have hjl : j < st.2.length := by
                    have := r3 j hj
                    rw [List.getElem?_eq_getElem hj] at this
                    exact (List.getElem?_eq_some_iff.1 this).1
                  show (st.2 ++ [(t : Int)])[j]? = q[j]?
                  rw [List.getElem?_append_left hjl]; exact r3 j hj
                · by_cases he : i' = i
                  · subst he
                    rw [ht] at ht'
                    obtain rfl : t = t' := by omega
                    exact (Tr_set (by omega)).2 (.inl rfl)
                  · exact (Tr_set (by omega)).2 (.inr (r5 i' hi' (by omega) ha' t' ht'))
              · simp only [Bool.not_true, cond_false]
                exact ⟨st, rfl, stay fun h => h.2 ht2⟩
            · have hb : ((ms[s])[i].act == 0) = false := by simpa using ha
              rw [hb]
              simp only [cond_false]
              exact ⟨st, rfl, stay fun h => ha h.1⟩)
          (fun n' st _ => by
            show f112.s2 L N _ (f112.l2 L N _ n') (k : Int) ms[s] ((ms[s]).length : Int) (ms[s]).length ms st.1 st.2 = _
            unfold f112.s2 f112.s2'
            simp only [ge_cast (Nat.lt_irrefl _), cond_false]
            show f112.l1 L N _ m (wi ((k : Int) + 1)) ms st.1 st.2 = _
            rw [wi_nat (by omega)])
          L 0 (seen, q) (by omega) (by omega) ⟨hq, hsl, fun _ _ => rfl, fun _ h => h, fun _ _ h => by omega⟩
        have hlen : q.length ≤ st.2.length := by
          by_cases h0 : q.length = 0
          · omega
          · have := g4 (q.length - 1) (by omega)
            rw [List.getElem?_eq_getElem (show q.length - 1 < q.length by omega)] at this
            have := (List.getElem?_eq_some_iff.1 this).1
            omega
        refine (fun ⟨r, h1, h2⟩ => ⟨r, g1.trans h1, h2⟩ : (∃ r, _ = some r ∧ _) → ∃ r, _ = some r ∧ _) (ih (k + 1) st.1 st.2 (by omega) (by omega) g2 g3 (fun v hv => ?_) (fun j hj hjk s' hs' hsl' i hi ha t ht => ?_))
        · obtain ⟨j, hj, rfl⟩ := List.mem_iff_getElem.1 (hba v hv)
          have := g4 j hj
          rw [List.getElem?_eq_getElem hj] at this
          exact List.mem_of_getElem? this
        · by_cases hjk' : j = k
          · subst hjk'
            have := g4 j hlt
            rw [List.getElem?_eq_getElem hlt, List.getElem?_eq_getElem hj] at this
            have h9 : st.2[j] = q[j] := Option.some.inj this
            rw [hs', hs] at h9
            obtain rfl : s' = s := by omega
            exact g6 i hi hi ha t ht
          · have hjq : j < q.length := by omega
            have := g4 j hjq
            rw [List.getElem?_eq_getElem hjq, List.getElem?_eq_getElem hj] at this
            have h9 : st.2[j] = q[j] := Option.some.inj this
            exact g5 t (hpr j hjq (by omega) s' (by rw [← h9]; exact hs') hsl' i hi ha t ht)
      · have hkl : k = q.length := by omega
        subst hkl
        simp only [ge_cast (Nat.lt_irrefl _), cond_false]
        have hfs : fsort q = some () := by unfold fsort; rw [dt (by omega)]; rfl
        refine ⟨sortI q, ?_, by rw [sortI_length]; exact hql, fun v hv => ?_, fun t => ?_, sortI_rises hq.2.2.2.2⟩
        · show ((fsort q).bind fun _ => some (sortI q)) = _
          rw [hfs]; rfl
        · obtain ⟨t, rfl, hT⟩ := hq.2.1 v ((sortI_mem q v).1 hv)
          have := Tr_lt hT
          rw [hq.1] at this
          omega
        · rw [sortI_mem]
          constructor
          · intro h
            obtain ⟨t', h1, h2⟩ := hsl _ h
            obtain rfl : t = t' := by omega
            exact h2
          · intro r
            refine hq.2.2.1 t ?_
            induction r with
            | base t hx =>
              obtain ⟨t', h1, h2⟩ := hq.2.1 _ (hba _ hx)
              obtain rfl : t = t' := by omega
              exact h2
            | step s t _ hs i hi ha ht ihr =>
              obtain ⟨j, hj, hjs⟩ := List.mem_iff_getElem.1 (hq.2.2.1 s ihr)
              exact hpr j hj hj s hjs hs i hi ha t ht
  -- what one begins with
  obtain ⟨st, g1, g2, g3, g4⟩ := inv_loop (l := fun n i st => f112.l0 L N (fun z6 z7 z8 => f112.p0_e0 L N some z6 z7 z8) n list (list.length : Int) i ms st.1 st.2) (len := list.length)
    (K := fun st : List Bool × List Int => f112.l1 L N (fun z19 => f112.p1_e2 L N some z19) L (0 : Int) ms st.1 st.2)
    (fun i st => QOk ms st.1 st.2 ∧ (∀ v ∈ st.2, v ∈ list) ∧ ∀ (j : Nat) (hj : j < list.length), j < i → list[j] ∈ st.2)
    (fun n i st hi ⟨r1, r2, r3⟩ => by
      show ∃ s', f112.s0 L N _ (f112.l0 L N _ n) list (list.length : Int) i ms st.1 st.2 = _ ∧ _
      unfold f112.s0 f112.s0'
      obtain ⟨h1, h2⟩ := hl _ (List.getElem_mem hi)
      obtain ⟨t, ht⟩ := Int.eq_ofNat_of_zero_le h1
      have htl : t < ms.length := by omega
      have hsl1 := r1.1
      have hqq := r1.len
      have hle : decide (st.2.length + ([(t : Int)] : List Int).length ≤ lim) = true := dt (by simp only [List.length_cons, List.length_nil]; omega)
      simp only [le0, lt_cast hi, Bool.and_true, Bool.true_and, cond_true, Int.toNat_natCast, at_lt hi, ht, lt_cast (show t < st.1.length by omega), atD, hle, wi_nat (show i < 9223372036854775807 by omega)]
      cases ht2 : st.1.getD t false
      · simp only [Bool.not_false, cond_true]
        refine ⟨(st.1.set t true, st.2 ++ [(t : Int)]), rfl, r1.add htl ht2, fun v hv => ?_, fun j hj hji => ?_⟩
        · rcases List.mem_append.1 hv with hv | hv
          · exact r2 v hv
          · obtain rfl := List.mem_singleton.1 hv
            rw [← ht]; exact List.getElem_mem hi
        · by_cases he : j = i
          · subst he
            rw [ht]; exact List.mem_append_right _ (List.mem_singleton.2 rfl)
          · exact List.mem_append_left _ (r3 j hj (by omega))
      · simp only [Bool.not_true, cond_false]
        refine ⟨st, rfl, r1, r2, fun j hj hji => ?_⟩
        by_cases he : j = i
        · subst he
          rw [ht]; exact r1.2.2.1 t ht2
        · exact r3 j hj (by omega))
    (fun n st _ => by
      show f112.s0 L N _ (f112.l0 L N _ n) list (list.length : Int) list.length ms st.1 st.2 = _
      unfold f112.s0 f112.s0'
      simp only [ge_cast (Nat.lt_irrefl _), cond_false]
      rfl)
    L 0 (List.replicate ms.length false, []) (by omega) (by omega)
    ⟨⟨by simp, fun v hv => by simp at hv, fun t h => absurd h (Tr_replicate _ t), by rw [cnt_replicate]; rfl, List.nodup_nil⟩, fun v hv => by simp at hv, fun _ _ h => by omega⟩
  have e0 : ((ms.length : Int)).toNat = ms.length := rfl
  rw [e0]
  refine (show ∃ q, _ = some q ∧ _ from ?_)
  have h1 := work L 0 st.1 st.2 (by omega) (by omega) g2 (fun v hv => by
    obtain ⟨t, rfl, -⟩ := g2.2.1 v hv
    exact ⟨t, rfl, .base t (g3 _ hv)⟩) (fun v hv => by
    obtain ⟨j, hj, rfl⟩ := List.mem_iff_getElem.1 hv
    exact g4 j hj hj) (fun _ _ h => by omega)
  obtain ⟨r, h2, h3⟩ := h1
  exact ⟨r, g1.trans h2, h3⟩
end Go.Proofs.Ytdfjdbpklbehoaa.Ev
