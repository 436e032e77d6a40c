/- Plain laws of slipping, from every state: spec.l5Slips and impl.slips. No conditions but those that each states. -/
import Derived.Test.YtdfjdbpklbehoaaPSlip1
namespace Go.Proofs.Ytdfjdbpklbehoaa.Ev
open Go
set_option linter.unusedVariables false
set_option linter.unusedSimpArgs false

/-- each row of a list that grows -/
theorem rows_snoc {α : Type} {P : Nat → α → Prop} {l : List α} {x : α} (h : ∀ (j : Nat) (hj : j < l.length), P j l[j]) (hx : P l.length x) : ∀ (j : Nat) (hj : j < (l ++ [x]).length), P j (l ++ [x])[j] := by
  intro j hj
  by_cases e : j < l.length
  · rw [List.getElem_append_left e]; exact h j e
  · have : j = l.length := by simp at hj; omega
    subst this
    rw [List.getElem_append_right (Nat.le_refl _)]
    simpa using hx

theorem slips2_work {R : Type} (L N : Nat) (K : Int → List (List Move) → List (List Bool) → List Bool → Option R) (ms : List (List Move)) (i0 : Nat) (hi0 : i0 < ms.length) (rows : List (List Bool)) (hm : Leads ms) (hL : 1048576 < L) :
    ∀ (m k : Nat) (seen : List Bool) (q : List Int), k ≤ q.length → ms.length + 1 - k < m → QOk ms seen q → (∀ v ∈ q, ∃ t : Nat, v = (t : Int) ∧ Slip ms (fun s => s = i0) t) → (i0 : Int) ∈ q →
      (∀ (j : Nat) (hj : j < q.length), j < k → ∀ s : Nat, q[j] = (s : Int) → ∀ (hs : s < ms.length) (i : Nat) (hi : i < (ms[s]).length), (ms[s])[i].act = 0 → ∀ t : Nat, (ms[s])[i].to = (t : Int) → Tr seen t) →
      ∃ seen' : List Bool, seen'.length = ms.length ∧ (∀ t : Nat, Tr seen' t ↔ Slip ms (fun s => s = i0) t) ∧ f122.l1 L N K m (i0 : Int) (k : Int) ms rows seen q = K (i0 : Int) ms rows seen' := by
  have hlim := lim_eq
  have hn := hm.1
  intro m
  induction m with
  | zero => intro k seen q _ h; omega
  | succ m ih =>
    intro k seen q hk hmk hq hsl hba hpr
    have hql := hq.len
    show ∃ seen', _ ∧ _ ∧ f122.s1 L N _ (f122.l1 L N _ m) (i0 : Int) (k : Int) ms rows seen q = _
    unfold f122.s1 f122.s1'
    by_cases hlt : k < q.length
    · obtain ⟨s, hs, hTs⟩ := hq.2.1 _ (List.getElem_mem hlt)
      have hsn : s < ms.length := by have := Tr_lt hTs; rw [hq.1] at this; exact this
      have hrow := (hm.2 s hsn).1
      simp only [lt_cast hlt, le0, Bool.and_true, cond_true, Int.toNat_natCast, at_lt hlt, hs, lt_cast hsn, at_lt hsn]
      obtain ⟨t0, hst0, hslip0⟩ := hsl _ (List.getElem_mem hlt)
      obtain rfl : s = t0 := by rw [hs] at hst0; omega
      obtain ⟨st, g1, g2, g3, g4, g5, g6⟩ := inv_loop (l := fun n' i st => f122.l2 L N (fun z22 z23 z24 z25 z26 z27 => f122.p2_e4 L N K (f122.l1 L N K m) z22 z23 z24 z25 z26 z27) n' (i0 : Int) (k : Int) ms[s] i ms rows st.1 st.2) (len := (ms[s]).length)
        (K := fun st : List Bool × List Int => f122.l1 L N K m (i0 : Int) ((k + 1 : Nat) : Int) ms rows st.1 st.2)
        (fun i st => QOk ms st.1 st.2 ∧ (∀ v ∈ st.2, ∃ t : Nat, v = (t : Int) ∧ Slip ms (fun s => s = i0) t) ∧ (∀ j : Nat, j < q.length → st.2[j]? = q[j]?) ∧ (∀ t, Tr seen t → Tr st.1 t) ∧ ∀ (i' : Nat) (hi' : i' < (ms[s]).length), i' < i → (ms[s])[i'].act = 0 → ∀ t : Nat, (ms[s])[i'].to = (t : Int) → Tr st.1 t)
        (fun n' i st hi ⟨r1, r2, r3, r4, r5⟩ => by
          show ∃ s', f122.s2 L N _ (f122.l2 L N _ n') (i0 : Int) (k : Int) ms[s] i ms rows st.1 st.2 = _ ∧ _
          unfold f122.s2 f122.s2'
          obtain ⟨t, ht, htl⟩ := hm.nat hsn hi
          have hsl1 := r1.1
          simp only [le0, lt_cast hi, Bool.and_true, Bool.true_and, cond_true, Int.toNat_natCast, at_lt hi, ht, lt_cast (show t < st.1.length by omega), atD]
          unfold f122.j0'
          simp only [le0, lt_cast hi, lt_cast (show t < st.1.length by omega), Bool.and_true, cond_true, Int.toNat_natCast, at_lt hi, ht, wi_nat (show i < 9223372036854775807 by omega)]
          have stay : ¬ ((ms[s])[i].act = 0 ∧ ¬ Tr st.1 t) → (QOk ms st.1 st.2 ∧ (∀ v ∈ st.2, ∃ t : Nat, v = (t : Int) ∧ Slip ms (fun s => s = i0) t) ∧ (∀ j : Nat, j < q.length → st.2[j]? = q[j]?) ∧ (∀ t, Tr seen t → Tr st.1 t) ∧ ∀ (i' : Nat) (hi' : i' < (ms[s]).length), i' < i + 1 → (ms[s])[i'].act = 0 → ∀ t : Nat, (ms[s])[i'].to = (t : Int) → Tr st.1 t) := by
            intro hno
            refine ⟨r1, r2, r3, r4, fun i' hi' hlt' ha' t' ht' => ?_⟩
            by_cases he : i' = i
            · subst he
              rw [ht] at ht'
              obtain rfl : t = t' := by omega
              by_cases hT : Tr st.1 t
              · exact hT
              · exact absurd ⟨ha', hT⟩ hno
            · exact r5 i' hi' (by omega) ha' t' ht'
          by_cases ha : (ms[s])[i].act = 0
          · have hb : ((ms[s])[i].act == 0) = true := by simpa using ha
            rw [hb]
            simp only [cond_true]
            cases ht2 : st.1.getD t false
            · have hqq := r1.len
              have hle : decide (st.2.length + ([(t : Int)] : List Int).length ≤ lim) = true := dt (by simp only [List.length_cons, List.length_nil]; omega)
              simp only [Bool.not_false, cond_true, hle]
              refine ⟨(st.1.set t true, st.2 ++ [(t : Int)]), rfl, r1.add htl ht2, fun v hv => ?_, fun j hj => ?_, fun t' ht' => (Tr_set (by omega)).2 (.inr (r4 t' ht')), fun i' hi' hlt' ha' t' ht' => ?_⟩
              · rcases List.mem_append.1 hv with hv | hv
                · exact r2 v hv
                · obtain rfl := List.mem_singleton.1 hv
                  exact ⟨t, rfl, .step s t hslip0 hsn i hi ha ht⟩
              · have hjl : j < st.2.length := by
                  have := r3 j hj
                  rw [List.getElem?_eq_getElem hj] at this
                  exact (List.getElem?_eq_some_iff.1 this).1
                show (st.2 ++ [(t : Int)])[j]? = q[j]?
                rw [List.getElem?_append_left hjl]; exact r3 j hj
              · by_cases he : i' = i
                · subst he
                  rw [ht] at ht'
                  obtain rfl : t = t' := by omega
                  exact (Tr_set (by omega)).2 (.inl rfl)
                · exact (Tr_set (by omega)).2 (.inr (r5 i' hi' (by omega) ha' t' ht'))
            · simp only [Bool.not_true, cond_false]
              exact ⟨st, rfl, stay fun h => h.2 ht2⟩
          · have hb : ((ms[s])[i].act == 0) = false := by simpa using ha
            rw [hb]
            simp only [cond_false]
            exact ⟨st, rfl, stay fun h => ha h.1⟩)
        (fun n' st _ => by
          show f122.s2 L N _ (f122.l2 L N _ n') (i0 : Int) (k : Int) ms[s] (ms[s]).length ms rows st.1 st.2 = _
          unfold f122.s2 f122.s2'
          simp only [ge_cast (Nat.lt_irrefl _), cond_false]
          show f122.l1 L N _ m (i0 : Int) (wi ((k : Int) + 1)) ms rows st.1 st.2 = _
          rw [wi_nat (by omega)])
        L 0 (seen, q) (by omega) (by omega) ⟨hq, hsl, fun _ _ => rfl, fun _ h => h, fun _ _ h => by omega⟩
      have hlen : q.length ≤ st.2.length := by
        by_cases h0 : q.length = 0
        · omega
        · have := g4 (q.length - 1) (by omega)
          rw [List.getElem?_eq_getElem (show q.length - 1 < q.length by omega)] at this
          have := (List.getElem?_eq_some_iff.1 this).1
          omega
      refine (fun ⟨r, h0, h1, h2⟩ => ⟨r, h0, h1, g1.trans h2⟩ : (∃ r, _ ∧ _ ∧ _ = _) → ∃ r, _ ∧ _ ∧ _ = _) (ih (k + 1) st.1 st.2 (by omega) (by omega) g2 g3 ?_ (fun j hj hjk s' hs' hsl' i hi ha t ht => ?_))
      · obtain ⟨j, hj, he⟩ := List.mem_iff_getElem.1 hba
        have := g4 j hj
        rw [List.getElem?_eq_getElem hj, he] at this
        exact List.mem_of_getElem? this
      · by_cases hjk' : j = k
        · subst hjk'
          have := g4 j hlt
          rw [List.getElem?_eq_getElem hlt, List.getElem?_eq_getElem hj] at this
          have h9 : st.2[j] = q[j] := Option.some.inj this
          rw [hs', hs] at h9
          obtain rfl : s' = s := by omega
          exact g6 i hi hi ha t ht
        · have hjq : j < q.length := by omega
          have := g4 j hjq
          rw [List.getElem?_eq_getElem hjq, List.getElem?_eq_getElem hj] at this
          have h9 : st.2[j] = q[j] := Option.some.inj this
          exact g5 t (hpr j hjq (by omega) s' (by rw [← h9]; exact hs') hsl' i hi ha t ht)
    · have hkl : k = q.length := by omega
      subst hkl
      simp only [ge_cast (Nat.lt_irrefl _), cond_false]
      refine ⟨seen, hq.1, fun t => ?_, rfl⟩
      constructor
      · intro h
        obtain ⟨t', h1, h2⟩ := hsl _ (hq.2.2.1 t h)
        obtain rfl : t = t' := by omega
        exact h2
      · intro r
        induction r with
        | base t hx =>
          subst hx
          obtain ⟨t', h1, h2⟩ := hq.2.1 _ hba
          obtain rfl : t = t' := by omega
          exact h2
        | step s t _ hs i hi ha ht ihr =>
          obtain ⟨j, hj, hjs⟩ := List.mem_iff_getElem.1 (hq.2.2.1 s ihr)
          exact hpr j hj hj s hjs hs i hi ha t ht

theorem l5Slips_ok (L N : Nat) (ms : List (List Move)) (hm : Leads ms) (hL : 1048576 < L) :
    ∃ rs, f122 L N ⟨ms⟩ = some rs ∧ rs.length = ms.length ∧ ∀ (j : Nat) (hj : j < rs.length), (rs[j]).length = ms.length ∧ ∀ t : Nat, Tr rs[j] t ↔ Slip ms (fun s => s = j) t := by
  have hlim := lim_eq
  have hn := hm.1
  show ∃ rs, f122.b L N some ⟨ms⟩ = some rs ∧ _
  unfold f122.b f122.b'
  have key : ∀ (n i : Nat) (rs : List (List Bool)), rs.length = i → i ≤ ms.length → ms.length - i < n → (∀ (j : Nat) (hj : j < rs.length), (rs[j]).length = ms.length ∧ ∀ t : Nat, Tr rs[j] t ↔ Slip ms (fun s => s = j) t) →
      ∃ rs', f122.l0 L N (fun z3 => f122.p0_e0 L N some z3) n (i : Int) ms rs = some rs' ∧ rs'.length = ms.length ∧ ∀ (j : Nat) (hj : j < rs'.length), (rs'[j]).length = ms.length ∧ ∀ t : Nat, Tr rs'[j] t ↔ Slip ms (fun s => s = j) t := by
    intro n
    induction n with
    | zero => intro i rs _ _ h; omega
    | succ n ih =>
      intro i rs hl hi hn' hr
      show ∃ rs', f122.s0 L N _ (f122.l0 L N _ n) (i : Int) ms rs = _ ∧ _
      unfold f122.s0 f122.s0'
      by_cases hlt : i < ms.length
      · have h0 : decide ((ms.length : Int) ≤ (lim : Int)) = true := dt (by omega)
        have e0 : ((ms.length : Int)).toNat = ms.length := rfl
        simp only [lt_cast hlt, cond_true, h0, e0, le0, List.length_replicate, Bool.and_true, Int.toNat_natCast]
        have hfalse : (List.replicate ms.length false).getD i false = false := by
          rw [List.getD, List.getElem?_replicate]; split <;> rfl
        have hQ : QOk ms ((List.replicate ms.length false).set i true) [(i : Int)] := by
          have h : QOk ms (List.replicate ms.length false) [] := ⟨by simp, fun v hv => by simp at hv, fun t h => absurd h (Tr_replicate _ t), by rw [cnt_replicate]; rfl, List.nodup_nil⟩
          exact h.add hlt hfalse
        obtain ⟨seen', q1, q2, q3⟩ := slips2_work L N (fun z10 z11 z12 z13 => f122.p1_e2 L N (fun z3 => f122.p0_e0 L N some z3) (f122.l0 L N (fun z3 => f122.p0_e0 L N some z3) n) z10 z11 z12 z13) ms i hlt rs hm hL L 0 _ _ (by simp) (by omega) hQ
          (fun v hv => by obtain rfl := List.mem_singleton.1 hv; exact ⟨i, rfl, .base i rfl⟩) (List.mem_singleton.2 rfl) (fun _ _ h => by omega)
        have q3' : f122.l1 L N (fun z10 z11 z12 z13 => f122.p1_e2 L N (fun z3 => f122.p0_e0 L N some z3) (f122.l0 L N (fun z3 => f122.p0_e0 L N some z3) n) z10 z11 z12 z13) L (i : Int) (0 : Int) ms rs ((List.replicate ms.length false).set i true) [(i : Int)] = _ := q3
        rw [q3']
        show ∃ rs', f122.p1_e2' L N _ _ (i : Int) ms rs seen' = _ ∧ _
        unfold f122.p1_e2'
        have hle : decide (rs.length + ([seen'] : List (List Bool)).length ≤ lim) = true := dt (by simp only [List.length_cons, List.length_nil]; omega)
        rw [hle, cond_true, wi_nat (by omega)]
        exact ih (i + 1) _ (by simp [hl]) (by omega) (by omega) (rows_snoc (P := fun j r => r.length = ms.length ∧ ∀ t : Nat, Tr r t ↔ Slip ms (fun s => s = j) t) hr (by rw [hl]; exact ⟨q1, q2⟩))
      · simp only [ge_cast hlt, cond_false]
        have hi' : i = ms.length := by omega
        subst hi'
        exact ⟨rs, rfl, hl, hr⟩
  exact key L 0 [] rfl (by omega) (by omega) (fun j hj => by simp at hj)

theorem slips_ok (L N : Nat) (ms : List (List Move)) (hm : Leads ms) (hL : 1048576 < L) :
    ∃ rs, f124 L N ⟨ms⟩ = some rs ∧ rs.length = ms.length ∧ ∀ (j : Nat) (hj : j < rs.length), (rs[j]).length ≤ ms.length ∧ (∀ v ∈ rs[j], 0 ≤ v ∧ v < (ms.length : Int)) ∧ ∀ t : Nat, (t : Int) ∈ rs[j] ↔ Slip ms (fun s => s = j) t := by
  have hlim := lim_eq
  have hn := hm.1
  show ∃ rs, f124.b L N some ⟨ms⟩ = some rs ∧ _
  unfold f124.b f124.b'
  have key : ∀ (n i : Nat) (rs : List (List Int)), rs.length = i → i ≤ ms.length → ms.length - i < n → (∀ (j : Nat) (hj : j < rs.length), (rs[j]).length ≤ ms.length ∧ (∀ v ∈ rs[j], 0 ≤ v ∧ v < (ms.length : Int)) ∧ ∀ t : Nat, (t : Int) ∈ rs[j] ↔ Slip ms (fun s => s = j) t) →
      ∃ rs', f124.l0 L N (fun z4 => f124.p0_e0 L N some z4) n (ms.length : Int) (i : Int) ms rs = some rs' ∧ rs'.length = ms.length ∧ ∀ (j : Nat) (hj : j < rs'.length), (rs'[j]).length ≤ ms.length ∧ (∀ v ∈ rs'[j], 0 ≤ v ∧ v < (ms.length : Int)) ∧ ∀ t : Nat, (t : Int) ∈ rs'[j] ↔ Slip ms (fun s => s = j) t := by
    intro n
    induction n with
    | zero => intro i rs _ _ h; omega
    | succ n ih =>
      intro i rs hl hi hn' hr
      show ∃ rs', f124.s0 L N _ (f124.l0 L N _ n) (ms.length : Int) (i : Int) ms rs = _ ∧ _
      unfold f124.s0 f124.s0'
      by_cases hlt : i < ms.length
      · obtain ⟨q, h1, h2, h3, h4, -⟩ := slip1_ok L N ms [(i : Int)] hm (fun v hv => by obtain rfl := List.mem_singleton.1 hv; omega) (by simp only [List.length_cons, List.length_nil]; omega) (by simp only [List.length_cons, List.length_nil]; omega) hL
        have hle : decide (rs.length + ([q] : List (List Int)).length ≤ lim) = true := dt (by simp only [List.length_cons, List.length_nil]; omega)
        have hsame : ∀ t : Nat, (t : Int) ∈ q ↔ Slip ms (fun s => s = i) t := fun t => (h4 t).trans (Slip.iff (fun s => by
          rw [List.mem_singleton]; constructor
          · intro h; omega
          · intro h; rw [h]) t)
        simp only [lt_cast hlt, cond_true, h1, Option.bind_some, hle]
        rw [wi_nat (by omega)]
        exact ih (i + 1) _ (by simp [hl]) (by omega) (by omega) (rows_snoc (P := fun j (r : List Int) => r.length ≤ ms.length ∧ (∀ v ∈ r, 0 ≤ v ∧ v < (ms.length : Int)) ∧ ∀ t : Nat, (t : Int) ∈ r ↔ Slip ms (fun s => s = j) t) hr (by rw [hl]; exact ⟨h2, h3, hsame⟩))
      · simp only [ge_cast hlt, cond_false]
        have hi' : i = ms.length := by omega
        subst hi'
        exact ⟨rs, rfl, hl, hr⟩
  exact key L 0 [] rfl (by omega) (by omega) (fun j hj => by simp at hj)
end Go.Proofs.Ytdfjdbpklbehoaa.Ev
