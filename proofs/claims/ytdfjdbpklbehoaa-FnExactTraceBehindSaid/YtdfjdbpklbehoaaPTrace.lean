/- Plain laws of words that are done: the program's states behind a word and the reference's are the same. No conditions but those that each states. -/
import Derived.Test.YtdfjdbpklbehoaaPSlip1
import Derived.Test.YtdfjdbpklbehoaaPWord
namespace Go.Proofs.Ytdfjdbpklbehoaa.Ev
open Go
set_option linter.unusedVariables false
set_option linter.unusedSimpArgs false

/-- a state to which a move with an action leads from one of some -/
def StepX (ms : List (List Move)) (X : Nat → Prop) (a : Int) (t : Nat) : Prop := ∃ s, X s ∧ ∃ (hs : s < ms.length) (k : Nat) (hk : k < (ms[s]).length), (ms[s])[k].act = a ∧ (ms[s])[k].to = (t : Int)
theorem StepX.iff {ms : List (List Move)} {X Y : Nat → Prop} (h : ∀ t, X t ↔ Y t) (a : Int) (t : Nat) : StepX ms X a t ↔ StepX ms Y a t :=
  ⟨fun ⟨s, hx, r⟩ => ⟨s, (h s).1 hx, r⟩, fun ⟨s, hx, r⟩ => ⟨s, (h s).2 hx, r⟩⟩
/-- a row of states and a row of truths say the same -/
def Same (ms : List (List Move)) (q : List Int) (b : List Bool) : Prop := b.length = ms.length ∧ q.length ≤ ms.length ∧ (∀ v ∈ q, 0 ≤ v ∧ v < (ms.length : Int)) ∧ (∀ t : Nat, (t : Int) ∈ q ↔ Tr b t) ∧ Rises q

theorem after_ok (L N : Nat) (ms : List (List Move)) (set : List Int) (a : Int) (hm : Leads ms) (hs : set.length ≤ ms.length) (hr : ∀ v ∈ set, 0 ≤ v ∧ v < (ms.length : Int)) (hL : 268435456 ≤ L) :
    ∃ q, f113 L N ⟨ms⟩ set a = some q ∧ q.length ≤ ms.length ∧ (∀ v ∈ q, 0 ≤ v ∧ v < (ms.length : Int)) ∧ (∀ t : Nat, (t : Int) ∈ q ↔ Slip ms (StepX ms (fun s => (s : Int) ∈ set) a) t) ∧ Rises q := by
  have hlim := lim_eq
  have hn := hm.1
  show ∃ q, f113.b L N some ⟨ms⟩ set a = some q ∧ _
  unfold f113.b f113.b'
  obtain ⟨to, g1, g2, g3⟩ := inv_loop (l := fun n i to => f113.l0 L N (fun z6 z7 => f113.p0_e0 L N some z6 z7) n a set (set.length : Int) i ms to) (len := set.length)
    (K := fun to : List Int => f113.p0_e0 L N some ms to)
    (fun i to => to.length ≤ i * 1048576 ∧ ∀ v : Int, v ∈ to ↔ ∃ (j : Nat) (hj : j < set.length), j < i ∧ ∃ s : Nat, set[j] = (s : Int) ∧ ∃ (hs : s < ms.length) (k : Nat) (hk : k < (ms[s]).length), (ms[s])[k].act = a ∧ (ms[s])[k].to = v)
    (fun n i to hi ⟨p1, p2⟩ => by
      show ∃ s', f113.s0 L N _ (f113.l0 L N _ n) a set (set.length : Int) i ms to = _ ∧ _
      unfold f113.s0 f113.s0'
      obtain ⟨h1, h2⟩ := hr _ (List.getElem_mem hi)
      obtain ⟨s, hse⟩ := Int.eq_ofNat_of_zero_le h1
      have hsn : s < ms.length := by omega
      have hrow := (hm.2 s hsn).1
      simp only [le0, lt_cast hi, Bool.and_true, cond_true, Int.toNat_natCast, at_lt hi, hse, lt_cast hsn, at_lt hsn]
      obtain ⟨to', q1, q2, q3⟩ := inv_loop (l := fun n' k to => f113.l1 L N (fun z17 z18 z19 z20 z21 z22 => f113.p1_e2 L N (fun z6 z7 => f113.p0_e0 L N some z6 z7) (f113.l0 L N (fun z6 z7 => f113.p0_e0 L N some z6 z7) n) z17 z18 z19 z20 z21 z22) n' a set (set.length : Int) (i : Int) ms[s] ((ms[s]).length : Int) k ms to) (len := (ms[s]).length)
        (K := fun to : List Int => f113.l0 L N (fun z6 z7 => f113.p0_e0 L N some z6 z7) n a set (set.length : Int) ((i + 1 : Nat) : Int) ms to)
        (fun k to' => to'.length ≤ i * 1048576 + k ∧ ∀ v : Int, v ∈ to' ↔ (v ∈ to ∨ ∃ (k' : Nat) (hk' : k' < (ms[s]).length), k' < k ∧ (ms[s])[k'].act = a ∧ (ms[s])[k'].to = v))
        (fun n' k to' hk ⟨r1, r2⟩ => by
          show ∃ s', f113.s1 L N _ (f113.l1 L N _ n') a set (set.length : Int) (i : Int) ms[s] ((ms[s]).length : Int) k ms to' = _ ∧ _
          unfold f113.s1 f113.s1'
          have hle : decide (to'.length + ([(ms[s])[k].to] : List Int).length ≤ lim) = true := dt (by simp only [List.length_cons, List.length_nil]; omega)
          simp only [le0, lt_cast hk, Bool.and_true, cond_true, Int.toNat_natCast, at_lt hk, hle, wi_nat (show k < 9223372036854775807 by omega)]
          by_cases ha : (ms[s])[k].act = a
          · have hb : ((ms[s])[k].act == a) = true := by simpa using ha
            rw [hb]
            simp only [cond_true]
            refine ⟨to' ++ [(ms[s])[k].to], rfl, by simp only [List.length_append, List.length_cons, List.length_nil]; omega, fun v => ?_⟩
            rw [List.mem_append, r2 v, List.mem_singleton]
            constructor
            · rintro ((h | ⟨k', hk', hlt, h⟩) | h)
              · exact .inl h
              · exact .inr ⟨k', hk', by omega, h⟩
              · exact .inr ⟨k, hk, by omega, ha, h.symm⟩
            · rintro (h | ⟨k', hk', hlt, h1, h2⟩)
              · exact .inl (.inl h)
              · by_cases he : k' = k
                · subst he; exact .inr h2.symm
                · exact .inl (.inr ⟨k', hk', by omega, h1, h2⟩)
          · have hb : ((ms[s])[k].act == a) = false := by simpa using ha
            rw [hb]
            simp only [cond_false]
            refine ⟨to', rfl, by omega, fun v => ?_⟩
            rw [r2 v]
            constructor
            · rintro (h | ⟨k', hk', hlt, h⟩)
              · exact .inl h
              · exact .inr ⟨k', hk', by omega, h⟩
            · rintro (h | ⟨k', hk', hlt, h1, h2⟩)
              · exact .inl h
              · by_cases he : k' = k
                · subst he; exact absurd h1 ha
                · exact .inr ⟨k', hk', by omega, h1, h2⟩)
        (fun n' to' _ => by
          show f113.s1 L N _ (f113.l1 L N _ n') a set (set.length : Int) (i : Int) ms[s] ((ms[s]).length : Int) (ms[s]).length ms to' = _
          unfold f113.s1 f113.s1'
          simp only [ge_cast (Nat.lt_irrefl _), cond_false]
          show f113.l0 L N _ n a set (set.length : Int) (wi ((i : Int) + 1)) ms to' = _
          rw [wi_nat (by omega)])
        L 0 to (by omega) (by omega) ⟨by rw [Nat.add_zero]; exact p1, fun v => ⟨fun h => .inl h, fun h => by
          rcases h with h | ⟨k', _, hlt, -⟩
          · exact h
          · omega⟩⟩
      refine ⟨to', q1, by omega, fun v => ?_⟩
      rw [q3 v, p2 v]
      constructor
      · rintro (⟨j, hj, hlt, h⟩ | ⟨k', hk', -, h1, h2⟩)
        · exact ⟨j, hj, by omega, h⟩
        · exact ⟨i, hi, by omega, s, hse, hsn, k', hk', h1, h2⟩
      · rintro ⟨j, hj, hlt, s', hs', hsl', k', hk', h1, h2⟩
        by_cases he : j = i
        · subst he
          rw [hse] at hs'
          obtain rfl : s = s' := by omega
          exact .inr ⟨k', hk', hk', h1, h2⟩
        · exact .inl ⟨j, hj, by omega, s', hs', hsl', k', hk', h1, h2⟩)
    (fun n to _ => by
      show f113.s0 L N _ (f113.l0 L N _ n) a set (set.length : Int) set.length ms to = _
      unfold f113.s0 f113.s0'
      simp only [ge_cast (Nat.lt_irrefl _), cond_false])
    L 0 [] (by omega) (by omega) ⟨by simp, fun v => ⟨fun h => by simp at h, fun ⟨_, _, h, _⟩ => by omega⟩⟩
  have hto : ∀ v ∈ to, 0 ≤ v ∧ v < (ms.length : Int) := fun v hv => by
    obtain ⟨j, hj, -, s, -, hsn, k, hk, -, rfl⟩ := (g3 v).1 hv
    exact (hm.2 s hsn).2 k hk
  obtain ⟨q, e1, e2, e3, e4, e5⟩ := slip1_ok L N ms to hm hto (by omega) (by omega) (by omega)
  refine ⟨q, g1.trans ?_, e2, e3, fun t => ?_, e5⟩
  · show ((f112 L N ⟨ms⟩ to).bind fun y => some y) = _
    rw [e1]; rfl
  · rw [e4 t]
    refine Slip.iff (fun t => ?_) t
    rw [g3]
    constructor
    · rintro ⟨j, hj, -, s, hs, hsl, k, hk, h1, h2⟩
      exact ⟨s, by show (s : Int) ∈ set; rw [← hs]; exact List.getElem_mem hj, hsl, k, hk, h1, h2⟩
    · rintro ⟨s, hx, hsl, k, hk, h1, h2⟩
      obtain ⟨j, hj, hjs⟩ := List.mem_iff_getElem.1 hx
      exact ⟨j, hj, hj, s, hjs, hsl, k, hk, h1, h2⟩

theorem do8_ok (L N : Nat) (ms : List (List Move)) (x : List Bool) (a : Int) (hm : Leads ms) (hx : x.length = ms.length) (hL : 268435456 ≤ L) :
    ∃ out, f110 L N ⟨ms⟩ x a = some out ∧ out.length = ms.length ∧ ∀ t, Tr out t ↔ Slip ms (StepX ms (Tr x) a) t := by
  have hlim := lim_eq
  have hn := hm.1
  show ∃ out, f110.b L N some ⟨ms⟩ x a = some out ∧ _
  unfold f110.b f110.b'
  have h0 : (decide ((0 : Int) ≤ (x.length : Int)) && decide ((x.length : Int) ≤ (lim : Int))) = true := by rw [le0, dt (by omega)]; rfl
  simp only [h0, cond_true]
  obtain ⟨out, g1, g2, g3⟩ := inv_loop (l := fun n i out => f110.l0 L N (fun z5 z6 => f110.p0_e0 L N some z5 z6) n x a i ms out) (len := x.length)
    (K := fun out : List Bool => f110.p0_e0 L N some ms out)
    (fun i out => out.length = ms.length ∧ ∀ t : Nat, Tr out t ↔ ∃ s, s < i ∧ Tr x s ∧ ∃ (hs : s < ms.length) (k : Nat) (hk : k < (ms[s]).length), (ms[s])[k].act = a ∧ (ms[s])[k].to = (t : Int))
    (fun n s out hs ⟨p1, p2⟩ => by
      show ∃ s', f110.s0 L N _ (f110.l0 L N _ n) x a s ms out = _ ∧ _
      unfold f110.s0 f110.s0'
      have hsn : s < ms.length := by omega
      have hrow := (hm.2 s hsn).1
      simp only [lt_cast hs, cond_true]
      obtain ⟨out', q1, q2, q3⟩ := inv_loop (l := fun n' k out => f110.l1 L N (fun z13 z14 z15 z16 z17 => f110.p1_e2 L N (fun z5 z6 => f110.p0_e0 L N some z5 z6) (f110.l0 L N (fun z5 z6 => f110.p0_e0 L N some z5 z6) n) z13 z14 z15 z16 z17) n' x a (s : Int) k ms out) (len := (ms[s]).length)
        (K := fun out : List Bool => f110.l0 L N (fun z5 z6 => f110.p0_e0 L N some z5 z6) n x a ((s + 1 : Nat) : Int) ms out)
        (fun k out' => out'.length = ms.length ∧ ∀ t : Nat, Tr out' t ↔ (Tr out t ∨ (Tr x s ∧ ∃ (k' : Nat) (hk' : k' < (ms[s]).length), k' < k ∧ (ms[s])[k'].act = a ∧ (ms[s])[k'].to = (t : Int))))
        (fun n' k out' hk ⟨r1, r2⟩ => by
          show ∃ s', f110.s1 L N _ (f110.l1 L N _ n') x a (s : Int) k ms out' = _ ∧ _
          unfold f110.s1 f110.s1'
          obtain ⟨t0, ht0, htl⟩ := hm.nat hsn hk
          simp only [le0, lt_cast hsn, lt_cast hs, lt_cast hk, Bool.and_true, Bool.true_and, cond_true, Int.toNat_natCast, at_lt hsn, at_lt hk, atD]
          unfold f110.j0'
          simp only [le0, lt_cast hsn, lt_cast hk, Bool.and_true, Bool.true_and, cond_true, Int.toNat_natCast, at_lt hsn, at_lt hk, ht0, lt_cast (show t0 < out'.length by omega), wi_nat (show k < 9223372036854775807 by omega)]
          have stay : ¬ (Tr x s ∧ (ms[s])[k].act = a) → (out'.length = ms.length ∧ ∀ t : Nat, Tr out' t ↔ (Tr out t ∨ (Tr x s ∧ ∃ (k' : Nat) (hk' : k' < (ms[s]).length), k' < k + 1 ∧ (ms[s])[k'].act = a ∧ (ms[s])[k'].to = (t : Int)))) := by
            intro hno
            refine ⟨r1, fun t => ?_⟩
            rw [r2 t]
            constructor
            · rintro (h | ⟨hx, k', hk', hlt, h⟩)
              · exact .inl h
              · exact .inr ⟨hx, k', hk', by omega, h⟩
            · rintro (h | ⟨hx, k', hk', hlt, h1, h2⟩)
              · exact .inl h
              · by_cases he : k' = k
                · subst he; exact absurd ⟨hx, h1⟩ hno
                · exact .inr ⟨hx, k', hk', by omega, h1, h2⟩
          cases hxs : x.getD s false
          · simp only [cond_false]
            exact ⟨out', rfl, stay fun h => by have := h.1; unfold Tr at this; rw [hxs] at this; cases this⟩
          · simp only [cond_true]
            by_cases ha : (ms[s])[k].act = a
            · have hb : ((ms[s])[k].act == a) = true := by simpa using ha
              rw [hb]
              simp only [cond_true]
              refine ⟨out'.set t0 true, rfl, by simp [r1], fun t => ?_⟩
              rw [Tr_set (by omega), r2 t]
              constructor
              · rintro (rfl | h | ⟨hx, k', hk', hlt, h⟩)
                · exact .inr ⟨hxs, k, hk, by omega, ha, ht0⟩
                · exact .inl h
                · exact .inr ⟨hx, k', hk', by omega, h⟩
              · rintro (h | ⟨hx, k', hk', hlt, h1, h2⟩)
                · exact .inr (.inl h)
                · by_cases he : k' = k
                  · subst he
                    rw [ht0] at h2
                    exact .inl (by omega)
                  · exact .inr (.inr ⟨hx, k', hk', by omega, h1, h2⟩)
            · have hb : ((ms[s])[k].act == a) = false := by simpa using ha
              rw [hb]
              simp only [cond_false]
              exact ⟨out', rfl, stay fun h => ha h.2⟩)
        (fun n' out' _ => by
          show f110.s1 L N _ (f110.l1 L N _ n') x a (s : Int) (ms[s]).length ms out' = _
          unfold f110.s1 f110.s1'
          simp only [le0, lt_cast hsn, Bool.and_true, cond_true, Int.toNat_natCast, at_lt hsn, ge_cast (Nat.lt_irrefl _), cond_false]
          show f110.l0 L N _ n x a (wi ((s : Int) + 1)) ms out' = _
          rw [wi_nat (by omega)])
        L 0 out (by omega) (by omega) ⟨p1, fun t => ⟨fun h => .inl h, fun h => by
          rcases h with h | ⟨-, k', _, hlt, -⟩
          · exact h
          · omega⟩⟩
      refine ⟨out', q1, q2, fun t => ?_⟩
      rw [q3 t, p2 t]
      constructor
      · rintro (⟨s', hlt, h⟩ | ⟨hx, k', hk', -, h1, h2⟩)
        · exact ⟨s', by omega, h⟩
        · exact ⟨s, by omega, hx, hsn, k', hk', h1, h2⟩
      · rintro ⟨s', hlt, hx, hsl', k', hk', h1, h2⟩
        by_cases he : s' = s
        · subst he; exact .inr ⟨hx, k', hk', hk', h1, h2⟩
        · exact .inl ⟨s', by omega, hx, hsl', k', hk', h1, h2⟩)
    (fun n out _ => by
      show f110.s0 L N _ (f110.l0 L N _ n) x a x.length ms out = _
      unfold f110.s0 f110.s0'
      simp only [ge_cast (Nat.lt_irrefl _), cond_false])
    L 0 (List.replicate x.length false) (by omega) (by omega) ⟨by simp [hx], fun t => ⟨fun h => absurd h (Tr_replicate _ t), fun ⟨_, h, _⟩ => by omega⟩⟩
  obtain ⟨r, e1, e2, e3⟩ := slip2_ok L N ms out hm g2 (by omega)
  have e0 : ((x.length : Int)).toNat = x.length := rfl
  rw [e0]
  refine ⟨r, g1.trans ?_, e2, fun t => ?_⟩
  · show ((f137 L N ⟨ms⟩ out).bind fun y => some y) = _
    rw [e1]; rfl
  · rw [e3 t]
    refine Slip.iff (fun t => ?_) t
    rw [g3]
    constructor
    · rintro ⟨s, -, hx, h⟩; exact ⟨s, hx, h⟩
    · rintro ⟨s, hx, hs, h⟩; exact ⟨s, by have := Tr_lt hx; omega, hx, hs, h⟩

/-- the states behind a word -/
theorem behind_ok (L N : Nat) (ms : List (List Move)) (w : List Int) (hm : Leads ms) (h1 : 1 ≤ ms.length) (hw : w.length ≤ 20) (hL : 268435456 ≤ L) :
    ∃ q b, f79 L N ⟨ms⟩ w = some q ∧ f76 L N ⟨ms⟩ w = some b ∧ Same ms q b := by
  have hlim := lim_eq
  have hn := hm.1
  show ∃ q b, f79.b L N some ⟨ms⟩ w = some q ∧ f76.b L N some ⟨ms⟩ w = some b ∧ _
  unfold f79.b f79.b' f76.b f76.b'
  obtain ⟨q0, a1, a2, a3, a4, a5⟩ := slip1_ok L N ms [0] hm (fun v hv => by obtain rfl := List.mem_singleton.1 hv; omega) (by simp only [List.length_cons, List.length_nil]; omega) (by simp only [List.length_cons, List.length_nil]; omega) (by omega)
  obtain ⟨b0, c1, c2, c3⟩ := slip2_ok L N ms ((List.replicate ms.length false).set 0 true) hm (by simp) (by omega)
  have hfirst : f109 L N ⟨ms⟩ = some b0 := by
    show f109.b L N some ⟨ms⟩ = _
    unfold f109.b f109.b'
    refine (bif_t2 (by omega) (by show (ms.length : Int) ≤ _; omega)).trans ?_
    refine (bif_t2 (by omega) (by simp only [List.length_replicate]; show (0 : Int) < ((ms.length : Int).toNat : Int); omega)).trans ?_
    show ((f137 L N ⟨ms⟩ ((List.replicate ms.length false).set 0 true)).bind fun y => some y) = _
    rw [c1]; rfl
  rw [a1, hfirst]
  simp only [Option.bind_some]
  have hs0 : Same ms q0 b0 := ⟨c2, a2, a3, fun t => by
    rw [a4 t, c3 t]
    refine Slip.iff (fun t => ?_) t
    rw [Tr_set (by simp; omega), List.mem_singleton]
    constructor
    · intro h; exact .inl (by omega)
    · rintro (rfl | h)
      · rfl
      · exact absurd h (Tr_replicate _ t), a5⟩
  have key : ∀ (m i : Nat) (q : List Int) (b : List Bool), i ≤ w.length → w.length - i < m → Same ms q b →
      ∃ q' b', f79.l0 L N (fun z6 => f79.p0_e0 L N some z6) m w (w.length : Int) (i : Int) ms q = some q' ∧ f76.l0 L N (fun z5 => f76.p0_e0 L N some z5) m w b (i : Int) ms = some b' ∧ Same ms q' b' := by
    intro m
    induction m with
    | zero => intro i q b _ h; omega
    | succ m ih =>
      intro i q b hi him hsame
      show ∃ q' b', f79.s0 L N _ (f79.l0 L N _ m) w (w.length : Int) i ms q = some q' ∧ f76.s0 L N _ (f76.l0 L N _ m) w b i ms = some b' ∧ _
      unfold f79.s0 f79.s0' f76.s0 f76.s0'
      by_cases hlt : i < w.length
      · obtain ⟨s1, s2, s3, s4, s5⟩ := hsame
        obtain ⟨q', d1, d2, d3, d4, d5⟩ := after_ok L N ms q w[i] hm s2 s3 hL
        obtain ⟨b', e1, e2, e3⟩ := do8_ok L N ms b w[i] hm s1 hL
        simp only [lt_cast hlt, le0, Bool.and_true, cond_true, Int.toNat_natCast, at_lt hlt, d1, e1, Option.bind_some, wi_nat (show i < 9223372036854775807 by omega)]
        exact ih (i + 1) q' b' (by omega) (by omega) ⟨e2, d2, d3, fun t => by
          rw [d4 t, e3 t]
          exact Slip.iff (fun t => StepX.iff s4 w[i] t) t, d5⟩
      · have hi' : i = w.length := by omega
        subst hi'
        simp only [ge_cast (Nat.lt_irrefl _), cond_false]
        exact ⟨q, b, rfl, rfl, hsame⟩
  exact key L 0 q0 b0 (by omega) (by omega) hs0

end Go.Proofs.Ytdfjdbpklbehoaa.Ev
