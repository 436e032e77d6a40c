/- Plain laws, in one text. -/
import Derived.Test.YtffkhhblppfbfaaGreatGX3b
import Derived.Test.YtffkhhblppfbfaaGreatEvZ
import Derived.Test.YtffkhhblppfbfaaGreatEvSort
import Derived.Test.YtffkhhblppfbfaaGreatPAll0
/-! Plain laws of words: the weak graph does the same words. No conditions but those that each states. -/
namespace Go.Proofs.YtffkhhblppfbfaaGreat.Ev
open Go
set_option linter.unusedVariables false
set_option linter.unusedSimpArgs false

theorem step_weak {ms rows : List (List Move)} (hl : rows.length = ms.length) (h : ∀ (j : Nat) (hj : j < rows.length), ∀ m, m ∈ rows[j] ↔ WkS ms j m) {X : Nat → Prop} (hX : Shuts ms X) {a : Int} (ha : a ≠ 0) (t : Nat) : Slip rows (StepX rows X a) t ↔ Slip ms (StepX ms X a) t := by
  have sw : ∀ {X : Nat → Prop} {t : Nat}, Slip rows X t ↔ Slip ms X t := slip_weak hl h
  rw [sw]
  constructor
  · intro hs
    refine hs.trans fun u hu => ?_
    obtain ⟨s, hx, hsl, k, hk, h1, h2⟩ := hu
    obtain ⟨mid, g1, g2⟩ := (h s hsl _).1 (List.getElem_mem hk)
    rcases g2 with ⟨g3, -⟩ | ⟨hm2, k2, hk2, t2, u2, g3, g4, g5, g6, g7⟩
    · rw [h1] at g3; exact absurd g3 ha
    · rw [h2] at g7
      obtain rfl : u = u2 := by omega
      refine g6.trans fun x hx' => ?_
      subst hx'
      exact .base x ⟨mid, hX mid (g1.trans fun y hy => by subst hy; exact .base y hx), hm2, k2, hk2, by rw [← g4, h1], g5⟩
  · refine Slip.mono fun u hu => ?_
    obtain ⟨s, hx, hsl, k, hk, h1, h2⟩ := hu
    have hsr : s < rows.length := by omega
    have hmem : (⟨a, (u : Int)⟩ : Move) ∈ rows[s] := (h s hsr _).2 ⟨s, .base s rfl, .inr ⟨hsl, k, hk, u, u, by rw [h1]; exact ha, h1.symm, h2, .base u rfl, rfl⟩⟩
    obtain ⟨q, hq, e⟩ := List.mem_iff_getElem.1 hmem
    exact ⟨s, hx, hsr, q, hq, by rw [e], by rw [e]⟩
theorem beh_weak {ms rows : List (List Move)} (hl : rows.length = ms.length) (h : ∀ (j : Nat) (hj : j < rows.length), ∀ m, m ∈ rows[j] ↔ WkS ms j m) : ∀ {w : List Int} {X : Nat → Prop}, Shuts ms X → (∀ a ∈ w, a ≠ 0) → ∀ t, Beh rows X w t ↔ Beh ms X w t
  | [], X, _, _, t => Iff.rfl
  | a :: w, X, hX, hw, t => by
    have h1 : ∀ t, Slip rows (StepX rows X a) t ↔ Slip ms (StepX ms X a) t := step_weak hl h hX (hw a (.head _))
    show Beh rows (Slip rows (StepX rows X a)) w t ↔ Beh ms (Slip ms (StepX ms X a)) w t
    rw [Beh.congr h1 t]
    exact beh_weak hl h shuts_slip (fun b hb => hw b (.tail _ hb)) t
end Go.Proofs.YtffkhhblppfbfaaGreat.Ev

/-! Plain laws of folded graphs: a fold goes on as the graph does. No conditions but those that each states. -/
namespace Go.Proofs.YtffkhhblppfbfaaGreat.Ev
open Go
set_option linter.unusedVariables false
set_option linter.unusedSimpArgs false

/-- the graph of the least states of their classes -/
structure FoldOf (ms : List (List Move)) (q : List Int) (ls : List Nat) (fr : List (List Move)) : Prop where
  len : fr.length = ls.length
  lt : ∀ l ∈ ls, l < ms.length
  rep : ∀ l ∈ ls, q.getD l 0 = (l : Int)
  all : ∀ i, i < ms.length → q.getD i 0 = (i : Int) → i ∈ ls
  asc : ls.Pairwise (· < ·)
  rows : ∀ (j : Nat) (hj : j < fr.length) (m : Move), m ∈ fr[j] ↔ ∃ t j' : Nat, Mv ms (ls.getD j 0) m.act t ∧ j' < ls.length ∧ m.to = (j' : Int) ∧ q.getD t 0 = ((ls.getD j' 0 : Nat) : Int)

def FB (ms : List (List Move)) (q : List Int) (ls : List Nat) (i j : Nat) : Prop := i < ms.length ∧ j < ls.length ∧ q.getD i 0 = ((ls.getD j 0 : Nat) : Int)
theorem Mv.lt {ms : List (List Move)} (hm : Leads ms) {s t : Nat} {a : Int} (h : Mv ms s a t) : s < ms.length ∧ t < ms.length := by
  obtain ⟨hs, k, hk, -, ht⟩ := h
  have := (hm.2 s hs).2 k hk
  exact ⟨hs, by omega⟩
/-- alike states match each other's moves -/
theorem alike_mv {ms : List (List Move)} (hm : Leads ms) {q : List Int} (hq : Fix (Akin ms) ms.length q) {i j t : Nat} {a : Int} (hi : i < ms.length) (hj : j < ms.length) (e : q.getD i 0 = q.getD j 0) (h : Mv ms i a t) : ∃ t', Mv ms j a t' ∧ q.getD t 0 = q.getD t' 0 := by
  obtain ⟨hs, k, hk, ha, ht⟩ := h
  obtain ⟨_, k', hk', a1, a2⟩ := (((hq.same (akinEq ms) hi hj).1 e).2 ⟨a, q.getD t 0⟩).2 ⟨hi, k, hk, ha.symm, by rw [ht, Int.toNat_natCast]⟩
  obtain ⟨t', ht', htl'⟩ := hm.nat hj hk'
  exact ⟨t', ⟨hj, k', hk', a1.symm, ht'⟩, by rw [ht', Int.toNat_natCast] at a2; exact a2⟩
theorem FoldOf.at {ms fr : List (List Move)} {q : List Int} {ls : List Nat} (h : FoldOf ms q ls fr) {j : Nat} (hj : j < ls.length) : ls.getD j 0 < ms.length ∧ q.getD (ls.getD j 0) 0 = ((ls.getD j 0 : Nat) : Int) := by
  rw [getD_lt hj]
  exact ⟨h.lt _ (List.getElem_mem hj), h.rep _ (List.getElem_mem hj)⟩
theorem FoldOf.find {ms fr : List (List Move)} {q : List Int} {ls : List Nat} (h : FoldOf ms q ls fr) (hq : Fix (Akin ms) ms.length q) {i : Nat} (hi : i < ms.length) : ∃ j, FB ms q ls i j := by
  obtain ⟨r, h1, h2, h3⟩ := hq.rep (akinEq ms) hi
  obtain ⟨j, hj, e⟩ := List.mem_iff_getElem.1 (h.all r (by omega) h3)
  exact ⟨j, hi, hj, by rw [getD_lt hj, e, h1]⟩
theorem FoldOf.zig {ms fr : List (List Move)} {q : List Int} {ls : List Nat} (hm : Leads ms) (hq : Fix (Akin ms) ms.length q) (h : FoldOf ms q ls fr) : Zig ms fr (FB ms q ls) := by
  intro i j hb a t hmv
  obtain ⟨hi, hj, e⟩ := hb
  obtain ⟨h1, h2⟩ := h.at hj
  obtain ⟨t', h3, h4⟩ := alike_mv hm hq hi h1 (e.trans h2.symm) hmv
  obtain ⟨j', h5, h6, h7⟩ := h.find hq (hmv.lt hm).2
  have hjr : j < fr.length := by rw [h.len]; exact hj
  obtain ⟨k, hk, ek⟩ := List.mem_iff_getElem.1 ((h.rows j hjr ⟨a, (j' : Int)⟩).2 ⟨t', j', h3, h6, rfl, h4.symm.trans h7⟩)
  exact ⟨j', ⟨hjr, k, hk, by rw [ek], by rw [ek]⟩, h5, h6, h7⟩
theorem FoldOf.zag {ms fr : List (List Move)} {q : List Int} {ls : List Nat} (hm : Leads ms) (hq : Fix (Akin ms) ms.length q) (h : FoldOf ms q ls fr) : Zig fr ms (fun j i => FB ms q ls i j) := by
  intro j i hb a k hmv
  obtain ⟨hi, hj, e⟩ := hb
  obtain ⟨h1, h2⟩ := h.at hj
  obtain ⟨hjr, n, hn, ha, hk⟩ := hmv
  obtain ⟨t, j', g1, g2, g3, g4⟩ := (h.rows j hjr _).1 (List.getElem_mem hn)
  rw [hk] at g3
  obtain rfl : k = j' := by omega
  rw [ha] at g1
  obtain ⟨t', h3, h4⟩ := alike_mv hm hq h1 hi (h2.trans e.symm) g1
  exact ⟨t', h3, (h3.lt hm).2, g2, h4.symm.trans g4⟩
theorem FoldOf.first {ms fr : List (List Move)} {q : List Int} {ls : List Nat} (hq : Fix (Akin ms) ms.length q) (h1 : 1 ≤ ms.length) (h : FoldOf ms q ls fr) : FB ms q ls 0 0 := by
  obtain ⟨r, e1, e2, e3⟩ := hq.rep (akinEq ms) (show 0 < ms.length by omega)
  obtain rfl : r = 0 := by omega
  obtain ⟨j, hj, e⟩ := List.mem_iff_getElem.1 (h.all 0 (by omega) e3)
  have hj0 : j = 0 := by
    rcases Nat.eq_zero_or_pos j with e0 | hpos
    · exact e0
    · have := List.pairwise_iff_getElem.1 h.asc 0 j (by omega) hj hpos
      omega
  subst hj0
  exact ⟨by omega, hj, by rw [getD_lt hj, e, e3]⟩
/-- both ways: the states behind a word -/
theorem fold_beh {ms fr : List (List Move)} {q : List Int} {ls : List Nat} (hm : Leads ms) (h1 : 1 ≤ ms.length) (hq : Fix (Akin ms) ms.length q) (h : FoldOf ms q ls fr) (w : List Int) :
    (∀ t, Beh ms (Slip ms (fun x => x = 0)) w t → ∃ j, Beh fr (Slip fr (fun x => x = 0)) w j ∧ FB ms q ls t j) ∧ (∀ j, Beh fr (Slip fr (fun x => x = 0)) w j → ∃ t, Beh ms (Slip ms (fun x => x = 0)) w t ∧ FB ms q ls t j) :=
  ⟨beh_zig (h.zig hm hq) fun s hs => slip_zig (h.zig hm hq) (fun s hs => by subst hs; exact ⟨0, rfl, h.first hq h1⟩) hs,
   beh_zig (h.zag hm hq) fun s hs => slip_zig (h.zag hm hq) (fun s hs => by subst hs; exact ⟨0, rfl, h.first hq h1⟩) hs⟩
end Go.Proofs.YtffkhhblppfbfaaGreat.Ev

/-! Plain law: impl.GraphFold. No conditions but those that each states. -/
namespace Go.Proofs.YtffkhhblppfbfaaGreat.Ev
open Go
set_option linter.unusedVariables false
set_option linter.unusedSimpArgs false

theorem index_ok (L N : Nat) (s : List Int) (v : Int) (hv : v ∈ s) (hL : s.length < L) (hl : s.length ≤ 1048576) : ∃ j : Nat, f24 L N s v = some (j : Int) ∧ ∃ h : j < s.length, s[j] = v := by
  show ∃ j : Nat, f24.b L N some s v = some (j : Int) ∧ _
  unfold f24.b f24.b'
  have key : ∀ (n i : Nat), i ≤ s.length → s.length - i < n → (∀ j (h : j < s.length), j < i → s[j] ≠ v) → ∃ j : Nat, f24.l0 L N (f24.p0_e0 L N some) (fun z4 => f24.p0_r L N some z4) n s v (s.length : Int) (i : Int) = some (j : Int) ∧ ∃ h : j < s.length, s[j] = v := by
    intro n
    induction n with
    | zero => intro i _ h; omega
    | succ n ih =>
      intro i hi hn hne
      show ∃ j : Nat, f24.s0 L N _ _ (f24.l0 L N _ _ n) s v (s.length : Int) (i : Int) = some (j : Int) ∧ _
      unfold f24.s0 f24.s0'
      by_cases hlt : i < s.length
      · simp only [lt_cast hlt, le0, Bool.and_true, cond_true, Int.toNat_natCast, at_lt hlt]
        cases hb : (v == s[i]) with
        | true => rw [cond_true]; exact ⟨i, rfl, hlt, (eq_of_beq hb).symm⟩
        | false =>
          rw [cond_false, wi_nat (by omega)]
          refine ih (i + 1) (by omega) (by omega) fun j h hj e => ?_
          by_cases h' : j < i
          · exact hne j h h' e
          · obtain rfl : j = i := by omega
            rw [e, beq_self_eq_true] at hb; cases hb
      · obtain ⟨j, hj, e⟩ := List.mem_iff_getElem.1 hv
        exact absurd e (hne j hj (by omega))
  exact key L 0 (by omega) (by omega) fun j _ h => by omega
/-- the least states of their classes -/
def leastTo (q : List Int) (i : Nat) : List Nat := (List.range i).filter fun j => q.getD j 0 == (j : Int)
theorem leastTo_succ (q : List Int) (i : Nat) : leastTo q (i + 1) = leastTo q i ++ (if (q.getD i 0 == (i : Int)) = true then [i] else []) := by
  unfold leastTo
  rw [List.range_succ, List.filter_append, List.filter_cons, List.filter_nil]
theorem leastTo_len (q : List Int) (i : Nat) : (leastTo q i).length ≤ i := by
  unfold leastTo
  exact Nat.le_trans (List.length_filter_le _ _) (by simp)
def intsL (l : List Nat) : List Int := l.map fun j : Nat => (j : Int)
theorem intsL_len (l : List Nat) : (intsL l).length = l.length := by simp [intsL]
theorem intsL_at (l : List Nat) {j : Nat} (h : j < (intsL l).length) (h' : j < l.length) : (intsL l)[j] = (l[j] : Int) := by simp [intsL]

theorem fold1 (L N : Nat) (ms : List (List Move)) (hm : Leads ms) {q : List Int} (hq : q.length = ms.length) (ls : List Nat) (hls : ls.length ≤ 60) (J : Int → Int) (hlt : ∀ l ∈ ls, l < ms.length)
    (hJ : ∀ l ∈ ls, ∀ m ∈ ms.getD l [], f24 L N (intsL ls) (q.getD m.to.toNat 0) = some (J (q.getD m.to.toNat 0))) (hL : 1048576 < L) :
    f9.p0_e0 L N (fun a0 a1 => some (a0, a1)) ms q (intsL ls) = some (Graph.mk (ls.map fun l => tidyM ((ms.getD l []).map fun m => Move.mk m.act (J (q.getD m.to.toNat 0)))), true) := by
  have hlim := lim_eq
  have hn := hm.1
  unfold f9.p0_e0 f9.p0_e0'
  have hil := intsL_len ls
  have key : ∀ (n k : Nat), k ≤ ls.length → ls.length - k < n → f9.l1 L N (fun z21 => f9.p1_e2 L N (fun a0 a1 => some (a0, a1)) z21) n ((intsL ls).length : Int) (k : Int) ms q (intsL ls) ((ls.take k).map fun l => tidyM ((ms.getD l []).map fun m => Move.mk m.act (J (q.getD m.to.toNat 0)))) = some (Graph.mk (ls.map fun l => tidyM ((ms.getD l []).map fun m => Move.mk m.act (J (q.getD m.to.toNat 0)))), true) := by
    intro n
    induction n with
    | zero => intro k _ h; omega
    | succ n ih =>
      intro k hk hn'
      show f9.s1 L N _ (f9.l1 L N _ n) ((intsL ls).length : Int) (k : Int) ms q (intsL ls) _ = _
      unfold f9.s1 f9.s1'
      by_cases hkl : k < ls.length
      · have hki : k < (intsL ls).length := by omega
        have hl := hlt _ (List.getElem_mem hkl)
        simp only [lt_cast hki, le0, Bool.and_true, cond_true, Int.toNat_natCast, at_lt hki, intsL_at ls hki hkl, lt_cast hl, at_lt hl]
        have hrow := (hm.2 _ hl).1
        have row : ∀ (n' j : Nat), j ≤ (ms[ls[k]]).length → (ms[ls[k]]).length - j < n' → f9.l2 L N (fun z32 z33 z34 z35 z36 z37 z38 => f9.p2_e4 L N (fun z21 => f9.p1_e2 L N (fun a0 a1 => some (a0, a1)) z21) (f9.l1 L N (fun z21 => f9.p1_e2 L N (fun a0 a1 => some (a0, a1)) z21) n) z32 z33 z34 z35 z36 z37 z38) n' ((intsL ls).length : Int) (k : Int) ms[ls[k]] ((ms[ls[k]]).length : Int) (j : Int) ms q (intsL ls) (((ms[ls[k]]).take j).map fun m => Move.mk m.act (J (q.getD m.to.toNat 0))) ((ls.take k).map fun l => tidyM ((ms.getD l []).map fun m => Move.mk m.act (J (q.getD m.to.toNat 0))))
            = some (Graph.mk (ls.map fun l => tidyM ((ms.getD l []).map fun m => Move.mk m.act (J (q.getD m.to.toNat 0)))), true) := by
          intro n'
          induction n' with
          | zero => intro j _ h; omega
          | succ n' ih2 =>
            intro j hj hn''
            show f9.s2 L N _ (f9.l2 L N _ n') ((intsL ls).length : Int) (k : Int) ms[ls[k]] ((ms[ls[k]]).length : Int) (j : Int) ms q (intsL ls) _ _ = _
            unfold f9.s2 f9.s2'
            by_cases hjl : j < (ms[ls[k]]).length
            · obtain ⟨t, ht, htl⟩ := hm.nat hl hjl
              have htq : t < q.length := by omega
              have hi := hJ _ (List.getElem_mem hkl) ((ms[ls[k]])[j]) (by rw [getD_lt hl]; exact List.getElem_mem hjl)
              rw [ht, Int.toNat_natCast] at hi
              have hle : decide (((((ms[ls[k]]).take j).map fun m => Move.mk m.act (J (q.getD m.to.toNat 0))).length + ([(Move.mk ((ms[ls[k]])[j]).act (J (q.getD t 0)))] : List Move).length) ≤ lim) = true := dt (by simp only [List.length_map, List.length_take, List.length_cons, List.length_nil]; omega)
              simp only [lt_cast hjl, le0, Bool.and_true, cond_true, Int.toNat_natCast, at_lt hjl, ht, lt_cast htq, atD, hi, Option.bind_some, hle]
              have e : (((ms[ls[k]]).take j).map fun m => Move.mk m.act (J (q.getD m.to.toNat 0))) ++ [Move.mk ((ms[ls[k]])[j]).act (J (q.getD t 0))] = ((ms[ls[k]]).take (j + 1)).map fun m => Move.mk m.act (J (q.getD m.to.toNat 0)) := by
                rw [List.take_succ_eq_append_getElem hjl, List.map_append, List.map_cons, List.map_nil, ht, Int.toNat_natCast]
              rw [e, wi_nat (by omega)]
              exact ih2 (j + 1) (by omega) (by omega)
            · rw [ge_cast hjl, cond_false, List.take_of_length_le (by omega)]
              show f9.p2_e4' L N _ _ _ _ _ _ _ _ _ = _
              unfold f9.p2_e4'
              have hle : decide (((ls.take k).map fun l => tidyM ((ms.getD l []).map fun m => Move.mk m.act (J (q.getD m.to.toNat 0)))).length + ([tidyM ((ms[ls[k]]).map fun m => Move.mk m.act (J (q.getD m.to.toNat 0)))] : List (List Move)).length ≤ lim) = true := dt (by simp only [List.length_map, List.length_take, List.length_cons, List.length_nil]; omega)
              rw [fsortM_some (by rw [List.length_map]; omega), Option.bind_some, hle, cond_true, wi_nat (by omega)]
              have e : ((ls.take k).map fun l => tidyM ((ms.getD l []).map fun m => Move.mk m.act (J (q.getD m.to.toNat 0)))) ++ [tidyM ((ms[ls[k]]).map fun m => Move.mk m.act (J (q.getD m.to.toNat 0)))] = (ls.take (k + 1)).map fun l => tidyM ((ms.getD l []).map fun m => Move.mk m.act (J (q.getD m.to.toNat 0))) := by
                rw [List.take_succ_eq_append_getElem hkl, List.map_append, List.map_cons, List.map_nil, getD_lt hl]
              rw [e]
              exact ih (k + 1) (by omega) (by omega)
        exact row L 0 (by omega) (by omega)
      · have hki : ¬ k < (intsL ls).length := by omega
        rw [ge_cast hki, cond_false, List.take_of_length_le (by omega)]
        rfl
  exact key L 0 (by omega) (by omega)

theorem graphFold_ok (L N : Nat) (g : Graph) (hg : g.moves.length + gsize g.moves ≤ 1048576) (hL : 8589934592 ≤ L) :
    ∃ fr, f9 L N g = some (⟨fr⟩, graphOk g) ∧ (graphOk g = true → ∃ pre q, Chain (Akin g.moves) g.moves.length pre q ∧ Fix (Akin g.moves) g.moves.length q ∧ f23 L N g = some q ∧ FoldOf g.moves q (leastTo q g.moves.length) fr ∧ graphOk ⟨fr⟩ = true ∧ fr.length + gsize fr ≤ 1048576) := by
  have hge : Graph.mk g.moves = g := by cases g; rfl
  have hlim := lim_eq
  have h1 := gok1_ok L N g (by omega) hg
  show ∃ fr, f9.b L N (fun a0 a1 => some (a0, a1)) g = _ ∧ _
  unfold f9.b f9.b'
  rw [hge, h1, Option.bind_some]
  cases hok : graphOk g with
  | false => exact ⟨[], rfl, fun h => by cases h⟩
  | true =>
    have hm := leads_of hok hg
    have hn := hm.1
    obtain ⟨hn1, -, hmv⟩ := graphOk_mv hok
    obtain ⟨pre, q, c3, c5, c6, c7⟩ := chainI L N g.moves hm hL
    have hql := c7.1
    have c4 := classesI L N g.moves c3 c5 (by omega)
    rw [hge] at c4
    rw [Bool.not_true, cond_false, c4, Option.bind_some]
    -- the least states
    have hll := leastTo_len q g.moves.length
    have hmem : ∀ l, l ∈ leastTo q g.moves.length ↔ l < g.moves.length ∧ q.getD l 0 = (l : Int) := fun l => by
      unfold leastTo
      rw [List.mem_filter, List.mem_range, beq_iff_eq]
    have key : ∀ (n i : Nat), i ≤ q.length → q.length - i < n → f9.l0 L N (fun z7 z8 z9 => f9.p0_e0 L N (fun a0 a1 => some (a0, a1)) z7 z8 z9) n (q.length : Int) (i : Int) g.moves q (intsL (leastTo q i))
        = f9.p0_e0 L N (fun a0 a1 => some (a0, a1)) g.moves q (intsL (leastTo q g.moves.length)) := by
      intro n
      induction n with
      | zero => intro i _ h; omega
      | succ n ih =>
        intro i hi hn'
        show f9.s0 L N _ (f9.l0 L N _ n) (q.length : Int) (i : Int) g.moves q _ = _
        unfold f9.s0 f9.s0'
        by_cases hlt : i < q.length
        · have hil := leastTo_len q i
          have hle : decide ((intsL (leastTo q i)).length + ([(i : Int)] : List Int).length ≤ lim) = true := dt (by rw [intsL_len]; simp only [List.length_cons, List.length_nil]; omega)
          have hs := leastTo_succ q i
          simp only [lt_cast hlt, le0, Bool.and_true, cond_true, Int.toNat_natCast, atD, hle, wi_nat (show i < 9223372036854775807 by omega)]
          cases hb : ((i : Int) == q.getD i 0) with
          | true =>
            have hb' : (q.getD i 0 == (i : Int)) = true := by rw [beq_iff_eq] at hb ⊢; exact hb.symm
            rw [if_pos hb'] at hs
            have e : intsL (leastTo q i) ++ [(i : Int)] = intsL (leastTo q (i + 1)) := by rw [hs]; simp [intsL]
            rw [cond_true, e]
            exact ih (i + 1) (by omega) (by omega)
          | false =>
            have hb' : ¬ (q.getD i 0 == (i : Int)) = true := by
              rw [beq_eq_false_iff_ne] at hb
              rw [beq_iff_eq]; exact fun h => hb h.symm
            rw [if_neg hb', List.append_nil] at hs
            rw [cond_false, ← hs]
            exact ih (i + 1) (by omega) (by omega)
        · rw [ge_cast hlt, cond_false]
          have : i = g.moves.length := by omega
          rw [this]
    have h0 : intsL (leastTo q 0) = [] := rfl
    have hJ0 : ∀ t, t < g.moves.length → ∃ j' : Nat, f24 L N (intsL (leastTo q g.moves.length)) (q.getD t 0) = some (j' : Int) ∧ ∃ h : j' < (leastTo q g.moves.length).length, (((leastTo q g.moves.length)[j'] : Nat) : Int) = q.getD t 0 := fun t ht => by
      obtain ⟨r, r1, r2, r3⟩ := c7.rep (akinEq g.moves) ht
      have hr : (r : Int) ∈ intsL (leastTo q g.moves.length) := List.mem_map.2 ⟨r, (hmem r).2 ⟨by omega, r3⟩, rfl⟩
      obtain ⟨j, j1, j2, j3⟩ := index_ok L N (intsL (leastTo q g.moves.length)) (q.getD t 0) (by rw [r1]; exact hr) (by rw [intsL_len]; omega) (by rw [intsL_len]; omega)
      have j2' : j < (leastTo q g.moves.length).length := by rw [intsL_len] at j2; exact j2
      refine ⟨j, j1, j2', ?_⟩
      rw [← intsL_at _ j2 j2']; exact j3
    refine ⟨_, ((key L 0 (by omega) (by omega)).symm ▸ ?_ : f9.l0 L N (fun z7 z8 z9 => f9.p0_e0 L N (fun a0 a1 => some (a0, a1)) z7 z8 z9) L (q.length : Int) (0 : Nat) g.moves q (intsL (leastTo q 0)) = some (Graph.mk ((leastTo q g.moves.length).map fun l => tidyM ((g.moves.getD l []).map fun m => Move.mk m.act ((fun v => (f24 L N (intsL (leastTo q g.moves.length)) v).getD 0) (q.getD m.to.toNat 0)))), true)), fun _ => ?_⟩
    · refine fold1 L N g.moves hm hql _ (by omega) (fun v => (f24 L N (intsL (leastTo q g.moves.length)) v).getD 0) (fun l hl => ((hmem l).1 hl).1) (fun l hl m hmm => ?_) (by omega)
      have hlt := ((hmem l).1 hl).1
      rw [getD_lt hlt] at hmm
      obtain ⟨k, hk, rfl⟩ := List.mem_iff_getElem.1 hmm
      obtain ⟨t, ht, htl⟩ := hm.nat hlt hk
      obtain ⟨j', j1, -⟩ := hJ0 t htl
      rw [ht, Int.toNat_natCast, j1]; rfl
    · have hasc : (leastTo q g.moves.length).Pairwise (· < ·) := List.Pairwise.filter _ List.pairwise_lt_range
      have hF : FoldOf g.moves q (leastTo q g.moves.length) ((leastTo q g.moves.length).map fun l => tidyM ((g.moves.getD l []).map fun m => Move.mk m.act ((fun v => (f24 L N (intsL (leastTo q g.moves.length)) v).getD 0) (q.getD m.to.toNat 0)))) := by
        refine ⟨by rw [List.length_map], fun l hl => ((hmem l).1 hl).1, fun l hl => ((hmem l).1 hl).2, fun i hi e => (hmem i).2 ⟨hi, e⟩, hasc, fun j hj m => ?_⟩
        have hj' : j < (leastTo q g.moves.length).length := by rw [List.length_map] at hj; exact hj
        have hlt := ((hmem _).1 (List.getElem_mem hj')).1
        rw [List.getElem_map, tidyM_mem, List.mem_map, getD_lt hlt, getD_lt hj']
        constructor
        · rintro ⟨x, hx, rfl⟩
          obtain ⟨k, hk, rfl⟩ := List.mem_iff_getElem.1 hx
          obtain ⟨t, ht, htl⟩ := hm.nat hlt hk
          obtain ⟨j2, j1, j3, j4⟩ := hJ0 t htl
          refine ⟨t, j2, ⟨hlt, k, hk, rfl, ht⟩, j3, ?_, ?_⟩
          · simp only [ht, Int.toNat_natCast, j1]; rfl
          · rw [getD_lt j3, j4]
        · rintro ⟨t, j2, ⟨_, k, hk, ha, ht⟩, j3, e1, e2⟩
          refine ⟨_, List.getElem_mem hk, ?_⟩
          have htl : t < g.moves.length := by have := (hm.2 _ hlt).2 k hk; omega
          obtain ⟨j5, j1, j6, j7⟩ := hJ0 t htl
          rw [getD_lt j3] at e2
          have ej : j5 = j2 := by
            have h1 : (leastTo q g.moves.length)[j5] = (leastTo q g.moves.length)[j2] := by omega
            rcases Nat.lt_trichotomy j5 j2 with h | h | h
            · have := List.pairwise_iff_getElem.1 hasc j5 j2 j6 j3 h; omega
            · exact h
            · have := List.pairwise_iff_getElem.1 hasc j2 j5 j3 j6 h; omega
          simp only [ht, Int.toNat_natCast, j1, Option.getD_some]
          rw [← mv_eta m, ha, e1, ej]
      have hfl := hF.len
      have hto : ∀ (j : Nat) (hj : j < ((leastTo q g.moves.length).map fun l => tidyM ((g.moves.getD l []).map fun m => Move.mk m.act ((fun v => (f24 L N (intsL (leastTo q g.moves.length)) v).getD 0) (q.getD m.to.toNat 0)))).length), ∀ m ∈ ((leastTo q g.moves.length).map fun l => tidyM ((g.moves.getD l []).map fun m => Move.mk m.act ((fun v => (f24 L N (intsL (leastTo q g.moves.length)) v).getD 0) (q.getD m.to.toNat 0))))[j], -4 ≤ m.act ∧ m.act ≤ 4 ∧ 0 ≤ m.to ∧ m.to < ((leastTo q g.moves.length).length : Int) := fun j hj m hmm => by
        obtain ⟨t, j', ⟨hs, k, hk, ha, ht⟩, h2, h3, -⟩ := (hF.rows j hj m).1 hmm
        have := hmv _ hs k hk
        omega
      have hris : ∀ (j : Nat) (hj : j < ((leastTo q g.moves.length).map fun l => tidyM ((g.moves.getD l []).map fun m => Move.mk m.act ((fun v => (f24 L N (intsL (leastTo q g.moves.length)) v).getD 0) (q.getD m.to.toNat 0)))).length), RisesM ((leastTo q g.moves.length).map fun l => tidyM ((g.moves.getD l []).map fun m => Move.mk m.act ((fun v => (f24 L N (intsL (leastTo q g.moves.length)) v).getD 0) (q.getD m.to.toNat 0))))[j] := fun j hj => by
        rw [List.getElem_map]; exact tidyM_rises _
      have hfirst := hF.first c7 hn1
      refine ⟨pre, q, c6, c7, rfl, hF, graphOk_mk (by have := hfirst.2.1; omega) (by omega) fun i hi => ⟨hris i hi, fun m hmm => ?_⟩, ?_⟩
      · have := hto i hi m hmm
        unfold mvOk
        rw [dt (by omega), dt (by omega)]; rfl
      · have hrow : ∀ r ∈ ((leastTo q g.moves.length).map fun l => tidyM ((g.moves.getD l []).map fun m => Move.mk m.act ((fun v => (f24 L N (intsL (leastTo q g.moves.length)) v).getD 0) (q.getD m.to.toNat 0)))), r.length ≤ 540 := fun r hr => by
          obtain ⟨j, hj, rfl⟩ := List.mem_iff_getElem.1 hr
          exact risesM_len (hris j hj) fun m hmm => by have := hto j hj m hmm; omega
        have := gsize_le hrow
        omega
end Go.Proofs.YtffkhhblppfbfaaGreat.Ev

/-! The statement FnTraceDoes. No condition. -/
namespace Go.Proofs.YtffkhhblppfbfaaGreat.Ev
open Go
set_option linter.unusedVariables false
set_option linter.unusedSimpArgs false

theorem does_weak {g : Graph} {rows : List (List Move)} (hok : graphOk g = true) (h : WeakFine g rows) (w : List Int) : Does ⟨rows⟩ w ↔ Does g w := by
  unfold Does
  have key : wordB w = true → ((∃ t, BehW rows w t) ↔ ∃ t, BehW g.moves w t) := fun hw => by
    have hs : ∀ t, Slip rows (fun x => x = 0) t ↔ Slip g.moves (fun x => x = 0) t := fun t => slip_weak h.weak.1 h.weak.2
    refine exists_congr fun t => ?_
    show Beh rows (Slip rows fun x => x = 0) w t ↔ _
    rw [Beh.congr hs t]
    exact beh_weak h.weak.1 h.weak.2 shuts_slip (wordB_ne hw) t
  constructor
  · rintro ⟨-, h2, h3⟩; exact ⟨hok, h2, (key h2).1 h3⟩
  · rintro ⟨-, h2, h3⟩; exact ⟨h.ok, h2, (key h2).2 h3⟩
theorem does_fold {g : Graph} (hg : g.moves.length + gsize g.moves ≤ 1048576) {fr : List (List Move)} {q : List Int} {ls : List Nat} (hok : graphOk g = true) (hq : Fix (Akin g.moves) g.moves.length q) (h : FoldOf g.moves q ls fr) (hfr : graphOk ⟨fr⟩ = true) (w : List Int) : Does ⟨fr⟩ w ↔ Does g w := by
  unfold Does
  obtain ⟨h1, h2⟩ := fold_beh (leads_of hok hg) (graphOk_mv hok).1 hq h w
  constructor
  · rintro ⟨-, a, t, ht⟩
    obtain ⟨t', h3, -⟩ := h2 t ht
    exact ⟨hok, a, t', h3⟩
  · rintro ⟨-, a, t, ht⟩
    obtain ⟨t', h3, -⟩ := h1 t ht
    exact ⟨hfr, a, t', h3⟩
theorem does_init {g : Graph} {w : List Int} (h : Does g w) (hw : w ≠ []) : Does g w.dropLast := by
  obtain ⟨h1, h2, t, ht⟩ := h
  rw [← List.dropLast_concat_getLast hw] at ht
  obtain ⟨s, hs⟩ := Beh.init ht
  exact ⟨h1, wordB_init h2, s, hs⟩

theorem lawTraceDoes (x0 : List Int) (hx0 : DatOk (.sl (.int .u8)) x0) : ∃ L N, f3 L N x0 = some true := by
  generalize hLL : 8589934592 = L
  refine ⟨L, 1000, ?_⟩
  have hlim := lim_eq
  obtain ⟨c, o1, o2⟩ := open_ok L 1000 hx0
  obtain ⟨g, p', d1, dp0, dp1, d2⟩ := graph_draw L 1000 (by omega) (by omega) o2 (p := 0) (by omega) (by omega)
  obtain ⟨w, p2, w1, w2, -, -⟩ := word_draw L 1000 (by omega) o2 (p := p') (by omega) (by omega) g d2
  have hge : ∀ g : Graph, Graph.mk g.moves = g := fun g => by cases g; rfl
  have hd : f5 L 1000 x0 = some (g, w) := by
    show f5.b' L 1000 (fun a0 a1 => some (a0, a1)) x0 = _
    unfold f5.b'
    rw [o1]
    simp only [Option.bind_some, d1, hge, w1]
  have hsz := d2.size
  obtain ⟨b, e1, e2⟩ := traceDoes_eq L 1000 g w hsz (by omega) (by omega)
  obtain ⟨b', e3, e4⟩ := traceDoesI L 1000 g w hsz (by omega) (by omega)
  have hb : b' = b := by rw [e1] at e3; exact (Option.some.inj e3).symm
  subst hb
  obtain ⟨rows, g1, g2⟩ := weakGraphN L 1000 g hsz (by omega)
  obtain ⟨fr, f1, f2⟩ := graphFold_ok L 1000 g hsz (by omega)
  show f3.b' L 1000 some x0 = _
  unfold f3.b'
  by_cases hl : (x0.length : Int) > 1048576
  · rw [dt hl, cond_true]
  · rw [df hl, cond_false, hd]
    simp only [Option.bind_some, hge, e1, e2, beq_self_eq_true, Bool.not_true, cond_false]
    have fin : f3.j0' L 1000 some w b' g.moves = some true := by
      unfold f3.j0'
      rw [hge, g1, f1]
      simp only [Option.bind_some]
      cases hok : graphOk g with
      | false => rfl
      | true =>
        obtain ⟨-, i2⟩ := g2 hok
        obtain ⟨pre, q, -, j2, -, j4, j5, j6⟩ := f2 hok
        obtain ⟨bw, k1, k2⟩ := traceDoesI L 1000 ⟨rows⟩ w i2.size (by omega) (by omega)
        obtain ⟨bf, k3, k4⟩ := traceDoesI L 1000 ⟨fr⟩ w j6 (by omega) (by omega)
        have hbw : bw = b' := by rw [Bool.eq_iff_iff, k2, e4, does_weak hok i2]
        have hbf : bf = b' := by rw [Bool.eq_iff_iff, k4, e4, does_fold hsz hok j2 j4 j5]
        simp only [Bool.not_true, cond_false, k1, k3, Option.bind_some, hbw, hbf, beq_self_eq_true, cond_true]
    cases hb : b' with
    | false =>
      rw [hb] at fin
      rw [cond_false]; exact fin
    | true =>
      rw [hb] at fin e4
      rw [cond_true]
      by_cases hw0 : (w.length : Int) > 0
      · have hwl : wi ((w.length : Int) - 1) = ((w.length - 1 : Nat) : Int) := by rw [wi_id (by omega) (by omega)]; omega
        have hsl : slB (0 : Int) ((w.length - 1 : Nat) : Int) w.length = true := by
          unfold slB
          rw [dt (show (0 : Int) ≤ 0 by omega), dt (show (0 : Int) ≤ ((w.length - 1 : Nat) : Int) by omega), dt (show ((w.length - 1 : Nat) : Int) ≤ (w.length : Int) by omega)]; rfl
        have hsx : slX w (0 : Int) ((w.length - 1 : Nat) : Int) = w.dropLast := by
          unfold slX
          rw [List.dropLast_eq_take]
          simp
        obtain ⟨b2, k1, k2⟩ := traceDoesI L 1000 g w.dropLast hsz (by rw [List.length_dropLast]; omega) (by omega)
        have hb2 : b2 = true := k2.2 (does_init (e4.1 rfl) (fun h => by rw [h] at hw0; simp at hw0))
        rw [dt hw0, cond_true, hwl, hsl, cond_true, hsx, k1, Option.bind_some, hb2, Bool.not_true, cond_false]
        exact fin
      · rw [df hw0, cond_false]; exact fin
end Go.Proofs.YtffkhhblppfbfaaGreat.Ev
