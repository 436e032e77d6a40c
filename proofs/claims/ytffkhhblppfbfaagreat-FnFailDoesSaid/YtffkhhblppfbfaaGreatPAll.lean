/- Plain laws, in one text. -/
import Derived.Test.YtffkhhblppfbfaaGreatGX4b
import Derived.Test.YtffkhhblppfbfaaGreatEvZ
import Derived.Test.YtffkhhblppfbfaaGreatEvSort
import Derived.Test.YtffkhhblppfbfaaGreatPAll0
namespace Go.Proofs.YtffkhhblppfbfaaGreat.Ev
open Go
set_option linter.unusedVariables false
set_option linter.unusedSimpArgs false
def Fails (g : Graph) (w : List Int) (m : List Bool) : Prop := ∃ t, BehW g.moves w t ∧ ∃ h : t < g.moves.length, refR g.moves[t] m = true
theorem acts_of {g : Graph} (hok : graphOk g = true) {k : Nat} (hk : k < g.moves.length) : ActsOk g.moves[k] := fun m hm => by
  obtain ⟨i, hi, rfl⟩ := List.mem_iff_getElem.1 hm
  have := (graphOk_mv hok).2.2 k hk i hi
  exact ⟨this.1, this.2.1⟩
theorem anyRefuses_ok (L N : Nat) (g : Graph) (hok : graphOk g = true) (hg : g.moves.length + gsize g.moves ≤ 1048576) (hL : 1048576 < L) (m : List Bool) (h8 : m.length = 8) (q : List Int) (hq : ∀ v ∈ q, 0 ≤ v ∧ v < (g.moves.length : Int)) (hql : q.length ≤ 1048576) :
    ∃ b, f29_2 L N q g.moves m = some b ∧ (b = true ↔ ∃ t : Nat, (t : Int) ∈ q ∧ ∃ h : t < g.moves.length, refR g.moves[t] m = true) := by
  have key : ∃ r : Int, f54_2 L N q g.moves m = some r ∧ (r ≥ 0 ↔ ∃ t : Nat, (t : Int) ∈ q ∧ ∃ h : t < g.moves.length, refR g.moves[t] m = true) := by
    show ∃ r : Int, f54_2.b L N some q g.moves m = some r ∧ _
    unfold f54_2.b f54_2.b'
    have lp : ∀ (n i : Nat), i ≤ q.length → q.length - i < n → (∀ (j : Nat) (hj : j < q.length), j < i → ¬ ∃ t : Nat, q[j] = (t : Int) ∧ ∃ h : t < g.moves.length, refR g.moves[t] m = true) →
        ∃ r : Int, f54_2.l0 L N (f54_2.p0_e0 L N some) (fun z6 => f54_2.p0_r L N some z6) n q g.moves m (q.length : Int) (i : Int) = some r ∧ (r ≥ 0 ↔ ∃ t : Nat, (t : Int) ∈ q ∧ ∃ h : t < g.moves.length, refR g.moves[t] m = true) := by
      intro n
      induction n with
      | zero => intro i _ h; omega
      | succ n ih =>
        intro i hi hn hno
        show ∃ r : Int, f54_2.s0 L N _ _ (f54_2.l0 L N _ _ n) q g.moves m (q.length : Int) (i : Int) = some r ∧ _
        unfold f54_2.s0 f54_2.s0'
        by_cases hlt : i < q.length
        · obtain ⟨h0, h1⟩ := hq _ (List.getElem_mem hlt)
          obtain ⟨t, ht⟩ := Int.eq_ofNat_of_zero_le h0
          have htn : t < g.moves.length := by omega
          have hrow := gsize_row _ (List.getElem_mem htn)
          have hge : Graph.mk g.moves = g := by cases g; rfl
          have hc : f31_1 L N (t : Int) g.moves m = some (refR g.moves[t] m) := by
            show f31_1.b' L N some (t : Int) g.moves m = _
            unfold f31_1.b'
            rw [hge, refuses1_ok L N g t m htn (acts_of hok htn) h8 hL (by omega)]; rfl
          simp only [lt_cast hlt, le0, Bool.and_true, cond_true, Int.toNat_natCast, at_lt hlt, ht, hc, Option.bind_some]
          cases hr : refR g.moves[t] m with
          | true =>
            rw [cond_true]
            exact ⟨(i : Int), rfl, ⟨fun _ => ⟨t, by rw [← ht]; exact List.getElem_mem hlt, htn, hr⟩, fun _ => by omega⟩⟩
          | false =>
            rw [cond_false, wi_nat (by omega)]
            refine ih (i + 1) (by omega) (by omega) fun j hj hj' => ?_
            by_cases e : j < i
            · exact hno j hj e
            · obtain rfl : j = i := by omega
              rintro ⟨t', e1, h', h2⟩
              rw [ht] at e1
              obtain rfl : t = t' := by omega
              rw [hr] at h2; cases h2
        · rw [ge_cast hlt, cond_false]
          refine ⟨-1, rfl, ⟨fun h => by omega, fun ⟨t, ht, h⟩ => ?_⟩⟩
          obtain ⟨j, hj, e⟩ := List.mem_iff_getElem.1 ht
          exact absurd ⟨t, e, h⟩ (hno j hj (by omega))
    exact lp L 0 (by omega) (by omega) fun j _ h => by omega
  obtain ⟨r, h1, h2⟩ := key
  refine ⟨decide (r ≥ 0), ?_, by rw [decide_eq_true_eq]; exact h2⟩
  show f29_2.b' L N some q g.moves m = _
  unfold f29_2.b'
  rw [h1, Option.bind_some]
theorem failDoesI (L N : Nat) (g : Graph) (w : List Int) (m : List Bool) (hg : g.moves.length + gsize g.moves ≤ 1048576) (hw : w.length ≤ 1048576) (hm1 : m.length ≤ 1048576) (hL : 268435456 ≤ L) :
    ∃ b, f11 L N g w m = some b ∧ (b = true ↔ graphOk g = true ∧ w.all seenB = true ∧ m.length = 8 ∧ Fails g w m) := by
  have hlim := lim_eq
  have hge : Graph.mk g.moves = g := by cases g; rfl
  show ∃ b, f11.b' L N some g w m = some b ∧ _
  unfold f11.b'
  rw [hge, gok1_ok L N g (by omega) hg]
  simp only [Option.bind_some]
  cases hgk : graphOk g with
  | false => exact ⟨false, rfl, ⟨fun h => (by cases h), fun h => (by have := h.1; cases this)⟩⟩
  | true =>
    rw [cond_true, seenAll_ok L N w (by omega) (by omega), Option.bind_some]
    cases hs : w.all seenB with
    | false => exact ⟨false, rfl, ⟨fun h => (by cases h), fun h => (by have := h.2.1; cases this)⟩⟩
    | true =>
      have e1 : f28 L N m = some ((m.length : Int) == 8) := rfl
      rw [cond_true, e1, Option.bind_some]
      by_cases h8 : m.length = 8
      · have hb : ((m.length : Int) == 8) = true := by rw [beq_iff_eq]; omega
        obtain ⟨q, e, hq⟩ := behI L N g.moves w (leads_of hgk hg) (graphOk_mv hgk).1 hw hL
        have hn := (leads_of hgk hg).1
        have hql := hq.1
        obtain ⟨b, b1, b2⟩ := anyRefuses_ok L N g hgk hg (by omega) m h8 q hq.2.1 (by omega)
        rw [hge] at e
        rw [hb, cond_true, e, Option.bind_some, b1]
        refine ⟨b, rfl, b2.trans ⟨fun ⟨t, ht, h⟩ => ⟨(by trivial), (by trivial), h8, t, (hq.2.2.1 t).1 ht, h⟩, fun ⟨_, _, _, t, ht, h⟩ => ⟨t, (hq.2.2.1 t).2 ht, h⟩⟩⟩
      · have hb : ((m.length : Int) == 8) = false := by rw [beq_eq_false_iff_ne]; omega
        rw [hb, cond_false]
        exact ⟨false, rfl, ⟨fun h => (by cases h), fun h => absurd h.2.2.1 h8⟩⟩
theorem failsS_ok (L N : Nat) (g : Graph) (hok : graphOk g = true) (hg : g.moves.length + gsize g.moves ≤ 1048576) (hL : 1048576 < L) (m : List Bool) (h8 : m.length = 8) (x : List Bool) (hx : x.length = g.moves.length) :
    ∃ b, f34 L N g x m = some b ∧ (b = true ↔ ∃ t, Tr x t ∧ ∃ h : t < g.moves.length, refR g.moves[t] m = true) := by
  have hn := (leads_of hok hg).1
  have hge : Graph.mk g.moves = g := by cases g; rfl
  show ∃ b, f34.b L N some g x m = some b ∧ _
  unfold f34.b f34.b'
  have lp : ∀ (n i : Nat), i ≤ x.length → x.length - i < n → (∀ t, t < i → ¬ (Tr x t ∧ ∃ h : t < g.moves.length, refR g.moves[t] m = true)) →
      ∃ b, f34.l0 L N (f34.p0_e0 L N some) (fun z10 => f34.p0_r L N some z10) n x m (i : Int) g.moves = some b ∧ (b = true ↔ ∃ t, Tr x t ∧ ∃ h : t < g.moves.length, refR g.moves[t] m = true) := by
    intro n
    induction n with
    | zero => intro i _ h; omega
    | succ n ih =>
      intro i hi hn' hno
      show ∃ b, f34.s0 L N _ _ (f34.l0 L N _ _ n) x m (i : Int) g.moves = some b ∧ _
      unfold f34.s0 f34.s0'
      by_cases hlt : i < x.length
      · have hin : i < g.moves.length := by omega
        have hrow := gsize_row _ (List.getElem_mem hin)
        simp only [lt_cast hlt, le0, Bool.and_true, cond_true, Int.toNat_natCast, atD]
        have next : ¬ (Tr x i ∧ ∃ h : i < g.moves.length, refR g.moves[i] m = true) → ∃ b, f34.l0 L N (f34.p0_e0 L N some) (fun z10 => f34.p0_r L N some z10) n x m (wi ((i : Int) + 1)) g.moves = some b ∧ (b = true ↔ ∃ t, Tr x t ∧ ∃ h : t < g.moves.length, refR g.moves[t] m = true) := fun hni => by
          rw [wi_nat (by omega)]
          refine ih (i + 1) (by omega) (by omega) fun t ht => ?_
          by_cases e : t < i
          · exact hno t e
          · obtain rfl : t = i := by omega
            exact hni
        cases hb : x.getD i false with
        | false => rw [cond_false]; exact next fun h => by have := h.1; unfold Tr at this; rw [hb] at this; cases this
        | true =>
          rw [cond_true, hge, refuses2_ok L N g i m hin (acts_of hok hin) h8 hL (by omega), Option.bind_some]
          cases hr : refR g.moves[i] m with
          | true =>
            rw [show (calmR g.moves[i] && !((g.moves[i]).any fun m' => !(m'.act == 0) && m.getD (place m'.act) false)) = true from hr, cond_true]
            exact ⟨true, rfl, ⟨fun _ => ⟨i, hb, hin, hr⟩, fun _ => rfl⟩⟩
          | false =>
            rw [show (calmR g.moves[i] && !((g.moves[i]).any fun m' => !(m'.act == 0) && m.getD (place m'.act) false)) = false from hr, cond_false]
            refine next fun h => ?_
            obtain ⟨-, _, h2⟩ := h
            rw [hr] at h2; cases h2
      · rw [ge_cast hlt, cond_false]
        refine ⟨false, rfl, ⟨fun h => (by cases h), fun ⟨t, ht, h⟩ => ?_⟩⟩
        exact absurd ⟨ht, h⟩ (hno t (by have := Tr_lt ht; omega))
  exact lp L 0 (by omega) (by omega) fun t h => by omega
theorem failDoesS (L N : Nat) (g : Graph) (w : List Int) (m : List Bool) (hg : g.moves.length + gsize g.moves ≤ 1048576) (hw : w.length ≤ 20) (hm1 : m.length ≤ 1048576) (hL : 268435456 ≤ L) :
    ∃ b, f12 L N g w m = some b ∧ (b = true ↔ graphOk g = true ∧ w.all seenB = true ∧ m.length = 8 ∧ Fails g w m) := by
  have hlim := lim_eq
  have hge : Graph.mk g.moves = g := by cases g; rfl
  show ∃ b, f12.b' L N some g w m = some b ∧ _
  unfold f12.b'
  rw [hge, gok2_ok L N g (by omega) hg]
  simp only [Option.bind_some]
  cases hgk : graphOk g with
  | false => exact ⟨false, rfl, ⟨fun h => (by cases h), fun h => (by have := h.1; cases this)⟩⟩
  | true =>
    rw [cond_true, wordOk2_ok L N w (by omega) (by omega), Option.bind_some, dt hw, Bool.true_and]
    cases hs : w.all seenB with
    | false => exact ⟨false, rfl, ⟨fun h => (by cases h), fun h => (by have := h.2.1; cases this)⟩⟩
    | true =>
      have e1 : f33 L N m = some ((m.length : Int) == 8) := rfl
      rw [cond_true, e1, Option.bind_some]
      by_cases h8 : m.length = 8
      · have hb : ((m.length : Int) == 8) = true := by rw [beq_iff_eq]; omega
        obtain ⟨q, e, hq⟩ := behI L N g.moves w (leads_of hgk hg) (graphOk_mv hgk).1 (by omega) hL
        obtain ⟨q', x, h1, h2, s1, -, -, s4, -⟩ := behind_ok L N g.moves w (leads_of hgk hg) (graphOk_mv hgk).1 hw hL
        have hqq : q' = q := by rw [e] at h1; exact (Option.some.inj h1).symm
        subst hqq
        obtain ⟨b, b1, b2⟩ := failsS_ok L N g hgk hg (by omega) m h8 x s1
        rw [hge] at h2
        rw [hb, cond_true, h2, Option.bind_some, b1]
        refine ⟨b, rfl, b2.trans ⟨fun ⟨t, ht, h⟩ => ⟨(by trivial), (by trivial), h8, t, (hq.2.2.1 t).1 ((s4 t).2 ht), h⟩, fun ⟨_, _, _, t, ht, h⟩ => ⟨t, (s4 t).1 ((hq.2.2.1 t).2 ht), h⟩⟩⟩
      · have hb : ((m.length : Int) == 8) = false := by rw [beq_eq_false_iff_ne]; omega
        rw [hb, cond_false]
        exact ⟨false, rfl, ⟨fun h => (by cases h), fun h => absurd h.2.2.1 h8⟩⟩
end Go.Proofs.YtffkhhblppfbfaaGreat.Ev
namespace Go.Proofs.YtffkhhblppfbfaaGreat.Ev
open Go
set_option linter.unusedVariables false
set_option linter.unusedSimpArgs false
structure FoldOf (ms : List (List Move)) (q : List Int) (ls : List Nat) (fr : List (List Move)) : Prop where
  len : fr.length = ls.length
  lt : ∀ l ∈ ls, l < ms.length
  rep : ∀ l ∈ ls, q.getD l 0 = (l : Int)
  all : ∀ i, i < ms.length → q.getD i 0 = (i : Int) → i ∈ ls
  asc : ls.Pairwise (· < ·)
  rows : ∀ (j : Nat) (hj : j < fr.length) (m : Move), m ∈ fr[j] ↔ ∃ t j' : Nat, Mv ms (ls.getD j 0) m.act t ∧ j' < ls.length ∧ m.to = (j' : Int) ∧ q.getD t 0 = ((ls.getD j' 0 : Nat) : Int)
def FB (ms : List (List Move)) (q : List Int) (ls : List Nat) (i j : Nat) : Prop := i < ms.length ∧ j < ls.length ∧ q.getD i 0 = ((ls.getD j 0 : Nat) : Int)
theorem Mv.lt {ms : List (List Move)} (hm : Leads ms) {s t : Nat} {a : Int} (h : Mv ms s a t) : s < ms.length ∧ t < ms.length := by
  obtain ⟨hs, k, hk, -, ht⟩ := h
  have := (hm.2 s hs).2 k hk
  exact ⟨hs, by omega⟩
theorem alike_mv {ms : List (List Move)} (hm : Leads ms) {q : List Int} (hq : Fix (Akin ms) ms.length q) {i j t : Nat} {a : Int} (hi : i < ms.length) (hj : j < ms.length) (e : q.getD i 0 = q.getD j 0) (h : Mv ms i a t) : ∃ t', Mv ms j a t' ∧ q.getD t 0 = q.getD t' 0 := by
  obtain ⟨hs, k, hk, ha, ht⟩ := h
  obtain ⟨_, k', hk', a1, a2⟩ := (((hq.same (akinEq ms) hi hj).1 e).2 ⟨a, q.getD t 0⟩).2 ⟨hi, k, hk, ha.symm, by rw [ht, Int.toNat_natCast]⟩
  obtain ⟨t', ht', htl'⟩ := hm.nat hj hk'
  exact ⟨t', ⟨hj, k', hk', a1.symm, ht'⟩, by rw [ht', Int.toNat_natCast] at a2; exact a2⟩
theorem FoldOf.at {ms fr : List (List Move)} {q : List Int} {ls : List Nat} (h : FoldOf ms q ls fr) {j : Nat} (hj : j < ls.length) : ls.getD j 0 < ms.length ∧ q.getD (ls.getD j 0) 0 = ((ls.getD j 0 : Nat) : Int) := by
  rw [getD_lt hj]
  exact ⟨h.lt _ (List.getElem_mem hj), h.rep _ (List.getElem_mem hj)⟩
theorem FoldOf.find {ms fr : List (List Move)} {q : List Int} {ls : List Nat} (h : FoldOf ms q ls fr) (hq : Fix (Akin ms) ms.length q) {i : Nat} (hi : i < ms.length) : ∃ j, FB ms q ls i j := by
  obtain ⟨r, h1, h2, h3⟩ := hq.rep (akinEq ms) hi
  obtain ⟨j, hj, e⟩ := List.mem_iff_getElem.1 (h.all r (by omega) h3)
  exact ⟨j, hi, hj, by rw [getD_lt hj, e, h1]⟩
theorem FoldOf.zig {ms fr : List (List Move)} {q : List Int} {ls : List Nat} (hm : Leads ms) (hq : Fix (Akin ms) ms.length q) (h : FoldOf ms q ls fr) : Zig ms fr (FB ms q ls) := by
  intro i j hb a t hmv
  obtain ⟨hi, hj, e⟩ := hb
  obtain ⟨h1, h2⟩ := h.at hj
  obtain ⟨t', h3, h4⟩ := alike_mv hm hq hi h1 (e.trans h2.symm) hmv
  obtain ⟨j', h5, h6, h7⟩ := h.find hq (hmv.lt hm).2
  have hjr : j < fr.length := by rw [h.len]; exact hj
  obtain ⟨k, hk, ek⟩ := List.mem_iff_getElem.1 ((h.rows j hjr ⟨a, (j' : Int)⟩).2 ⟨t', j', h3, h6, rfl, h4.symm.trans h7⟩)
  exact ⟨j', ⟨hjr, k, hk, by rw [ek], by rw [ek]⟩, h5, h6, h7⟩
theorem FoldOf.zag {ms fr : List (List Move)} {q : List Int} {ls : List Nat} (hm : Leads ms) (hq : Fix (Akin ms) ms.length q) (h : FoldOf ms q ls fr) : Zig fr ms (fun j i => FB ms q ls i j) := by
  intro j i hb a k hmv
  obtain ⟨hi, hj, e⟩ := hb
  obtain ⟨h1, h2⟩ := h.at hj
  obtain ⟨hjr, n, hn, ha, hk⟩ := hmv
  obtain ⟨t, j', g1, g2, g3, g4⟩ := (h.rows j hjr _).1 (List.getElem_mem hn)
  rw [hk] at g3
  obtain rfl : k = j' := by omega
  rw [ha] at g1
  obtain ⟨t', h3, h4⟩ := alike_mv hm hq h1 hi (h2.trans e.symm) g1
  exact ⟨t', h3, (h3.lt hm).2, g2, h4.symm.trans g4⟩
theorem FoldOf.first {ms fr : List (List Move)} {q : List Int} {ls : List Nat} (hq : Fix (Akin ms) ms.length q) (h1 : 1 ≤ ms.length) (h : FoldOf ms q ls fr) : FB ms q ls 0 0 := by
  obtain ⟨r, e1, e2, e3⟩ := hq.rep (akinEq ms) (show 0 < ms.length by omega)
  obtain rfl : r = 0 := by omega
  obtain ⟨j, hj, e⟩ := List.mem_iff_getElem.1 (h.all 0 (by omega) e3)
  have hj0 : j = 0 := by
    rcases Nat.eq_zero_or_pos j with e0 | hpos
    · exact e0
    · have := List.pairwise_iff_getElem.1 h.asc 0 j (by omega) hj hpos
      omega
  subst hj0
  exact ⟨by omega, hj, by rw [getD_lt hj, e, e3]⟩
theorem fold_beh {ms fr : List (List Move)} {q : List Int} {ls : List Nat} (hm : Leads ms) (h1 : 1 ≤ ms.length) (hq : Fix (Akin ms) ms.length q) (h : FoldOf ms q ls fr) (w : List Int) :
    (∀ t, Beh ms (Slip ms (fun x => x = 0)) w t → ∃ j, Beh fr (Slip fr (fun x => x = 0)) w j ∧ FB ms q ls t j) ∧ (∀ j, Beh fr (Slip fr (fun x => x = 0)) w j → ∃ t, Beh ms (Slip ms (fun x => x = 0)) w t ∧ FB ms q ls t j) :=
  ⟨beh_zig (h.zig hm hq) fun s hs => slip_zig (h.zig hm hq) (fun s hs => by subst hs; exact ⟨0, rfl, h.first hq h1⟩) hs,
   beh_zig (h.zag hm hq) fun s hs => slip_zig (h.zag hm hq) (fun s hs => by subst hs; exact ⟨0, rfl, h.first hq h1⟩) hs⟩
end Go.Proofs.YtffkhhblppfbfaaGreat.Ev
namespace Go.Proofs.YtffkhhblppfbfaaGreat.Ev
open Go
set_option linter.unusedVariables false
set_option linter.unusedSimpArgs false
theorem index_ok (L N : Nat) (s : List Int) (v : Int) (hv : v ∈ s) (hL : s.length < L) (hl : s.length ≤ 1048576) : ∃ j : Nat, f24 L N s v = some (j : Int) ∧ ∃ h : j < s.length, s[j] = v := by
  show ∃ j : Nat, f24.b L N some s v = some (j : Int) ∧ _
  unfold f24.b f24.b'
  have key : ∀ (n i : Nat), i ≤ s.length → s.length - i < n → (∀ j (h : j < s.length), j < i → s[j] ≠ v) → ∃ j : Nat, f24.l0 L N (f24.p0_e0 L N some) (fun z4 => f24.p0_r L N some z4) n s v (s.length : Int) (i : Int) = some (j : Int) ∧ ∃ h : j < s.length, s[j] = v := by
    intro n
    induction n with
    | zero => intro i _ h; omega
    | succ n ih =>
      intro i hi hn hne
      show ∃ j : Nat, f24.s0 L N _ _ (f24.l0 L N _ _ n) s v (s.length : Int) (i : Int) = some (j : Int) ∧ _
      unfold f24.s0 f24.s0'
      by_cases hlt : i < s.length
      · simp only [lt_cast hlt, le0, Bool.and_true, cond_true, Int.toNat_natCast, at_lt hlt]
        cases hb : (v == s[i]) with
        | true => rw [cond_true]; exact ⟨i, rfl, hlt, (eq_of_beq hb).symm⟩
        | false =>
          rw [cond_false, wi_nat (by omega)]
          refine ih (i + 1) (by omega) (by omega) fun j h hj e => ?_
          by_cases h' : j < i
          · exact hne j h h' e
          · obtain rfl : j = i := by omega
            rw [e, beq_self_eq_true] at hb; cases hb
      · obtain ⟨j, hj, e⟩ := List.mem_iff_getElem.1 hv
        exact absurd e (hne j hj (by omega))
  exact key L 0 (by omega) (by omega) fun j _ h => by omega
def leastTo (q : List Int) (i : Nat) : List Nat := (List.range i).filter fun j => q.getD j 0 == (j : Int)
theorem leastTo_succ (q : List Int) (i : Nat) : leastTo q (i + 1) = leastTo q i ++ (if (q.getD i 0 == (i : Int)) = true then [i] else []) := by
  unfold leastTo
  rw [List.range_succ, List.filter_append, List.filter_cons, List.filter_nil]
theorem leastTo_len (q : List Int) (i : Nat) : (leastTo q i).length ≤ i := by
  unfold leastTo
  exact Nat.le_trans (List.length_filter_le _ _) (by simp)
def intsL (l : List Nat) : List Int := l.map fun j : Nat => (j : Int)
theorem intsL_len (l : List Nat) : (intsL l).length = l.length := by simp [intsL]
theorem intsL_at (l : List Nat) {j : Nat} (h : j < (intsL l).length) (h' : j < l.length) : (intsL l)[j] = (l[j] : Int) := by simp [intsL]
theorem fold1 (L N : Nat) (ms : List (List Move)) (hm : Leads ms) {q : List Int} (hq : q.length = ms.length) (ls : List Nat) (hls : ls.length ≤ 60) (J : Int → Int) (hlt : ∀ l ∈ ls, l < ms.length)
    (hJ : ∀ l ∈ ls, ∀ m ∈ ms.getD l [], f24 L N (intsL ls) (q.getD m.to.toNat 0) = some (J (q.getD m.to.toNat 0))) (hL : 1048576 < L) :
    f9.p0_e0 L N (fun a0 a1 => some (a0, a1)) ms q (intsL ls) = some (Graph.mk (ls.map fun l => tidyM ((ms.getD l []).map fun m => Move.mk m.act (J (q.getD m.to.toNat 0)))), true) := by
  have hlim := lim_eq
  have hn := hm.1
  unfold f9.p0_e0 f9.p0_e0'
  have hil := intsL_len ls
  have key : ∀ (n k : Nat), k ≤ ls.length → ls.length - k < n → f9.l1 L N (fun z21 => f9.p1_e2 L N (fun a0 a1 => some (a0, a1)) z21) n ((intsL ls).length : Int) (k : Int) ms q (intsL ls) ((ls.take k).map fun l => tidyM ((ms.getD l []).map fun m => Move.mk m.act (J (q.getD m.to.toNat 0)))) = some (Graph.mk (ls.map fun l => tidyM ((ms.getD l []).map fun m => Move.mk m.act (J (q.getD m.to.toNat 0)))), true) := by
    intro n
    induction n with
    | zero => intro k _ h; omega
    | succ n ih =>
      intro k hk hn'
      show f9.s1 L N _ (f9.l1 L N _ n) ((intsL ls).length : Int) (k : Int) ms q (intsL ls) _ = _
      unfold f9.s1 f9.s1'
      by_cases hkl : k < ls.length
      · have hki : k < (intsL ls).length := by omega
        have hl := hlt _ (List.getElem_mem hkl)
        simp only [lt_cast hki, le0, Bool.and_true, cond_true, Int.toNat_natCast, at_lt hki, intsL_at ls hki hkl, lt_cast hl, at_lt hl]
        have hrow := (hm.2 _ hl).1
        have row : ∀ (n' j : Nat), j ≤ (ms[ls[k]]).length → (ms[ls[k]]).length - j < n' → f9.l2 L N (fun z32 z33 z34 z35 z36 z37 z38 => f9.p2_e4 L N (fun z21 => f9.p1_e2 L N (fun a0 a1 => some (a0, a1)) z21) (f9.l1 L N (fun z21 => f9.p1_e2 L N (fun a0 a1 => some (a0, a1)) z21) n) z32 z33 z34 z35 z36 z37 z38) n' ((intsL ls).length : Int) (k : Int) ms[ls[k]] ((ms[ls[k]]).length : Int) (j : Int) ms q (intsL ls) (((ms[ls[k]]).take j).map fun m => Move.mk m.act (J (q.getD m.to.toNat 0))) ((ls.take k).map fun l => tidyM ((ms.getD l []).map fun m => Move.mk m.act (J (q.getD m.to.toNat 0))))
            = some (Graph.mk (ls.map fun l => tidyM ((ms.getD l []).map fun m => Move.mk m.act (J (q.getD m.to.toNat 0)))), true) := by
          intro n'
          induction n' with
          | zero => intro j _ h; omega
          | succ n' ih2 =>
            intro j hj hn''
            show f9.s2 L N _ (f9.l2 L N _ n') ((intsL ls).length : Int) (k : Int) ms[ls[k]] ((ms[ls[k]]).length : Int) (j : Int) ms q (intsL ls) _ _ = _
            unfold f9.s2 f9.s2'
            by_cases hjl : j < (ms[ls[k]]).length
            · obtain ⟨t, ht, htl⟩ := hm.nat hl hjl
              have htq : t < q.length := by omega
              have hi := hJ _ (List.getElem_mem hkl) ((ms[ls[k]])[j]) (by rw [getD_lt hl]; exact List.getElem_mem hjl)
              rw [ht, Int.toNat_natCast] at hi
              have hle : decide (((((ms[ls[k]]).take j).map fun m => Move.mk m.act (J (q.getD m.to.toNat 0))).length + ([(Move.mk ((ms[ls[k]])[j]).act (J (q.getD t 0)))] : List Move).length) ≤ lim) = true := dt (by simp only [List.length_map, List.length_take, List.length_cons, List.length_nil]; omega)
              simp only [lt_cast hjl, le0, Bool.and_true, cond_true, Int.toNat_natCast, at_lt hjl, ht, lt_cast htq, atD, hi, Option.bind_some, hle]
              have e : (((ms[ls[k]]).take j).map fun m => Move.mk m.act (J (q.getD m.to.toNat 0))) ++ [Move.mk ((ms[ls[k]])[j]).act (J (q.getD t 0))] = ((ms[ls[k]]).take (j + 1)).map fun m => Move.mk m.act (J (q.getD m.to.toNat 0)) := by
                rw [List.take_succ_eq_append_getElem hjl, List.map_append, List.map_cons, List.map_nil, ht, Int.toNat_natCast]
              rw [e, wi_nat (by omega)]
              exact ih2 (j + 1) (by omega) (by omega)
            · rw [ge_cast hjl, cond_false, List.take_of_length_le (by omega)]
              show f9.p2_e4' L N _ _ _ _ _ _ _ _ _ = _
              unfold f9.p2_e4'
              have hle : decide (((ls.take k).map fun l => tidyM ((ms.getD l []).map fun m => Move.mk m.act (J (q.getD m.to.toNat 0)))).length + ([tidyM ((ms[ls[k]]).map fun m => Move.mk m.act (J (q.getD m.to.toNat 0)))] : List (List Move)).length ≤ lim) = true := dt (by simp only [List.length_map, List.length_take, List.length_cons, List.length_nil]; omega)
              rw [fsortM_some (by rw [List.length_map]; omega), Option.bind_some, hle, cond_true, wi_nat (by omega)]
              have e : ((ls.take k).map fun l => tidyM ((ms.getD l []).map fun m => Move.mk m.act (J (q.getD m.to.toNat 0)))) ++ [tidyM ((ms[ls[k]]).map fun m => Move.mk m.act (J (q.getD m.to.toNat 0)))] = (ls.take (k + 1)).map fun l => tidyM ((ms.getD l []).map fun m => Move.mk m.act (J (q.getD m.to.toNat 0))) := by
                rw [List.take_succ_eq_append_getElem hkl, List.map_append, List.map_cons, List.map_nil, getD_lt hl]
              rw [e]
              exact ih (k + 1) (by omega) (by omega)
        exact row L 0 (by omega) (by omega)
      · have hki : ¬ k < (intsL ls).length := by omega
        rw [ge_cast hki, cond_false, List.take_of_length_le (by omega)]
        rfl
  exact key L 0 (by omega) (by omega)
theorem graphFold_ok (L N : Nat) (g : Graph) (hg : g.moves.length + gsize g.moves ≤ 1048576) (hL : 8589934592 ≤ L) :
    ∃ fr, f9 L N g = some (⟨fr⟩, graphOk g) ∧ (graphOk g = true → ∃ pre q, Chain (Akin g.moves) g.moves.length pre q ∧ Fix (Akin g.moves) g.moves.length q ∧ f23 L N g = some q ∧ FoldOf g.moves q (leastTo q g.moves.length) fr ∧ graphOk ⟨fr⟩ = true ∧ fr.length + gsize fr ≤ 1048576) := by
  have hge : Graph.mk g.moves = g := by cases g; rfl
  have hlim := lim_eq
  have h1 := gok1_ok L N g (by omega) hg
  show ∃ fr, f9.b L N (fun a0 a1 => some (a0, a1)) g = _ ∧ _
  unfold f9.b f9.b'
  rw [hge, h1, Option.bind_some]
  cases hok : graphOk g with
  | false => exact ⟨[], rfl, fun h => by cases h⟩
  | true =>
    have hm := leads_of hok hg
    have hn := hm.1
    obtain ⟨hn1, -, hmv⟩ := graphOk_mv hok
    obtain ⟨pre, q, c3, c5, c6, c7⟩ := chainI L N g.moves hm hL
    have hql := c7.1
    have c4 := classesI L N g.moves c3 c5 (by omega)
    rw [hge] at c4
    rw [Bool.not_true, cond_false, c4, Option.bind_some]
  
    have hll := leastTo_len q g.moves.length
    have hmem : ∀ l, l ∈ leastTo q g.moves.length ↔ l < g.moves.length ∧ q.getD l 0 = (l : Int) := fun l => by
      unfold leastTo
      rw [List.mem_filter, List.mem_range, beq_iff_eq]
    have key : ∀ (n i : Nat), i ≤ q.length → q.length - i < n → f9.l0 L N (fun z7 z8 z9 => f9.p0_e0 L N (fun a0 a1 => some (a0, a1)) z7 z8 z9) n (q.length : Int) (i : Int) g.moves q (intsL (leastTo q i))
        = f9.p0_e0 L N (fun a0 a1 => some (a0, a1)) g.moves q (intsL (leastTo q g.moves.length)) := by
      intro n
      induction n with
      | zero => intro i _ h; omega
      | succ n ih =>
        intro i hi hn'
        show f9.s0 L N _ (f9.l0 L N _ n) (q.length : Int) (i : Int) g.moves q _ = _
        unfold f9.s0 f9.s0'
        by_cases hlt : i < q.length
        · have hil := leastTo_len q i
          have hle : decide ((intsL (leastTo q i)).length + ([(i : Int)] : List Int).length ≤ lim) = true := dt (by rw [intsL_len]; simp only [List.length_cons, List.length_nil]; omega)
          have hs := leastTo_succ q i
          simp only [lt_cast hlt, le0, Bool.and_true, cond_true, Int.toNat_natCast, atD, hle, wi_nat (show i < 9223372036854775807 by omega)]
          cases hb : ((i : Int) == q.getD i 0) with
          | true =>
            have hb' : (q.getD i 0 == (i : Int)) = true := by rw [beq_iff_eq] at hb ⊢; exact hb.symm
            rw [if_pos hb'] at hs
            have e : intsL (leastTo q i) ++ [(i : Int)] = intsL (leastTo q (i + 1)) := by rw [hs]; simp [intsL]
            rw [cond_true, e]
            exact ih (i + 1) (by omega) (by omega)
          | false =>
            have hb' : ¬ (q.getD i 0 == (i : Int)) = true := by
              rw [beq_eq_false_iff_ne] at hb
              rw [beq_iff_eq]; exact fun h => hb h.symm
            rw [if_neg hb', List.append_nil] at hs
            rw [cond_false, ← hs]
            exact ih (i + 1) (by omega) (by omega)
        · rw [ge_cast hlt, cond_false]
          have : i = g.moves.length := by omega
          rw [this]
    have h0 : intsL (leastTo q 0) = [] := rfl
    have hJ0 : ∀ t, t < g.moves.length → ∃ j' : Nat, f24 L N (intsL (leastTo q g.moves.length)) (q.getD t 0) = some (j' : Int) ∧ ∃ h : j' < (leastTo q g.moves.length).length, (((leastTo q g.moves.length)[j'] : Nat) : Int) = q.getD t 0 := fun t ht => by
      obtain ⟨r, r1, r2, r3⟩ := c7.rep (akinEq g.moves) ht
      have hr : (r : Int) ∈ intsL (leastTo q g.moves.length) := List.mem_map.2 ⟨r, (hmem r).2 ⟨by omega, r3⟩, rfl⟩
      obtain ⟨j, j1, j2, j3⟩ := index_ok L N (intsL (leastTo q g.moves.length)) (q.getD t 0) (by rw [r1]; exact hr) (by rw [intsL_len]; omega) (by rw [intsL_len]; omega)
      have j2' : j < (leastTo q g.moves.length).length := by rw [intsL_len] at j2; exact j2
      refine ⟨j, j1, j2', ?_⟩
      rw [← intsL_at _ j2 j2']; exact j3
    refine ⟨_, ((key L 0 (by omega) (by omega)).symm ▸ ?_ : f9.l0 L N (fun z7 z8 z9 => f9.p0_e0 L N (fun a0 a1 => some (a0, a1)) z7 z8 z9) L (q.length : Int) (0 : Nat) g.moves q (intsL (leastTo q 0)) = some (Graph.mk ((leastTo q g.moves.length).map fun l => tidyM ((g.moves.getD l []).map fun m => Move.mk m.act ((fun v => (f24 L N (intsL (leastTo q g.moves.length)) v).getD 0) (q.getD m.to.toNat 0)))), true)), fun _ => ?_⟩
    · refine fold1 L N g.moves hm hql _ (by omega) (fun v => (f24 L N (intsL (leastTo q g.moves.length)) v).getD 0) (fun l hl => ((hmem l).1 hl).1) (fun l hl m hmm => ?_) (by omega)
      have hlt := ((hmem l).1 hl).1
      rw [getD_lt hlt] at hmm
      obtain ⟨k, hk, rfl⟩ := List.mem_iff_getElem.1 hmm
      obtain ⟨t, ht, htl⟩ := hm.nat hlt hk
      obtain ⟨j', j1, -⟩ := hJ0 t htl
      rw [ht, Int.toNat_natCast, j1]; rfl
    · have hasc : (leastTo q g.moves.length).Pairwise (· < ·) := List.Pairwise.filter _ List.pairwise_lt_range
      have hF : FoldOf g.moves q (leastTo q g.moves.length) ((leastTo q g.moves.length).map fun l => tidyM ((g.moves.getD l []).map fun m => Move.mk m.act ((fun v => (f24 L N (intsL (leastTo q g.moves.length)) v).getD 0) (q.getD m.to.toNat 0)))) := by
        refine ⟨by rw [List.length_map], fun l hl => ((hmem l).1 hl).1, fun l hl => ((hmem l).1 hl).2, fun i hi e => (hmem i).2 ⟨hi, e⟩, hasc, fun j hj m => ?_⟩
        have hj' : j < (leastTo q g.moves.length).length := by rw [List.length_map] at hj; exact hj
        have hlt := ((hmem _).1 (List.getElem_mem hj')).1
        rw [List.getElem_map, tidyM_mem, List.mem_map, getD_lt hlt, getD_lt hj']
        constructor
        · rintro ⟨x, hx, rfl⟩
          obtain ⟨k, hk, rfl⟩ := List.mem_iff_getElem.1 hx
          obtain ⟨t, ht, htl⟩ := hm.nat hlt hk
          obtain ⟨j2, j1, j3, j4⟩ := hJ0 t htl
          refine ⟨t, j2, ⟨hlt, k, hk, rfl, ht⟩, j3, ?_, ?_⟩
          · simp only [ht, Int.toNat_natCast, j1]; rfl
          · rw [getD_lt j3, j4]
        · rintro ⟨t, j2, ⟨_, k, hk, ha, ht⟩, j3, e1, e2⟩
          refine ⟨_, List.getElem_mem hk, ?_⟩
          have htl : t < g.moves.length := by have := (hm.2 _ hlt).2 k hk; omega
          obtain ⟨j5, j1, j6, j7⟩ := hJ0 t htl
          rw [getD_lt j3] at e2
          have ej : j5 = j2 := by
            have h1 : (leastTo q g.moves.length)[j5] = (leastTo q g.moves.length)[j2] := by omega
            rcases Nat.lt_trichotomy j5 j2 with h | h | h
            · have := List.pairwise_iff_getElem.1 hasc j5 j2 j6 j3 h; omega
            · exact h
            · have := List.pairwise_iff_getElem.1 hasc j2 j5 j3 j6 h; omega
          simp only [ht, Int.toNat_natCast, j1, Option.getD_some]
          rw [← mv_eta m, ha, e1, ej]
      have hfl := hF.len
      have hto : ∀ (j : Nat) (hj : j < ((leastTo q g.moves.length).map fun l => tidyM ((g.moves.getD l []).map fun m => Move.mk m.act ((fun v => (f24 L N (intsL (leastTo q g.moves.length)) v).getD 0) (q.getD m.to.toNat 0)))).length), ∀ m ∈ ((leastTo q g.moves.length).map fun l => tidyM ((g.moves.getD l []).map fun m => Move.mk m.act ((fun v => (f24 L N (intsL (leastTo q g.moves.length)) v).getD 0) (q.getD m.to.toNat 0))))[j], -4 ≤ m.act ∧ m.act ≤ 4 ∧ 0 ≤ m.to ∧ m.to < ((leastTo q g.moves.length).length : Int) := fun j hj m hmm => by
        obtain ⟨t, j', ⟨hs, k, hk, ha, ht⟩, h2, h3, -⟩ := (hF.rows j hj m).1 hmm
        have := hmv _ hs k hk
        omega
      have hris : ∀ (j : Nat) (hj : j < ((leastTo q g.moves.length).map fun l => tidyM ((g.moves.getD l []).map fun m => Move.mk m.act ((fun v => (f24 L N (intsL (leastTo q g.moves.length)) v).getD 0) (q.getD m.to.toNat 0)))).length), RisesM ((leastTo q g.moves.length).map fun l => tidyM ((g.moves.getD l []).map fun m => Move.mk m.act ((fun v => (f24 L N (intsL (leastTo q g.moves.length)) v).getD 0) (q.getD m.to.toNat 0))))[j] := fun j hj => by
        rw [List.getElem_map]; exact tidyM_rises _
      have hfirst := hF.first c7 hn1
      refine ⟨pre, q, c6, c7, rfl, hF, graphOk_mk (by have := hfirst.2.1; omega) (by omega) fun i hi => ⟨hris i hi, fun m hmm => ?_⟩, ?_⟩
      · have := hto i hi m hmm
        unfold mvOk
        rw [dt (by omega), dt (by omega)]; rfl
      · have hrow : ∀ r ∈ ((leastTo q g.moves.length).map fun l => tidyM ((g.moves.getD l []).map fun m => Move.mk m.act ((fun v => (f24 L N (intsL (leastTo q g.moves.length)) v).getD 0) (q.getD m.to.toNat 0)))), r.length ≤ 540 := fun r hr => by
          obtain ⟨j, hj, rfl⟩ := List.mem_iff_getElem.1 hr
          exact risesM_len (hris j hj) fun m hmm => by have := hto j hj m hmm; omega
        have := gsize_le hrow
        omega
end Go.Proofs.YtffkhhblppfbfaaGreat.Ev
namespace Go.Proofs.YtffkhhblppfbfaaGreat.Ev
open Go
set_option linter.unusedVariables false
set_option linter.unusedSimpArgs false
theorem refR_acts {row row' : List Move} {m : List Bool} (h : ∀ x ∈ row', ∃ y ∈ row, y.act = x.act) (hr : refR row m = true) : refR row' m = true := by
  rw [refR_iff] at hr ⊢
  refine ⟨fun x hx => ?_, fun x hx => ?_⟩
  · obtain ⟨y, hy, e⟩ := h x hx
    rw [← e]; exact hr.1 y hy
  · obtain ⟨y, hy, e⟩ := h x hx
    rw [← e]; exact hr.2 y hy
theorem zig_acts {ms ms' : List (List Move)} {B : Nat → Nat → Prop} (hm : Leads ms) (hz : Zig ms ms' B) {s s' : Nat} (hb : B s s') (hs : s < ms.length) (hs' : s' < ms'.length) : ∀ x ∈ ms[s], ∃ y ∈ ms'[s'], y.act = x.act := fun x hx => by
  obtain ⟨k, hk, rfl⟩ := List.mem_iff_getElem.1 hx
  obtain ⟨t, ht, -⟩ := hm.nat hs hk
  obtain ⟨t', ⟨_, k', hk', ha, -⟩, -⟩ := hz s s' hb _ t ⟨hs, k, hk, rfl, ht⟩
  exact ⟨_, List.getElem_mem hk', ha⟩
theorem fails_fold {g : Graph} (hg : g.moves.length + gsize g.moves ≤ 1048576) {fr : List (List Move)} {q : List Int} {ls : List Nat} (hok : graphOk g = true) (hq : Fix (Akin g.moves) g.moves.length q) (h : FoldOf g.moves q ls fr) (hfr : graphOk ⟨fr⟩ = true) (hfs : fr.length + gsize fr ≤ 1048576) (w : List Int) (m : List Bool) : Fails ⟨fr⟩ w m ↔ Fails g w m := by
  have hm := leads_of hok hg
  have hmf : Leads fr := leads_of (g := ⟨fr⟩) hfr hfs
  obtain ⟨h1, h2⟩ := fold_beh hm (graphOk_mv hok).1 hq h w
  constructor
  · rintro ⟨j, hj, hjl, hr⟩
    obtain ⟨t, ht, hb⟩ := h2 j hj
    exact ⟨t, ht, hb.1, refR_acts (zig_acts hm (h.zig hm hq) hb hb.1 hjl) hr⟩
  · rintro ⟨t, ht, htl, hr⟩
    obtain ⟨j, hj, hb⟩ := h1 t ht
    have hjl : j < fr.length := by rw [h.len]; exact hb.2.1
    exact ⟨j, hj, hjl, refR_acts (zig_acts hmf (h.zag hm hq) hb hjl htl) hr⟩
theorem lawFailDoes (x0 : List Int) (hx0 : DatOk (.sl (.int .u8)) x0) : ∃ L N, f4 L N x0 = some true := by
  generalize hLL : 8589934592 = L
  refine ⟨L, 1000, ?_⟩
  have hlim := lim_eq
  obtain ⟨c, o1, o2⟩ := open_ok L 1000 hx0
  obtain ⟨g, p', d1, dp0, dp1, d2⟩ := graph_draw L 1000 (by omega) (by omega) o2 (p := 0) (by omega) (by omega)
  obtain ⟨w, p2, w1, w2, w3, w4⟩ := word_draw L 1000 (by omega) o2 (p := p') (by omega) (by omega) g d2
  obtain ⟨m, p3, m1, m2, -, -⟩ := menu_draw L 1000 (by omega) o2 (p := p2) (by omega) (by omega)
  have hge : ∀ g : Graph, Graph.mk g.moves = g := fun g => by cases g; rfl
  have hd : f10 L 1000 x0 = some (g, w, m) := by
    show f10.b' L 1000 (fun a0 a1 a2 => some (a0, a1, a2)) x0 = _
    unfold f10.b'
    rw [o1]
    simp only [Option.bind_some, d1, hge, w1, m1]
  have hsz := d2.size
  obtain ⟨b, e1, e2⟩ := failDoesI L 1000 g w m hsz (by omega) (by omega) (by omega)
  obtain ⟨b', e3, e4⟩ := failDoesS L 1000 g w m hsz (by omega) (by omega) (by omega)
  have hb : b' = b := by rw [Bool.eq_iff_iff, e2, e4]
  subst hb
  obtain ⟨fr, f1, f2⟩ := graphFold_ok L 1000 g hsz (by omega)
  show f4.b' L 1000 some x0 = _
  unfold f4.b'
  by_cases hl : (x0.length : Int) > 1048576
  · rw [dt hl, cond_true]
  · rw [df hl, cond_false, hd]
    simp only [Option.bind_some, hge, e1, e3, beq_self_eq_true, Bool.not_true, cond_false, f1]
    have hfold : graphOk g = true → f11 L 1000 ⟨fr⟩ w m = some b' := fun hok => by
      obtain ⟨pre, q, -, j2, -, j4, j5, j6⟩ := f2 hok
      obtain ⟨bf, k1, k2⟩ := failDoesI L 1000 ⟨fr⟩ w m j6 (by omega) (by omega) (by omega)
      have : bf = b' := by
        rw [Bool.eq_iff_iff, k2, e2, fails_fold hsz hok j2 j4 j5 j6]
        exact ⟨fun h => ⟨hok, h.2⟩, fun h => ⟨j5, h.2⟩⟩
      rw [k1, this]
    cases hb : b' with
    | false =>
      rw [hb] at hfold
      rw [Bool.not_false, cond_true]
      cases hok : graphOk g with
      | false => rfl
      | true => rw [Bool.not_true, cond_false, hfold hok]; rfl
    | true =>
      rw [hb] at hfold e2
      obtain ⟨h1, h2, h3, t, h4, h5, h6⟩ := e2.1 rfl
      obtain ⟨bt, k1, k2⟩ := traceDoesI L 1000 g w hsz (by omega) (by omega)
      have hbt : bt = true := k2.2 ⟨h1, by unfold wordB; rw [dt (by omega), h2]; rfl, t, h4⟩
      obtain ⟨be, k3, k4⟩ := failDoesI L 1000 g w (List.replicate 8 false) hsz (by omega) (by simp) (by omega)
      have hbe : be = true := k4.2 ⟨h1, h2, by simp, t, h4, h5, refR_less h6 fun k _ => by
        rw [List.getD_eq_getElem?_getD, List.getElem?_replicate]; split <;> rfl⟩
      have h8 : decide ((8 : Int) ≤ (lim : Int)) = true := dt (by omega)
      have h08 : decide ((0 : Int) ≤ 8) = true := by decide
      have t8 : (8 : Int).toNat = 8 := rfl
      simp only [Bool.not_true, cond_false, k1, hbt, Option.bind_some, cond_true, h08, h8, Bool.and_true, t8, k3, hbe]
      rw [h1, Bool.not_true, cond_false, hfold h1]; rfl
end Go.Proofs.YtffkhhblppfbfaaGreat.Ev
