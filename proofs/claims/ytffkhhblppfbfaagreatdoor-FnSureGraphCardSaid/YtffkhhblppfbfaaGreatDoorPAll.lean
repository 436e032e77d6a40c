/- Plain laws, in one text. -/
import Derived.Test.YtffkhhblppfbfaaGreatDoorGS4b
import Derived.Test.YtffkhhblppfbfaaGreatDoorEvZ
import Derived.Test.YtffkhhblppfbfaaGreatDoorEvSort
import Derived.Lib.ItoaNum
import Derived.Test.YtffkhhblppfbfaaGreatDoorPAll0
namespace Go.Proofs.YtffkhhblppfbfaaGreatDoor.Ev
open Go
set_option linter.unusedVariables false
set_option linter.unusedSimpArgs false
theorem first8_ok (L N : Nat) (ms : List (List Move)) (hm : Leads ms) (h1 : 1 ≤ ms.length) (hL : 1048576 < L) : ∃ b, f59 L N ⟨ms⟩ = some b ∧ b.length = ms.length ∧ ∀ t, Tr b t ↔ Slip ms (fun x => x = 0) t := by
  have hlim := lim_eq
  have hn := hm.1
  obtain ⟨b0, c1, c2, c3⟩ := slip2_ok L N ms ((List.replicate ms.length false).set 0 true) hm (by simp) (by omega)
  refine ⟨b0, ?_, c2, fun t => (c3 t).trans (Slip.iff (fun t => ?_) t)⟩
  · show f59.b L N some ⟨ms⟩ = _
    unfold f59.b f59.b'
    refine (bif_t2 (by omega) (by show (ms.length : Int) ≤ _; omega)).trans ?_
    refine (bif_t2 (by omega) (by simp only [List.length_replicate]; show (0 : Int) < ((ms.length : Int).toNat : Int); omega)).trans ?_
    show ((f89 L N ⟨ms⟩ ((List.replicate ms.length false).set 0 true)).bind fun y => some y) = _
    rw [c1]; rfl
  · rw [Tr_set (by simp; omega)]
    exact ⟨fun h => h.resolve_right (Tr_replicate _ _), .inl⟩
def GoodRows (L N : Nat) (ms : List (List Move)) (S : List (List Int)) (rows : List (List Move)) : Prop :=
  ∀ (j : Nat) (hj : j < rows.length), ∃ ac : List Int, Rises ac ∧ (∀ a, a ∈ ac ↔ a ≠ 0 ∧ aftA L N ms (S.getD j []) a ≠ []) ∧ (∀ a ∈ ac, -4 ≤ a ∧ a ≤ 4) ∧ (∀ a ∈ ac, aftA L N ms (S.getD j []) a ∈ S) ∧ rows[j] = ac.map fun a => ⟨a, ((S.idxOf (aftA L N ms (S.getD j []) a) : Nat) : Int)⟩
theorem GoodRows.grow {L N : Nat} {ms : List (List Move)} {S T : List (List Int)} {rows : List (List Move)} (h : GoodRows L N ms S rows) (hl : rows.length ≤ S.length) : GoodRows L N ms (S ++ T) rows := fun j hj => by
  obtain ⟨ac, h1, h2, h3, h4, h5⟩ := h j hj
  have e : (S ++ T).getD j [] = S.getD j [] := by
    rw [List.getD_eq_getElem?_getD, List.getD_eq_getElem?_getD, List.getElem?_append_left (by omega)]
  rw [← e] at h2 h4 h5
  refine ⟨ac, h1, h2, h3, fun a ha => List.mem_append_left _ (h4 a ha), ?_⟩
  rw [h5]
  exact List.map_congr_left fun a ha => by rw [idx_pre (h4 a ha)]
theorem sure_loop (L N : Nat) (ms : List (List Move)) (hm : Leads ms) (hact : ∀ (i : Nat) (hi : i < ms.length), ∀ m ∈ ms[i], -4 ≤ m.act ∧ m.act ≤ 4) (hL : 8589934592 ≤ L) :
    ∀ (d k : Nat) (S : List (List Int)) (es : List (ByteArray × Int)) (sets : List (List Bool)) (rows : List (List Move)), S.length ≤ 60 → 61 ≤ k + d → k ≤ S.length → Places S es → (∀ x ∈ S, Fits ms x) → sets.map listB = S → (∀ s ∈ sets, s.length = ms.length) → rows.length = k → (∀ r ∈ rows, r.length ≤ 540) → GoodRows L N ms S rows → (∀ x ∈ S, x ≠ []) →
      ∀ n1 n2, d ≤ n1 → d ≤ n2 → ∃ (res : List (List Move)) (ok : Bool),
        f49_1.l0 L N (fun z7 z8 => f49_1.p0_e0 L N (fun a0 a1 => some (a0, a1)) z7 z8) (fun z10 z11 z12 => f49_1.p0_r L N (fun a0 a1 => some (a0, a1)) z10 z11 z12) n1 ms (k : Int) S es [] rows = some (res, ok) ∧
        f23.l0 L N (fun z6 => f23.p0_e0 L N (fun a0 a1 => some (a0, a1)) z6) (fun z55 z56 => f23.p0_r L N (fun a0 a1 => some (a0, a1)) z55 z56) n2 (k : Int) ms sets rows = some (⟨res⟩, ok) ∧
        res.length ≤ 60 ∧ (∀ r ∈ res, r.length ≤ 540) ∧ (ok = true → ∃ T, res.length = (S ++ T).length ∧ GoodRows L N ms (S ++ T) res ∧ (∀ x ∈ S ++ T, Fits ms x) ∧ ∀ x ∈ S ++ T, x ≠ []) := by
  have hlim := lim_eq
  intro d
  induction d with
  | zero => intro k S es sets rows hS hd hk; omega
  | succ d ih =>
    intro k S es sets rows hS hd hk hp hfit hsets hsl hrl hr540 hgood hsne n1 n2 hn1 hn2
    obtain ⟨n1, rfl⟩ : ∃ n', n1 = n' + 1 := ⟨n1 - 1, by omega⟩
    obtain ⟨n2, rfl⟩ : ∃ n', n2 = n' + 1 := ⟨n2 - 1, by omega⟩
    have hsl2 : sets.length = S.length := by rw [← hsets, List.length_map]
    show ∃ res ok, f49_1.s0 L N (fun z7 z8 => f49_1.p0_e0 L N (fun a0 a1 => some (a0, a1)) z7 z8) (fun z10 z11 z12 => f49_1.p0_r L N (fun a0 a1 => some (a0, a1)) z10 z11 z12) (f49_1.l0 L N (fun z7 z8 => f49_1.p0_e0 L N (fun a0 a1 => some (a0, a1)) z7 z8) (fun z10 z11 z12 => f49_1.p0_r L N (fun a0 a1 => some (a0, a1)) z10 z11 z12) n1) ms (k : Int) S es [] rows = some (res, ok) ∧
        f23.s0 L N (fun z6 => f23.p0_e0 L N (fun a0 a1 => some (a0, a1)) z6) (fun z55 z56 => f23.p0_r L N (fun a0 a1 => some (a0, a1)) z55 z56) (f23.l0 L N (fun z6 => f23.p0_e0 L N (fun a0 a1 => some (a0, a1)) z6) (fun z55 z56 => f23.p0_r L N (fun a0 a1 => some (a0, a1)) z55 z56) n2) (k : Int) ms sets rows = some (⟨res⟩, ok) ∧ _
    unfold f49_1.s0 f49_1.s0' f23.s0 f23.s0'
    by_cases hlt : k < S.length
    · have hlt2 : k < sets.length := by omega
      have hq := hfit _ (List.getElem_mem hlt)
      obtain ⟨ac, m1, m2, m3, m4, m5⟩ := moves1_ok L N ms hm hact hL S[k] hq
      have hv : ∀ a, (aftA L N ms S[k] a).length ≤ 60 ∧ ∀ v ∈ aftA L N ms S[k] a, 0 ≤ v ∧ v < 60 := fun a => Fits.key hm (aftA_ok L N ms hm hL S[k] hq a).2.fits
      simp only [lt_cast hlt, lt_cast hlt2, le0, Bool.and_true, cond_true, Int.toNat_natCast, at_lt hlt, m1, Option.bind_some, Bool.not_true, cond_false]
      have hI := inI L N ms hm hL (fun z24 z25 z26 z27 z28 z29 z30 => f49_1.p1_e2 L N (fun z7 z8 => f49_1.p0_e0 L N (fun a0 a1 => some (a0, a1)) z7 z8) (fun z10 z11 z12 => f49_1.p0_r L N (fun a0 a1 => some (a0, a1)) z10 z11 z12) (f49_1.l0 L N (fun z7 z8 => f49_1.p0_e0 L N (fun a0 a1 => some (a0, a1)) z7 z8) (fun z10 z11 z12 => f49_1.p0_r L N (fun a0 a1 => some (a0, a1)) z10 z11 z12) n1) z24 z25 z26 z27 z28 z29 z30) (fun z32 z33 z34 z35 z36 z37 z38 z39 => f49_1.p1_r L N (fun z7 z8 => f49_1.p0_e0 L N (fun a0 a1 => some (a0, a1)) z7 z8) (fun z10 z11 z12 => f49_1.p0_r L N (fun a0 a1 => some (a0, a1)) z10 z11 z12) (f49_1.l0 L N (fun z7 z8 => f49_1.p0_e0 L N (fun a0 a1 => some (a0, a1)) z7 z8) (fun z10 z11 z12 => f49_1.p0_r L N (fun a0 a1 => some (a0, a1)) z10 z11 z12) n1) z32 z33 z34 z35 z36 z37 z38 z39)
        (k : Int) ac m3 (aftA L N ms S[k]) hv [] rows L 0 S es [] (by omega) (by omega) hp hS (by simp)
      have hS2 := inS L N ms hm hL (fun z13 z14 z15 z16 z17 => f23.p1_e2 L N (fun z6 => f23.p0_e0 L N (fun a0 a1 => some (a0, a1)) z6) (fun z55 z56 => f23.p0_r L N (fun a0 a1 => some (a0, a1)) z55 z56) (f23.l0 L N (fun z6 => f23.p0_e0 L N (fun a0 a1 => some (a0, a1)) z6) (fun z55 z56 => f23.p0_r L N (fun a0 a1 => some (a0, a1)) z55 z56) n2) z13 z14 z15 z16 z17) (fun z36 z37 z38 z39 z40 z41 => f23.p1_r L N (fun z6 => f23.p0_e0 L N (fun a0 a1 => some (a0, a1)) z6) (fun z55 z56 => f23.p0_r L N (fun a0 a1 => some (a0, a1)) z55 z56) (f23.l0 L N (fun z6 => f23.p0_e0 L N (fun a0 a1 => some (a0, a1)) z6) (fun z55 z56 => f23.p0_r L N (fun a0 a1 => some (a0, a1)) z55 z56) n2) z36 z37 z38 z39 z40 z41)
        k S[k] hq ac m2 m4 m5 rows 9 L sets [] (by omega) (by omega) (by rw [hsets, List.getElem?_eq_getElem hlt]) hsl (by omega) (by simp)
      have hall : (ac.filter fun b => decide ((5 : Int) - ((9 : Nat) : Int) ≤ b)) = ac := by
        rw [List.filter_eq_self]
        intro b hb
        have := m5 b hb
        simp only [decide_eq_true_eq]; omega
      rw [hall, hsets] at hS2
      rw [List.drop_zero] at hI
      have h94 : (5 : Int) - ((9 : Nat) : Int) = -4 := by omega
      rw [h94] at hS2
      cases hst : stepA (aftA L N ms S[k]) ac S [] with
      | none =>
        rw [hst] at hI hS2
        obtain ⟨S1, es1, M1, i1⟩ := hI
        obtain ⟨sets1, M2, i2⟩ := hS2
        exact ⟨[], false, (show _ = _ from i1).trans rfl, (show _ = _ from i2).trans rfl, by simp, by simp, fun h => by cases h⟩
      | some p =>
        obtain ⟨S', M'⟩ := p
        rw [hst] at hI hS2
        obtain ⟨es', p1, i1⟩ := hI
        obtain ⟨sets', p2, p3, i2⟩ := hS2
        obtain ⟨⟨T, g1⟩, g2, g3, g4, g5⟩ := stepA_grow _ ac S [] S' M' hst
        rw [List.map_nil, List.nil_append] at g2
        have hrm : RisesM M' := rises_risesM (by rw [g2]; exact m2)
        have hml : M'.length ≤ 540 := risesM_len hrm fun m hmm => by
          have h1 := m5 m.act (by rw [← g2]; exact List.mem_map_of_mem hmm)
          have h2 := g4 hS (fun m h => by cases h) m hmm
          omega
        have hS' := g3 hS
        obtain ⟨x1, x2⟩ := stepA_idx _ ac S [] S' M' hst
        have hgood' : GoodRows L N ms S' (rows ++ [M']) := by
          intro j hj
          by_cases hjk : j < rows.length
          · rw [List.getElem_append_left hjk, g1]
            exact hgood.grow (by omega) j hjk
          · have hjk : j = rows.length := by simp at hj; omega
            subst hjk
            have hSk : S'.getD rows.length [] = S[k] := by
              rw [g1, List.getD_eq_getElem?_getD, List.getElem?_append_left (by omega), hrl, List.getElem?_eq_getElem hlt]; rfl
            refine ⟨ac, m2, fun a => ?_, m5, fun a ha => ?_, ?_⟩
            · rw [hSk]; exact m4 a
            · rw [hSk]; exact x1 a ha
            · rw [List.getElem_append_right (Nat.le_refl _), hSk]
              simp only [Nat.sub_self, List.getElem_cons_zero]
              rw [x2, List.nil_append]
        have hsne' : ∀ x ∈ S', x ≠ [] := fun x hx => by
          rcases g5 x hx with h | ⟨a, ha, rfl⟩
          · exact hsne x h
          · exact ((m4 a).1 ha).2
        have hle : decide (rows.length + ([M'] : List (List Move)).length ≤ lim) = true := dt (by simp only [List.length_cons, List.length_nil]; omega)
        obtain ⟨res, ok, j1, j2, j3, j4, j5⟩ := ih (k + 1) S' es' sets' (rows ++ [M']) hS' (by omega) (by rw [g1, List.length_append]; omega) p1 (fun x hx => by
          rcases g5 x hx with h | ⟨a, -, rfl⟩
          · exact hfit x h
          · exact (aftA_ok L N ms hm hL S[k] hq a).2.fits) p2 p3 (by simp; omega) (fun r hr => by
          rcases List.mem_append.1 hr with h | h
          · exact hr540 r h
          · obtain rfl := List.mem_singleton.1 h; exact hml) hgood' hsne' n1 n2 (by omega) (by omega)
        refine ⟨res, ok, (show _ = _ from i1).trans ?_, (show _ = _ from i2).trans ?_, j3, j4, fun hok => ?_⟩
        rotate_left 2
        · obtain ⟨U, u1, u2, u3, u4⟩ := j5 hok
          rw [g1, List.append_assoc] at u1 u2 u3 u4
          exact ⟨T ++ U, u1, u2, u3, u4⟩
        · show f49_1.p1_e2 L N _ _ _ ms (k : Int) S' es' M' [] rows = _
          unfold f49_1.p1_e2 f49_1.p1_e2' fsortM
          rw [dt (show M'.length ≤ lim by omega), cond_true, Option.bind_some, tidyM_self hrm, hle, cond_true, wi_nat (by omega)]
          exact j1
        · show f23.p1_e2 L N _ _ _ (k : Int) ms sets' M' rows = _
          unfold f23.p1_e2 f23.p1_e2'
          rw [hle, cond_true, wi_nat (by omega)]
          exact j2
    · have hlt2 : ¬ k < sets.length := by omega
      rw [ge_cast hlt, cond_false, ge_cast hlt2, cond_false]
      exact ⟨rows, true, rfl, rfl, by omega, hr540, fun _ => ⟨[], by rw [List.append_nil]; omega, by rw [List.append_nil]; exact hgood, by rw [List.append_nil]; exact hfit, by rw [List.append_nil]; exact hsne⟩⟩
abbrev sgOut (rows : List (List Move)) : Graph := ⟨rows⟩
theorem sureGraph_eq (L N : Nat) (g : Graph) (hg : g.moves.length + gsize g.moves ≤ 1048576) (hL : 8589934592 ≤ L) :
    ∃ (rows : List (List Move)) (ok : Bool), f23 L N g = some (⟨rows⟩, ok) ∧ f20 L N g = some (sgOut rows, ok) ∧ rows.length + gsize rows ≤ 1048576 ∧ rows.length ≤ 60 ∧ (∀ r ∈ rows, r.length ≤ 540) ∧ (ok = true → graphOk g = true ∧ ∃ S : List (List Int), rows.length = S.length ∧ 1 ≤ S.length ∧ GoodRows L N g.moves S rows ∧ (∀ x ∈ S, Fits g.moves x) ∧ (∀ x ∈ S, x ≠ []) ∧ Row g.moves (S.getD 0 []) (Slip g.moves fun x => x = 0)) := by
  have hlim := lim_eq
  have hge : Graph.mk g.moves = g := by cases g; rfl
  have h1 := gok1_ok L N g (by omega) hg
  have h2 := gok2_ok L N g (by omega) hg
  cases hok : graphOk g with
  | false =>
    refine ⟨[], false, ?_, ?_, by simp [gsize], by simp, by simp, fun h => by cases h⟩
    · show f23.b L N (fun a0 a1 => some (a0, a1)) g = _
      unfold f23.b f23.b'
      rw [hge, h2, Option.bind_some, hok, Bool.not_false, cond_true]
    · show f20.b' L N (fun a0 a1 => some (a0, a1)) g = _
      unfold f20.b'
      rw [hge, h1, Option.bind_some, hok, Bool.not_false, cond_true]
  | true =>
    have hm := leads_of hok hg
    obtain ⟨hn1, hn2, hmv⟩ := graphOk_mv hok
    have hact : ∀ (i : Nat) (hi : i < g.moves.length), ∀ m ∈ g.moves[i], -4 ≤ m.act ∧ m.act ≤ 4 := fun i hi m hm' => by
      obtain ⟨k, hk, rfl⟩ := List.mem_iff_getElem.1 hm'
      have := hmv i hi k hk
      exact ⟨this.1, this.2.1⟩
    obtain ⟨q, b1, b2⟩ := behI L N g.moves [] hm hn1 (by simp) (by omega)
    obtain ⟨b, c1, c2, c3⟩ := first8_ok L N g.moves hm hn1 (by omega)
    rw [hge] at b1 c1
    have hqb : listB b = q := Row.uniq (X := Slip g.moves fun x => x = 0) (listB_row c2 c3) b2
    have hqf := b2.fits
    have hkey := Fits.key hm hqf
    have hk0 := setKey_ok L N q hkey.1 hkey.2 (by omega)
    have hqne : q ≠ [] := List.ne_nil_of_length_pos (b2.some.2 ⟨0, .base 0 rfl⟩)
    obtain ⟨res, ok, e1, e2, e3, e4, e5⟩ := sure_loop L N g.moves hm hact hL 61 0 [q] (mapPut .str i64 (keyB q) (0 : Int) []) [b] [] (by simp) (by omega) (by simp)
      (by have := Places.nil.add (y := q) hkey.2 (by simp); exact this) (fun x hx => by obtain rfl := List.mem_singleton.1 hx; exact hqf) (by rw [List.map_cons, hqb]; rfl) (fun s hs => by obtain rfl := List.mem_singleton.1 hs; exact c2) rfl (fun r hr => by cases hr) (fun j hj => by simp at hj) (fun x hx => by obtain rfl := List.mem_singleton.1 hx; exact hqne) L L (by omega) (by omega)
    have hgs := gsize_le e4
    refine ⟨res, ok, ?_, ?_, by omega, e3, e4, fun hok' => ?_⟩
    rotate_left 2
    · obtain ⟨T, t1, t2, t3, t4⟩ := e5 hok'
      exact ⟨(by trivial), [q] ++ T, t1, by simp, t2, t3, t4, b2⟩
    · show f23.b L N (fun a0 a1 => some (a0, a1)) g = _
      unfold f23.b f23.b'
      rw [hge, h2, Option.bind_some, hok, Bool.not_true, cond_false, c1, Option.bind_some]
      exact e2
    · show f20.b' L N (fun a0 a1 => some (a0, a1)) g = _
      unfold f20.b'
      have hb : f49_1 L N q g.moves = some (res, ok) := by
        show f49_1.b L N (fun a0 a1 => some (a0, a1)) q g.moves = _
        unfold f49_1.b f49_1.b'
        rw [hk0, Option.bind_some]
        exact e1
      rw [hge, h1, Option.bind_some, hok, Bool.not_true, cond_false, b1, Option.bind_some, hb, Option.bind_some]
end Go.Proofs.YtffkhhblppfbfaaGreatDoor.Ev
namespace Go.Proofs.YtffkhhblppfbfaaGreatDoor.Ev
open Go
set_option linter.unusedVariables false
set_option linter.unusedSimpArgs false
structure SureOf (ms rows : List (List Move)) (S : Nat → Nat → Prop) : Prop where
  pos : 1 ≤ rows.length
  first : ∀ t, S 0 t ↔ Slip ms (fun x => x = 0) t
  some : ∀ j, j < rows.length → ∃ t, S j t
  calm : ∀ j a k, Mv rows j a k → a ≠ 0
  to : ∀ j a k, Mv rows j a k → k < rows.length ∧ ∀ t, S k t ↔ Slip ms (StepX ms (S j) a) t
  all : ∀ j, j < rows.length → ∀ a, a ≠ 0 → (∃ t, StepX ms (S j) a t) → ∃ k, Mv rows j a k
  one : ∀ j a k k', Mv rows j a k → Mv rows j a k' → k = k'
theorem SureOf.slip {ms rows : List (List Move)} {S : Nat → Nat → Prop} (h : SureOf ms rows S) {X : Nat → Prop} {t : Nat} : Slip rows X t ↔ X t := by
  constructor
  · intro hs
    refine slip_ind (P := X) (fun t hx => hx) (fun s t _ hmv => absurd rfl (h.calm s 0 t hmv)) hs
  · exact fun hx => .base t hx
theorem beh_empty {ms : List (List Move)} : ∀ {w : List Int} {X : Nat → Prop}, (∀ t, ¬ X t) → ∀ t, ¬ Beh ms X w t
  | [], X, h, t, ht => h t ht
  | a :: w, X, h, t, ht => by
    refine beh_empty (w := w) (fun u hu => ?_) t ht
    obtain ⟨v, s, hs, -⟩ := slip_some hu
    exact h s hs
theorem SureOf.beh {ms rows : List (List Move)} {S : Nat → Nat → Prop} (h : SureOf ms rows S) : ∀ (w : List Int), (∀ a ∈ w, a ≠ 0) → ∀ j, j < rows.length →
    (∃ k, k < rows.length ∧ (∀ u, Beh rows (fun x => x = j) w u ↔ u = k) ∧ ∀ t, Beh ms (S j) w t ↔ S k t) ∨ ((∀ u, ¬ Beh rows (fun x => x = j) w u) ∧ ∀ t, ¬ Beh ms (S j) w t)
  | [], _, j, hj => .inl ⟨j, hj, fun u => Iff.rfl, fun t => Iff.rfl⟩
  | a :: w, hw, j, hj => by
    have ha := hw a (.head _)
    by_cases hk : ∃ k, Mv rows j a k
    · obtain ⟨k, hmv⟩ := hk
      obtain ⟨hkl, hS⟩ := h.to j a k hmv
      have e1 : ∀ u, Slip rows (StepX rows (fun x => x = j) a) u ↔ u = k := fun u => by
        rw [h.slip]
        constructor
        · rintro ⟨s, rfl, hm⟩; exact h.one _ a u k hm hmv
        · rintro rfl; exact ⟨j, rfl, hmv⟩
      have e2 : ∀ t, Slip ms (StepX ms (S j) a) t ↔ S k t := fun t => (hS t).symm
      rcases h.beh w (fun b hb => hw b (.tail _ hb)) k hkl with ⟨l, h1, h2, h3⟩ | ⟨h1, h2⟩
      · exact .inl ⟨l, h1, fun u => (Beh.congr e1 u).trans (h2 u), fun t => (Beh.congr e2 t).trans (h3 t)⟩
      · exact .inr ⟨fun u hu => h1 u ((Beh.congr e1 u).1 hu), fun t ht => h2 t ((Beh.congr e2 t).1 ht)⟩
    · refine .inr ⟨beh_empty (w := w) fun u hu => ?_, beh_empty (w := w) fun u hu => ?_⟩
      · obtain ⟨s, rfl, hm⟩ := h.slip.1 hu
        exact hk ⟨u, hm⟩
      · obtain ⟨v, hv⟩ := slip_some hu
        exact hk (h.all j hj a ha ⟨v, hv⟩)
theorem SureOf.words {ms rows : List (List Move)} {S : Nat → Nat → Prop} (h : SureOf ms rows S) (w : List Int) (hw : ∀ a ∈ w, a ≠ 0) :
    (∃ k, k < rows.length ∧ (∀ u, Beh rows (Slip rows fun x => x = 0) w u ↔ u = k) ∧ ∀ t, Beh ms (Slip ms fun x => x = 0) w t ↔ S k t) ∨ ((∀ u, ¬ Beh rows (Slip rows fun x => x = 0) w u) ∧ ∀ t, ¬ Beh ms (Slip ms fun x => x = 0) w t) := by
  have e1 : ∀ u, Slip rows (fun x => x = 0) u ↔ u = 0 := fun u => h.slip
  have e2 : ∀ t, Slip ms (fun x => x = 0) t ↔ S 0 t := fun t => (h.first t).symm
  rcases h.beh w hw 0 h.pos with ⟨l, h1, h2, h3⟩ | ⟨h1, h2⟩
  · exact .inl ⟨l, h1, fun u => (Beh.congr e1 u).trans (h2 u), fun t => (Beh.congr e2 t).trans (h3 t)⟩
  · exact .inr ⟨fun u hu => h1 u ((Beh.congr e1 u).1 hu), fun t ht => h2 t ((Beh.congr e2 t).1 ht)⟩
theorem SureOf.same {ms rows : List (List Move)} {S : Nat → Nat → Prop} (h : SureOf ms rows S) (w : List Int) (hw : ∀ a ∈ w, a ≠ 0) : (∃ t, Beh ms (Slip ms fun x => x = 0) w t) ↔ ∃ u, Beh rows (Slip rows fun x => x = 0) w u := by
  rcases h.words w hw with ⟨k, h1, h2, h3⟩ | ⟨h1, h2⟩
  · obtain ⟨t, ht⟩ := h.some k h1
    exact ⟨fun _ => ⟨k, (h2 k).2 rfl⟩, fun _ => ⟨t, (h3 t).2 ht⟩⟩
  · exact ⟨fun ⟨t, ht⟩ => absurd ht (h2 t), fun ⟨u, hu⟩ => absurd hu (h1 u)⟩
end Go.Proofs.YtffkhhblppfbfaaGreatDoor.Ev
namespace Go.Proofs.YtffkhhblppfbfaaGreatDoor.Ev
open Go
set_option linter.unusedVariables false
set_option linter.unusedSimpArgs false
structure SureIn (L N : Nat) (ms : List (List Move)) (S : List (List Int)) (rows : List (List Move)) : Prop where
  len : rows.length = S.length
  pos : 1 ≤ S.length
  good : GoodRows L N ms S rows
  fits : ∀ x ∈ S, Fits ms x
  ne : ∀ x ∈ S, x ≠ []
  first : Row ms (S.getD 0 []) (Slip ms fun x => x = 0)
theorem SureIn.mem {L N : Nat} {ms : List (List Move)} {S : List (List Int)} {rows : List (List Move)} (h : SureIn L N ms S rows) {j : Nat} (hj : j < rows.length) : S.getD j [] ∈ S := by
  have hl := h.len
  have : j < S.length := by omega
  rw [getD_lt this]; exact List.getElem_mem this
theorem SureIn.act {L N : Nat} {ms : List (List Move)} {S : List (List Int)} {rows : List (List Move)} (h : SureIn L N ms S rows) {j : Nat} (hj : j < rows.length) {m : Move} (hm : m ∈ rows[j]) :
    m.act ≠ 0 ∧ -4 ≤ m.act ∧ m.act ≤ 4 ∧ aftA L N ms (S.getD j []) m.act ∈ S ∧ m.to = ((S.idxOf (aftA L N ms (S.getD j []) m.act) : Nat) : Int) := by
  obtain ⟨ac, h1, h2, h3, h4, h5⟩ := h.good j hj
  rw [h5] at hm
  obtain ⟨a, ha, rfl⟩ := List.mem_map.1 hm
  exact ⟨((h2 a).1 ha).1, (h3 a ha).1, (h3 a ha).2, h4 a ha, rfl⟩
theorem SureIn.rises {L N : Nat} {ms : List (List Move)} {S : List (List Int)} {rows : List (List Move)} (h : SureIn L N ms S rows) {j : Nat} (hj : j < rows.length) : Rises ((rows[j]).map Move.act) := by
  obtain ⟨ac, h1, h2, h3, h4, h5⟩ := h.good j hj
  rw [h5, List.map_map]
  have : (Move.act ∘ fun a => (⟨a, ((S.idxOf (aftA L N ms (S.getD j []) a) : Nat) : Int)⟩ : Move)) = id := rfl
  rw [this, List.map_id]; exact h1
theorem SureIn.graph {L N : Nat} {ms : List (List Move)} {S : List (List Int)} {rows : List (List Move)} (h : SureIn L N ms S rows) (h60 : rows.length ≤ 60) : graphOk ⟨rows⟩ = true := by
  have hl := h.len
  have hp := h.pos
  refine graphOk_mk (by omega) h60 fun i hi => ⟨rises_risesM (h.rises hi), fun m hm => ?_⟩
  obtain ⟨-, a1, a2, a3, a4⟩ := h.act hi hm
  have := List.idxOf_lt_length_of_mem a3
  unfold mvOk
  rw [dt ⟨a1, a2⟩, dt (show 0 ≤ m.to ∧ m.to < (rows.length : Int) by omega)]; rfl
theorem SureIn.of {L N : Nat} {ms : List (List Move)} (hm : Leads ms) (hL : 8589934592 ≤ L) {S : List (List Int)} {rows : List (List Move)} (h : SureIn L N ms S rows) : SureOf ms rows fun j t => (t : Int) ∈ S.getD j [] := by
  have hl := h.len
  have hp := h.pos
  have key : ∀ j a k, Mv rows j a k → ∃ hj : j < rows.length, a ≠ 0 ∧ aftA L N ms (S.getD j []) a ∈ S ∧ k = S.idxOf (aftA L N ms (S.getD j []) a) := fun j a k ⟨hj, i, hi, e1, e2⟩ => by
    obtain ⟨a0, -, -, a3, a4⟩ := h.act hj (List.getElem_mem hi)
    rw [e1] at a0 a3 a4
    rw [e2] at a4
    exact ⟨hj, a0, a3, by omega⟩
  refine ⟨by omega, fun t => h.first.2.2.1 t, fun j hj => ?_, fun j a k hmv => (key j a k hmv).2.1, fun j a k hmv => ?_, fun j hj a ha ⟨t, ht⟩ => ?_, fun j a k k' h1 h2 => by rw [(key j a k h1).2.2.2, (key j a k' h2).2.2.2]⟩
  · have hmem := h.mem hj
    obtain ⟨v, hv⟩ := List.exists_mem_of_ne_nil _ (h.ne _ hmem)
    obtain ⟨t, rfl⟩ := Int.eq_ofNat_of_zero_le ((h.fits _ hmem).2.1 v hv).1
    exact ⟨t, hv⟩
  · obtain ⟨hj, a0, a3, a4⟩ := key j a k hmv
    have hk := List.idxOf_lt_length_of_mem a3
    rw [← a4] at hk
    have hSk : S.getD k [] = aftA L N ms (S.getD j []) a := by
      rw [getD_lt hk]
      have := List.getElem_idxOf (x := aftA L N ms (S.getD j []) a) (xs := S) (by rw [← a4]; exact hk)
      simpa only [← a4] using this
    refine ⟨by omega, fun t => ?_⟩
    show (t : Int) ∈ S.getD k [] ↔ _
    rw [hSk]
    exact (aftA_ok L N ms hm hL _ (h.fits _ (h.mem hj)) a).2.2.2.1 t
  · obtain ⟨ac, h1, h2, h3, h4, h5⟩ := h.good j hj
    have hin : a ∈ ac := (h2 a).2 ⟨ha, (aftA_some L N ms hm hL _ (h.fits _ (h.mem hj)) a).2 ⟨t, ht⟩⟩
    have hin2 : (⟨a, ((S.idxOf (aftA L N ms (S.getD j []) a) : Nat) : Int)⟩ : Move) ∈ rows[j] := by rw [h5]; exact List.mem_map_of_mem hin
    obtain ⟨i, hi, e⟩ := List.mem_iff_getElem.1 hin2
    exact ⟨_, hj, i, hi, by rw [e], by rw [e]⟩
theorem sureGraph_in (L N : Nat) (g : Graph) (hg : g.moves.length + gsize g.moves ≤ 1048576) (hL : 8589934592 ≤ L) :
    ∃ (rows : List (List Move)) (ok : Bool), f23 L N g = some (⟨rows⟩, ok) ∧ f20 L N g = some (sgOut rows, ok) ∧ rows.length + gsize rows ≤ 1048576 ∧ rows.length ≤ 60 ∧ (∀ r ∈ rows, r.length ≤ 540) ∧
      (ok = true → graphOk g = true ∧ graphOk ⟨rows⟩ = true ∧ ∃ S, SureIn L N g.moves S rows ∧ SureOf g.moves rows fun j t => (t : Int) ∈ S.getD j []) := by
  obtain ⟨rows, ok, h1, h2, h3, h4, h5, h6⟩ := sureGraph_eq L N g hg hL
  refine ⟨rows, ok, h1, h2, h3, h4, h5, fun hok => ?_⟩
  obtain ⟨g1, S, s1, s2, s3, s4, s5, s6⟩ := h6 hok
  have hin : SureIn L N g.moves S rows := ⟨s1, s2, s3, s4, s5, s6⟩
  exact ⟨g1, hin.graph h4, S, hin, hin.of (leads_of g1 hg) hL⟩
end Go.Proofs.YtffkhhblppfbfaaGreatDoor.Ev
namespace Go.Proofs.YtffkhhblppfbfaaGreatDoor.Ev
open Go
set_option linter.unusedVariables false
set_option linter.unusedSimpArgs false
structure DuoAt (ms ns : List (List Move)) (k : Nat) (d : Duo) : Prop where
  len : d.w.length ≤ k
  seen : ∀ a ∈ d.w, a ≠ 0
  a : Row ms d.a (BehW ms d.w)
  b : Row ns d.b (BehW ns d.w)
  does : ∃ t, BehW ms d.w t
theorem DuoAt.mono {ms ns : List (List Move)} {k l : Nat} {d : Duo} (h : DuoAt ms ns k d) (hkl : k ≤ l) : DuoAt ms ns l d := ⟨Nat.le_trans h.len hkl, h.seen, h.a, h.b, h.does⟩
theorem row_key {ms : List (List Move)} (hm : Leads ms) {q : List Int} {X : Nat → Prop} (h : Row ms q X) : q.length ≤ 60 ∧ ∀ v ∈ q, 0 ≤ v ∧ v < 60 := by
  have hn := hm.1
  have h1 := h.1
  exact ⟨by omega, fun v hv => by have := h.2.1 v hv; omega⟩
theorem keyB_size60 {q : List Int} (h : q.length ≤ 60) : (keyB q).size ≤ 400 := by
  unfold keyB
  rw [ba_size]
  have : ∀ l : List Int, (numsL l).length ≤ 3 * l.length := by
    intro l
    induction l with
    | nil => simp [numsL]
    | cons a l ih =>
      have h1 := digL_len a.toNat
      have h2 : numsL (a :: l) = digL a.toNat ++ [32] ++ numsL l := by unfold numsL; rw [List.flatMap_cons]
      rw [h2]; simp; omega
  have := this q
  unfold keyL
  simp; omega
section
variable (L N : Nat)
theorem apart_in {R : Type} (ms ns : List (List Move)) (hm : Leads ms) (hn : Leads ns) (hL : 8589934592 ≤ L) (hsame : ∀ w, (∀ a ∈ w, a ≠ 0) → (∃ t, BehW ms w t) → ∃ u, BehW ns w u)
    (K : Int → Int → Bool → List (List Move) → List (List Move) → List Duo → List (ByteArray × Bool) → Option R) (Kr Kr1 : Int → Bool → Int → Bool → List (List Move) → List (List Move) → List Duo → List (ByteArray × Bool) → List Int → Option R)
    (most k : Int) (kk : Nat) (hkk : kk ≤ 1000) (q r w : List Int) (hd : DuoAt ms ns kk ⟨q, r, w⟩) (ac : List Int) (hac : ∀ a ∈ ac, a ≠ 0 ∧ ∃ t, StepX ms (BehW ms w) a t) (hal : ac.length ≤ 100000000) :
    ∀ (n j : Nat) (ds : List Duo) (es : List (ByteArray × Bool)), j ≤ ac.length → ac.length - j < n → (∀ e ∈ ds, DuoAt ms ns (kk + 1) e) → ds.length ≤ 1000000 + j →
      ∃ ds' es', f55_1.l1 L N K Kr Kr1 n most k ac (ac.length : Int) (j : Int) false ms ns q r w ds es = K most k false ms ns ds' es' ∧ (∀ e ∈ ds', DuoAt ms ns (kk + 1) e) ∧ ds.length ≤ ds'.length := by
  have hlim := lim_eq
  intro n
  induction n with
  | zero => intro j ds es _ h; omega
  | succ n ih =>
    intro j ds es hj hjn hds hdl
    have hu : f55_1.l1 L N K Kr Kr1 (n + 1) most k ac (ac.length : Int) (j : Int) false ms ns q r w ds es = f55_1.s1 L N K Kr Kr1 (f55_1.l1 L N K Kr Kr1 n) most k ac (ac.length : Int) (j : Int) false ms ns q r w ds es := rfl
    rw [hu]
    unfold f55_1.s1 f55_1.s1'
    by_cases hlt : j < ac.length
    · obtain ⟨ha0, t, ht⟩ := hac _ (List.getElem_mem hlt)
      obtain ⟨q', e1, e2⟩ := after_row L N ms q _ ac[j] hm hd.a (by omega)
      obtain ⟨r', f1, f2⟩ := after_row L N ns r _ ac[j] hn hd.b (by omega)
      have hseen : ∀ a ∈ w ++ [ac[j]], a ≠ 0 := fun a ha => by
        rcases List.mem_append.1 ha with h | h
        · exact hd.seen a h
        · rw [List.mem_singleton.1 h]; exact ha0
      have hq' : Row ms q' (BehW ms (w ++ [ac[j]])) := ⟨e2.1, e2.2.1, fun t => (e2.2.2.1 t).trans Beh.snoc.symm, e2.2.2.2⟩
      have hr' : Row ns r' (BehW ns (w ++ [ac[j]])) := ⟨f2.1, f2.2.1, fun t => (f2.2.2.1 t).trans Beh.snoc.symm, f2.2.2.2⟩
      have hdoes : ∃ t, BehW ms (w ++ [ac[j]]) t := ⟨t, Beh.snoc.2 (.base t ht)⟩
      have hpos : 0 < r'.length := hr'.some.2 (hsame _ hseen hdoes)
      have hz : ((r'.length : Int) == 0) = false := beq_eq_false_iff_ne.2 (by omega)
      have hwl := hd.len
      have hwl : w.length ≤ kk := hwl
      have hcl : fclone w = some () := by unfold fclone; rw [dt (by omega)]; rfl
      have hl1 : decide (w.length + ([ac[j]] : List Int).length ≤ lim) = true := dt (by simp only [List.length_cons, List.length_nil]; omega)
      have k1 := row_key hm hq'
      have k2 := row_key hn hr'
      have hk1 := setKey_ok L N _ k1.1 k1.2 (by omega)
      have hk2 := setKey_ok L N _ k2.1 k2.2 (by omega)
      have hs1 := keyB_size60 k1.1
      have hs2 := keyB_size60 k2.1
      have hl2 : decide ((keyB q').size + (keyB r').size ≤ 4611686018427387904) = true := dt (by omega)
      have hl3 : decide (ds.length + ([Duo.mk q' r' (w ++ [ac[j]])] : List Duo).length ≤ lim) = true := dt (by simp only [List.length_cons, List.length_nil]; omega)
      simp only [lt_cast hlt, le0, cond_true, Bool.and_true, Int.toNat_natCast, at_lt hlt, e1, f1, Option.bind_some, hcl, hl1, hz, cond_false, hk1, hk2, hl2, hl3]
      rw [wi_nat (by omega)]
      cases ((mapFind .str .bool (keyB q' ++ keyB r') es).getD (Ty.dflt .bool)) with
      | true => rw [cond_true]; exact ih (j + 1) ds es (by omega) (by omega) hds (by omega)
      | false =>
        rw [cond_false]
        obtain ⟨ds', es', g1, g2, g3⟩ := ih (j + 1) (ds ++ [Duo.mk q' r' (w ++ [ac[j]])]) (mapPut .str .bool (keyB q' ++ keyB r') true es) (by omega) (by omega) (fun e he => by
          rcases List.mem_append.1 he with h | h
          · exact hds e h
          · rw [List.mem_singleton.1 h]
            exact ⟨by show (w ++ [ac[j]]).length ≤ _; simp; omega, hseen, hq', hr', hdoes⟩) (by simp; omega)
        exact ⟨ds', es', g1, g2, by simp at g3; omega⟩
    · rw [ge_cast hlt, cond_false]
      exact ⟨ds, es, rfl, hds, Nat.le_refl _⟩
theorem apart_duos (ms ns : List (List Move)) (hm : Leads ms) (hn : Leads ns) (h1 : 1 ≤ ms.length) (h2 : 1 ≤ ns.length) (hL : 8589934592 ≤ L) (hsame : ∀ w, (∀ a ∈ w, a ≠ 0) → (∃ t, BehW ms w t) → ∃ u, BehW ns w u) :
    ∃ o, f55_1 L N false ⟨ms⟩ ⟨ns⟩ 20 = some (o, false) := by
  have hlim := lim_eq
  have key : ∀ (d k : Nat) (ds : List Duo) (es : List (ByteArray × Bool)), k ≤ 400 → 401 ≤ k + d → k ≤ ds.length → (∀ e ∈ ds, DuoAt ms ns k e) → ∀ n, d ≤ n →
      ∃ o, f55_1.l0 L N (fun z11 => f55_1.p0_e0 L N (fun a0 a1 => some (a0, a1)) z11) (fun z12 z13 => f55_1.p0_r L N (fun a0 a1 => some (a0, a1)) z12 z13) (fun z37 z38 z39 => f55_1.p0_r1 L N (fun a0 a1 => some (a0, a1)) z37 z38 z39) (fun z139 z140 => f55_1.p0_r2 L N (fun a0 a1 => some (a0, a1)) z139 z140) n 20 (k : Int) false ms ns ds es = some (o, false) := by
    intro d
    induction d with
    | zero => intro k ds es hk hd; omega
    | succ d ih =>
      intro k ds es hk hd hkl hds n hn'
      obtain ⟨n, rfl⟩ : ∃ n', n = n' + 1 := ⟨n - 1, by omega⟩
      show ∃ o, f55_1.s0 L N _ _ _ _ (f55_1.l0 L N (fun z11 => f55_1.p0_e0 L N (fun a0 a1 => some (a0, a1)) z11) (fun z12 z13 => f55_1.p0_r L N (fun a0 a1 => some (a0, a1)) z12 z13) (fun z37 z38 z39 => f55_1.p0_r1 L N (fun a0 a1 => some (a0, a1)) z37 z38 z39) (fun z139 z140 => f55_1.p0_r2 L N (fun a0 a1 => some (a0, a1)) z139 z140) n) 20 (k : Int) false ms ns ds es = some (o, false)
      unfold f55_1.s0 f55_1.s0'
      by_cases hlt : k < ds.length
      · by_cases h400 : ds.length > 400
        · simp only [lt_cast hlt, le0, Bool.and_true, cond_true]
          rw [dt (show (ds.length : Int) > 400 by omega), cond_true]
          exact ⟨false, rfl⟩
        · have hdk := hds _ (List.getElem_mem hlt)
          have hpos : 0 < (ds[k]).b.length := hdk.b.some.2 (hsame _ hdk.seen hdk.does)
          have hz : (((ds[k]).b.length : Int) == 0) = false := beq_eq_false_iff_ne.2 (by omega)
          have hlist : listAt ds (Ty.dflt (.st 4)) k = ds[k] := at_lt hlt
          have hd1 : decide ((ds.length : Int) > 400) = false := df (by omega)
          have hnext : ∀ e ∈ ds, DuoAt ms ns (k + 1) e := fun e he => (hds e he).mono (by omega)
          simp only [lt_cast hlt, le0, Bool.and_true, cond_true, hd1, cond_false, Int.toNat_natCast, hlist, hz]
          cases hw : (((ds[k]).w.length : Int) == 20) with
          | true =>
            rw [cond_true, wi_nat (by omega)]
            exact ih (k + 1) ds es (by omega) (by omega) (by omega) hnext n (by omega)
          | false =>
            rw [cond_false]
            obtain ⟨ac, a1, a2, a3, a4⟩ := actsOf_ok L N ms hm (ds[k]).a _ hdk.a (by omega)
            rw [a1, Option.bind_some]
            obtain ⟨ds', es', g1, g2, g3⟩ := apart_in L N ms ns hm hn hL hsame (fun z54 z55 z56 z57 z58 z59 z60 => f55_1.p1_e2 L N (fun z11 => f55_1.p0_e0 L N (fun a0 a1 => some (a0, a1)) z11) (fun z12 z13 => f55_1.p0_r L N (fun a0 a1 => some (a0, a1)) z12 z13) (fun z37 z38 z39 => f55_1.p0_r1 L N (fun a0 a1 => some (a0, a1)) z37 z38 z39) (fun z139 z140 => f55_1.p0_r2 L N (fun a0 a1 => some (a0, a1)) z139 z140) (f55_1.l0 L N (fun z11 => f55_1.p0_e0 L N (fun a0 a1 => some (a0, a1)) z11) (fun z12 z13 => f55_1.p0_r L N (fun a0 a1 => some (a0, a1)) z12 z13) (fun z37 z38 z39 => f55_1.p0_r1 L N (fun a0 a1 => some (a0, a1)) z37 z38 z39) (fun z139 z140 => f55_1.p0_r2 L N (fun a0 a1 => some (a0, a1)) z139 z140) n) z54 z55 z56 z57 z58 z59 z60) _ _
              20 (k : Int) k (by omega) (ds[k]).a (ds[k]).b (ds[k]).w hdk ac (fun a ha => (a4 a).1 ha) a3 L 0 ds es (by omega) (by omega) hnext (by omega)
            obtain ⟨o, f⟩ := ih (k + 1) ds' es' (by omega) (by omega) (by omega) g2 n (by omega)
            refine ⟨o, (show _ = _ from g1).trans ?_⟩
            show f55_1.p1_e2 L N _ _ _ _ _ 20 (k : Int) false ms ns ds' es' = _
            unfold f55_1.p1_e2 f55_1.p1_e2'
            rw [wi_nat (by omega)]
            exact f
      · rw [ge_cast hlt, cond_false]
        exact ⟨true, rfl⟩
  obtain ⟨q, b1, b2⟩ := behI L N ms [] hm h1 (by simp) (by omega)
  obtain ⟨r, c1, c2⟩ := behI L N ns [] hn h2 (by simp) (by omega)
  have k1 := row_key hm b2
  have k2 := row_key hn c2
  have hk1 := setKey_ok L N _ k1.1 k1.2 (by omega)
  have hk2 := setKey_ok L N _ k2.1 k2.2 (by omega)
  have hs1 := keyB_size60 k1.1
  have hs2 := keyB_size60 k2.1
  have hl2 : decide ((keyB q).size + (keyB r).size ≤ 4611686018427387904) = true := dt (by omega)
  have hz : (decide ((0 : Int) ≤ 0) && decide ((0 : Int) < (([Duo.mk q r []] : List Duo).length : Int))) = true := rfl
  have hla : listAt [Duo.mk q r []] (Ty.dflt (.st 4)) (0 : Int).toNat = Duo.mk q r [] := rfl
  obtain ⟨o, f⟩ := key 401 0 [Duo.mk q r []] (mapPut .str .bool (keyB q ++ keyB r) true []) (by omega) (by omega) (by simp) (fun e he => by
    rw [List.mem_singleton.1 he]
    exact ⟨by simp, fun a h => (by cases h), b2, c2, ⟨0, .base 0 rfl⟩⟩) L (by omega)
  refine ⟨o, ?_⟩
  show f55_1.b L N (fun a0 a1 => some (a0, a1)) false ⟨ms⟩ ⟨ns⟩ 20 = _
  unfold f55_1.b f55_1.b'
  have b1' : f50 L N (Graph.mk (Graph.mk ms).moves) [] = some q := b1
  have c1' : f50 L N (Graph.mk (Graph.mk ns).moves) [] = some r := c1
  rw [b1', Option.bind_some, c1', Option.bind_some, hz, cond_true, hla, hk1, Option.bind_some, cond_true, hk2, Option.bind_some, hl2, cond_true]
  exact f
theorem apart_none (g h : Graph) (hg : g.moves.length + gsize g.moves ≤ 1048576) (hh : h.moves.length + gsize h.moves ≤ 1048576) (hL : 8589934592 ≤ L) (hsame : ∀ w, (∀ a ∈ w, a ≠ 0) → (∃ t, BehW g.moves w t) → ∃ u, BehW h.moves w u) :
    f21 L N g h = some ([], false) := by
  have hge : Graph.mk g.moves = g := by cases g; rfl
  have hhe : Graph.mk h.moves = h := by cases h; rfl
  have hok := gok1_ok L N g (by omega) hg
  have hok2 := gok1_ok L N h (by omega) hh
  show f21.b' L N (fun a0 a1 => some (a0, a1)) g h = _
  unfold f21.b'
  rw [hge, hhe, hok, Option.bind_some, hok2, Option.bind_some]
  cases h1 : graphOk g with
  | false => rfl
  | true =>
    rw [Bool.not_true, cond_false]
    cases h2 : graphOk h with
    | false => rfl
    | true =>
      rw [Bool.not_true, cond_false]
      unfold f21.j0'
      obtain ⟨o, e⟩ := apart_duos L N g.moves h.moves (leads_of h1 hg) (leads_of h2 hh) (graphOk_mv h1).1 (graphOk_mv h2).1 hL hsame
      rw [e, Option.bind_some]
      cases o <;> rfl
end
end Go.Proofs.YtffkhhblppfbfaaGreatDoor.Ev
namespace Go.Proofs.YtffkhhblppfbfaaGreatDoor.Ev
open Go
set_option linter.unusedVariables false
set_option linter.unusedSimpArgs false
theorem meqb_iff (x y : Move) : Move.eqb x y = true ↔ x = y := by
  constructor
  · intro h
    simp only [Move.eqb, Bool.and_eq_true, beq_iff_eq] at h
    rw [← mv_eta x, ← mv_eta y, h.1, h.2]
  · rintro rfl; simp [Move.eqb]
theorem mnGraph_same (L N : Nat) (ms : List (List Move)) (hL : 1048576 < L) (hl : ms.length ≤ 1048576) (hr : ∀ r ∈ ms, r.length ≤ 1048576) : f24 L N ⟨ms⟩ ⟨ms⟩ = some true := by
  show f24.b L N some ⟨ms⟩ ⟨ms⟩ = _
  unfold f24.b f24.b'
  simp only [bne_self_eq_false, cond_false]
  have key : ∀ (n i : Nat), i ≤ ms.length → ms.length - i < n → f24.l0 L N (f24.p0_e0 L N some) (fun z => f24.p0_r L N some z) n (i : Int) ms ms = some true := by
    intro n
    induction n with
    | zero => intro i _ h; omega
    | succ n ih =>
      intro i hi hn
      show f24.s0 L N _ _ (f24.l0 L N _ _ n) (i : Int) ms ms = _
      unfold f24.s0 f24.s0'
      by_cases hlt : i < ms.length
      · have hrl := hr _ (List.getElem_mem hlt)
        simp only [lt_cast hlt, le0, Bool.and_true, cond_true, Int.toNat_natCast, at_lt hlt, bne_self_eq_false, cond_false]
        have row : ∀ (n' k : Nat), k ≤ (ms[i]).length → (ms[i]).length - k < n' → f24.l1 L N (fun z8 z9 z10 => f24.p1_e2 L N (f24.p0_e0 L N some) (fun z => f24.p0_r L N some z) (f24.l0 L N (f24.p0_e0 L N some) (fun z => f24.p0_r L N some z) n) z8 z9 z10) (fun z11 z12 z13 z14 => f24.p1_r L N (f24.p0_e0 L N some) (fun z => f24.p0_r L N some z) (f24.l0 L N (f24.p0_e0 L N some) (fun z => f24.p0_r L N some z) n) z11 z12 z13 z14) n' (i : Int) (k : Int) ms ms = some true := by
          intro n'
          induction n' with
          | zero => intro k _ h; omega
          | succ n' ih2 =>
            intro k hk hn'
            show f24.s1 L N _ _ (f24.l1 L N _ _ n') (i : Int) (k : Int) ms ms = _
            unfold f24.s1 f24.s1'
            by_cases hkl : k < (ms[i]).length
            · simp only [lt_cast hlt, le0, Bool.and_true, cond_true, Int.toNat_natCast, at_lt hlt, lt_cast hkl, at_lt hkl, (meqb_iff _ _).2 rfl, Bool.not_true, cond_false]
              rw [wi_nat (by omega)]
              exact ih2 (k + 1) (by omega) (by omega)
            · simp only [lt_cast hlt, le0, Bool.and_true, cond_true, Int.toNat_natCast, at_lt hlt, ge_cast hkl, cond_false]
              show f24.l0 L N _ _ n (wi ((i : Int) + 1)) ms ms = _
              rw [wi_nat (by omega)]
              exact ih (i + 1) (by omega) (by omega)
        exact row L 0 (by omega) (by omega)
      · rw [ge_cast hlt, cond_false]; rfl
  exact key L 0 (by omega) (by omega)
end Go.Proofs.YtffkhhblppfbfaaGreatDoor.Ev
namespace Go.Proofs.YtffkhhblppfbfaaGreatDoor.Ev
open Go
set_option linter.unusedVariables false
set_option linter.unusedSimpArgs false
theorem lawSureGraph (x0 : List Int) (hx0 : DatOk (.sl (.int .u8)) x0) : ∃ L N, f4 L N x0 = some true := by
  generalize hLL : 8589934592 = L
  refine ⟨L, 1000, ?_⟩
  have hlim := lim_eq
  obtain ⟨c, o1, o2⟩ := open_ok L 1000 hx0
  obtain ⟨g, p', d1, -, -, d2⟩ := graph_draw L 1000 (by omega) (by omega) o2 (p := 0) (by omega) (by omega)
  have hge : ∀ g : Graph, Graph.mk g.moves = g := fun g => by cases g; rfl
  have hd : f22 L 1000 x0 = some g := by
    show f22.b' L 1000 some x0 = _
    unfold f22.b'
    rw [o1]
    simp only [Option.bind_some, d1, hge]
  have hsz := d2.size
  obtain ⟨rows, ok, s1, s2, s3, s4, s5, s6⟩ := sureGraph_in L 1000 g hsz (by omega)
  have hmn := mnGraph_same L 1000 rows (by omega) (by omega) (fun r hr => by have := s5 r hr; omega)
  show f4.b L 1000 some x0 = _
  unfold f4.b f4.b'
  by_cases hl : (x0.length : Int) > 1048576
  · rw [dt hl, cond_true]
  · rw [df hl, cond_false, hd]
    simp only [Option.bind_some, hge, s1, s2, hmn, beq_self_eq_true, Bool.not_true, cond_false]
    unfold f4.j0'
    cases ok with
    | false => rfl
    | true =>
      rw [Bool.not_true, cond_false]
      obtain ⟨g1, g2, S, hin, hof⟩ := s6 rfl
      have fin : f4.p0_e0 L 1000 some g.moves rows = some true := by
        unfold f4.p0_e0 f4.p0_e0'
        have h1 := apart_none L 1000 g ⟨rows⟩ hsz s3 (by omega) fun w hw => (hof.same w hw).1
        have h2 := apart_none L 1000 ⟨rows⟩ g s3 hsz (by omega) fun w hw => (hof.same w hw).2
        have h3 := gok1_ok L 1000 ⟨rows⟩ (by omega) s3
        rw [hge, h1, Option.bind_some, h2, Option.bind_some, h3, Option.bind_some, g2]; rfl
      have key : ∀ (n i : Nat), i ≤ rows.length → rows.length - i < n → f4.l0 L 1000 (fun z14 z15 => f4.p0_e0 L 1000 some z14 z15) (fun z36 z37 z38 => f4.p0_r L 1000 some z36 z37 z38) n (i : Int) g.moves rows = some true := by
        intro n
        induction n with
        | zero => intro i _ h; omega
        | succ n ih =>
          intro i hi hn
          show f4.s0 L 1000 _ _ (f4.l0 L 1000 _ _ n) (i : Int) g.moves rows = _
          unfold f4.s0 f4.s0'
          by_cases hlt : i < rows.length
          · have hrl := s5 _ (List.getElem_mem hlt)
            have hris := hin.rises hlt
            rw [lt_cast hlt, cond_true]
            have row : ∀ (n' k : Nat), k ≤ (rows[i]).length → (rows[i]).length - k < n' → f4.l1 L 1000 (fun z20 z21 z22 => f4.p1_e2 L 1000 (fun z14 z15 => f4.p0_e0 L 1000 some z14 z15) (fun z36 z37 z38 => f4.p0_r L 1000 some z36 z37 z38) (f4.l0 L 1000 (fun z14 z15 => f4.p0_e0 L 1000 some z14 z15) (fun z36 z37 z38 => f4.p0_r L 1000 some z36 z37 z38) n) z20 z21 z22) (fun z28 z29 z30 z31 => f4.p1_r L 1000 (fun z14 z15 => f4.p0_e0 L 1000 some z14 z15) (fun z36 z37 z38 => f4.p0_r L 1000 some z36 z37 z38) (f4.l0 L 1000 (fun z14 z15 => f4.p0_e0 L 1000 some z14 z15) (fun z36 z37 z38 => f4.p0_r L 1000 some z36 z37 z38) n) z28 z29 z30 z31) n' (i : Int) (k : Int) g.moves rows = some true := by
              intro n'
              induction n' with
              | zero => intro k _ h; omega
              | succ n' ih2 =>
                intro k hk hn'
                show f4.s1 L 1000 _ _ (f4.l1 L 1000 _ _ n') (i : Int) (k : Int) g.moves rows = _
                unfold f4.s1 f4.s1'
                by_cases hkl : k < (rows[i]).length
                · have hne : ((rows[i])[k].act == 0) = false := beq_eq_false_iff_ne.2 (hin.act hlt (List.getElem_mem hkl)).1
                  simp only [lt_cast hlt, le0, Bool.and_true, cond_true, Int.toNat_natCast, at_lt hlt, lt_cast hkl, at_lt hkl, hne, cond_false]
                  by_cases hk0 : k = 0
                  · subst hk0
                    rw [df (show ¬ ((0 : Nat) : Int) > 0 by omega), cond_false, wi_nat (by omega)]
                    exact ih2 1 (by omega) (by omega)
                  · have hp : k - 1 < (rows[i]).length := by omega
                    have hw : wi ((k : Int) - 1) = ((k - 1 : Nat) : Int) := by rw [wi_id (by omega) (by omega)]; omega
                    have hlt2 := List.pairwise_iff_getElem.1 hris (k - 1) k (by simpa using hp) (by simpa using hkl) (by omega)
                    rw [List.getElem_map, List.getElem_map] at hlt2
                    have hne2 : ((rows[i])[k - 1].act == (rows[i])[k].act) = false := beq_eq_false_iff_ne.2 (by omega)
                    rw [dt (show (k : Int) > 0 by omega), cond_true, hw]
                    simp only [le0, lt_cast hp, Bool.and_true, cond_true, Int.toNat_natCast, at_lt hp, hne2, cond_false]
                    rw [wi_nat (by omega)]
                    exact ih2 (k + 1) (by omega) (by omega)
                · simp only [lt_cast hlt, le0, Bool.and_true, cond_true, Int.toNat_natCast, at_lt hlt, ge_cast hkl, cond_false]
                  show f4.l0 L 1000 _ _ n (wi ((i : Int) + 1)) g.moves rows = _
                  rw [wi_nat (by omega)]
                  exact ih (i + 1) (by omega) (by omega)
            exact row L 0 (by omega) (by omega)
          · rw [ge_cast hlt, cond_false]; exact fin
      exact key L 0 (by omega) (by omega)
end Go.Proofs.YtffkhhblppfbfaaGreatDoor.Ev
