/- The plain law of FnExactFormWhere. No condition. -/
import Derived.Test.YtdfjdbpklbehoaaPFormIn
import Derived.Test.YtdfjdbpklbehoaaPMark
import Derived.Test.YtdfjdbpklbehoaaPWord
namespace Go.Proofs.Ytdfjdbpklbehoaa.Ev
open Go
set_option linter.unusedVariables false
set_option linter.unusedSimpArgs false

theorem may2 (L N : Nat) {R : Type} (self : Graph → Tree → Option (List Bool)) (K : List Bool → List Bool → Int → List (List Move) → Int → Int → List Tree → List Bool → Option R) (ms : List (List Move)) (s : Nat) (q q2 : List Bool) (o a : Int) (ps : List Tree) (out : List Bool)
    (hs : s < out.length) (hm : s < ms.length) (hto : ∀ (k : Nat) (hk : k < (ms[s]).length), 0 ≤ (ms[s])[k].to ∧ (ms[s])[k].to < (q.length : Int)) (hrow : (ms[s]).length ≤ 1048576) :
    ∀ (n i : Nat) (b : Bool), i ≤ (ms[s]).length → (ms[s]).length - i < n → b = ((ms[s]).take i).any (mayP a q) →
      f60.l1 L N self K n q q2 (s : Int) (i : Int) ms o a ps (out.set s b) = K q q2 (s : Int) ms o a ps (out.set s ((ms[s]).any (mayP a q))) := by
  intro n
  induction n with
  | zero => intro i b _ h; omega
  | succ n ih =>
    intro i b hi hn hb
    show f60.s1 L N self K (f60.l1 L N self K n) q q2 (s : Int) (i : Int) ms o a ps (out.set s b) = _
    unfold f60.s1 f60.s1'
    by_cases hlt : i < (ms[s]).length
    · obtain ⟨h0, h1⟩ := hto i hlt
      obtain ⟨t, ht⟩ := Int.eq_ofNat_of_zero_le h0
      have htl : t < q.length := by omega
      have step := any_take (p := mayP a q) hlt
      simp only [le0, Bool.and_true, Bool.true_and, cond_true, Int.toNat_natCast, List.length_set, lt_cast hs, lt_cast hm, at_lt hm, lt_cast hlt, at_lt hlt, atD, getD_set_self hs, set_set_same, ht, lt_cast htl, wi_nat (show i < 9223372036854775807 by omega)]
      cases hbb : b
      · simp only [cond_false]
        cases hac : ((ms[s])[i].act == a)
        · simp only [cond_false]
          refine ih (i + 1) false (by omega) (by omega) ?_
          rw [step, ← hb, hbb]
          simp [mayP, hac]
        · simp only [cond_true]
          refine ih (i + 1) _ (by omega) (by omega) ?_
          rw [step, ← hb, hbb]
          simp only [mayP, hac, ht, Int.toNat_natCast, Bool.true_and, Bool.false_or]
      · simp only [cond_true]
        refine ih (i + 1) true (by omega) (by omega) ?_
        rw [step, ← hb, hbb]; rfl
    · simp only [le0, lt_cast hm, Bool.and_true, cond_true, Int.toNat_natCast, at_lt hm, ge_cast hlt, cond_false]
      have hi' : i = (ms[s]).length := by omega
      subst hi'
      rw [List.take_length] at hb
      rw [hb]

theorem tr_op (o n : Int) (p : List Tree) : (Tree.mk o n p).op = o := rfl
theorem tr_n (o n : Int) (p : List Tree) : (Tree.mk o n p).n = n := rfl
theorem tr_parts (o n : Int) (p : List Tree) : (Tree.mk o n p).parts = p := rfl
theorem shapes_at {ps : List Tree} (h : shapes ps = true) {i : Nat} (hi : i < ps.length) : shape ps[i] = true := by
  induction ps generalizing i with
  | nil => simp at hi
  | cons p r ih =>
    have h : (shape p && shapes r) = true := h
    rw [Bool.and_eq_true] at h
    cases i with
    | zero => exact h.1
    | succ i => simpa using ih h.2 (i := i) (by simpa using hi)

theorem where7_ok (L N : Nat) (ms : List (List Move)) (hm : Leads ms) (hL : 1048576 < L) : ∀ (m : Nat) (t : Tree), nodes t ≤ m → nodes t ≤ 1048577 → shape t = true → f60 L N m ⟨ms⟩ t = some (fw ms t) := by
  have hlim := lim_eq
  have hn := hm.1
  intro m
  induction m with
  | zero => intro t h; have := nodes_pos t; omega
  | succ m ih =>
    intro t h hsz hsh
    have hfw : fw ms t = comb ms t.op t.n (fws ms t.parts) := by cases t; rfl
    have hnn : nodes t = 1 + nodess t.parts := by cases t; rfl
    have hsh : (good1 t.op t.n t.parts.length && shapes t.parts) = true := by cases t; exact hsh
    rw [hfw]
    rw [hnn] at h hsz
    show f60.b L N (f60 L N m) some ⟨ms⟩ t = _
    unfold f60.b f60.b'
    refine (bif_t2 (by omega) (by show (ms.length : Int) ≤ _; omega)).trans ?_
    have e0 : ((ms.length : Int)).toNat = ms.length := rfl
    clear hfw hnn
    generalize t.op = o at *
    generalize t.n = a at *
    generalize t.parts = ps at *
    have hll := nodess_len ps
    rw [Bool.and_eq_true] at hsh
    obtain ⟨hg, hsp⟩ := hsh
    by_cases hp : 0 < ps.length
    · have hlast : wi ((ps.length : Int) - 1) = ((ps.length - 1 : Nat) : Int) := by rw [wi_id (by omega) (by omega)]; omega
      have hn0 := nodes_get hp
      have hn1 := nodes_get (show ps.length - 1 < ps.length by omega)
      have hw0 := ih ps[0] (by omega) (by omega) (shapes_at hsp hp)
      have hw1 := ih ps[ps.length - 1] (by omega) (by omega) (shapes_at hsp (show ps.length - 1 < ps.length by omega))
      rw [dt (show (ps.length : Int) > 0 by omega), cond_true]
      have z0 : (decide ((0 : Int) ≤ 0) && decide ((0 : Int) < (ps.length : Int))) = true := by rw [dt (by omega), dt (by omega)]; rfl
      simp only [z0, cond_true, hlast, le0, lt_cast (show ps.length - 1 < ps.length by omega), Bool.and_true, Int.toNat_natCast, at_lt (show ps.length - 1 < ps.length by omega), Int.toNat_zero, at_lt hp, hw0, hw1, Option.bind_some, dt (show (0 : Int) ≤ 0 by omega)]
      unfold f60.j0'
      try rw [e0]
      generalize hqs : fws ms ps = qs
      have hq0 : qs.getD 0 [] = fw ms ps[0] := by
        rw [← hqs, fws_eq, List.getD_eq_getElem?_getD, List.getElem?_map, List.getElem?_eq_getElem hp]; rfl
      have hq1 : ∀ h1 : 1 < ps.length, qs.getD 1 [] = fw ms ps[1] := fun h1 => by
        rw [← hqs, fws_eq, List.getD_eq_getElem?_getD, List.getElem?_map, List.getElem?_eq_getElem h1]; rfl
      have hcl := comb_len ms o a qs
      have hf0 := fw_len ms ps[0]
      have hf1 := fw_len ms ps[ps.length - 1]
      have key : ∀ (n s : Nat) (out : List Bool), out.length = ms.length → s ≤ ms.length → ms.length - s < n → out.take s = (comb ms o a qs).take s → (∀ j, s ≤ j → out.getD j false = false) →
          f60.l0 L N (f60 L N m) (fun z17 => f60.p0_e0 L N (f60 L N m) some z17) n (fw ms ps[0]) (fw ms ps[ps.length - 1]) (s : Int) ms o a ps out = some (comb ms o a qs) := by
        intro n
        induction n with
        | zero => intro s out _ _ h; omega
        | succ n ihn =>
          intro s out hol hs hsn ht hf
          show f60.s0 L N _ _ (f60.l0 L N _ _ n) (fw ms ps[0]) (fw ms ps[ps.length - 1]) (s : Int) ms o a ps out = _
          unfold f60.s0 f60.s0'
          by_cases hlt : s < ms.length
          · have hso : s < out.length := by omega
            have hcs : s < (comb ms o a qs).length := by omega
            have hce : (comb ms o a qs)[s] = combAt ms o a qs s := by simp [comb]
            have go : ∀ b, b = combAt ms o a qs s → f60.l0 L N (f60 L N m) (fun z17 => f60.p0_e0 L N (f60 L N m) some z17) n (fw ms ps[0]) (fw ms ps[ps.length - 1]) ((s + 1 : Nat) : Int) ms o a ps (out.set s b) = some (comb ms o a qs) := by
              intro b hb
              refine ihn (s + 1) _ (by simp [hol]) (by omega) (by omega) ?_ fun j hj => ?_
              · rw [hb, ← hce]; exact fill_step (by omega) hcs ht
              · rw [getD_set_ne (by omega)]; exact hf j (by omega)
            rcases good1_op hg with ⟨rfl, hk⟩ | ⟨rfl, hk⟩ | ⟨rfl, hk⟩ | ⟨rfl, hk⟩
            · omega
            · simp only [lt_cast hso, cond_true, cond_false, show ((1 : Int) == 0) = false from rfl, show ((1 : Int) == 1) = true from rfl, le0, Bool.and_true, Int.toNat_natCast, wi_nat (show s < 9223372036854775807 by omega), atD, lt_cast (show s < (fw ms ps[0]).length by omega)]
              exact go _ (by show _ = !((qs.getD 0 []).getD s false); rw [hq0])
            · have e2 : ps[ps.length - 1] = ps[1] := by congr 1; omega
              simp only [lt_cast hso, cond_true, cond_false, show ((2 : Int) == 0) = false from rfl, show ((2 : Int) == 1) = false from rfl, show ((2 : Int) == 2) = true from rfl, le0, Bool.and_true, Int.toNat_natCast, wi_nat (show s < 9223372036854775807 by omega), atD, lt_cast (show s < (fw ms ps[0]).length by omega), lt_cast (show s < (fw ms ps[ps.length - 1]).length by omega)]
              cases hb0 : (fw ms ps[0]).getD s false
              · simp only [cond_false]
                exact go false (by show false = ((qs.getD 0 []).getD s false && (qs.getD 1 []).getD s false); rw [hq0, hb0]; rfl)
              · simp only [cond_true]
                exact go _ (by show _ = ((qs.getD 0 []).getD s false && (qs.getD 1 []).getD s false); rw [hq0, hb0, hq1 (by omega), e2]; rfl)
            · simp only [lt_cast hso, cond_true, cond_false, show ((3 : Int) == 0) = false from rfl, show ((3 : Int) == 1) = false from rfl, show ((3 : Int) == 2) = false from rfl]
              have hset : out = out.set s false := by
                have := set_getD hso
                rw [hf s (Nat.le_refl _)] at this
                exact this.symm
              have hstep := may2 L N (f60 L N m) (fun z27 z28 z29 z30 z31 z32 z33 z34 => f60.p1_e3 L N (f60 L N m) (fun z17 => f60.p0_e0 L N (f60 L N m) some z17) (f60.l0 L N (f60 L N m) (fun z17 => f60.p0_e0 L N (f60 L N m) some z17) n) z27 z28 z29 z30 z31 z32 z33 z34) ms s (fw ms ps[0]) (fw ms ps[ps.length - 1]) 3 a ps out hso hlt
                (fun k hk' => by rw [hf0]; exact (hm.2 s hlt).2 k hk') (hm.2 s hlt).1 L 0 false (by omega) (by have := (hm.2 s hlt).1; omega) rfl
              rw [← hset] at hstep
              refine hstep.trans ?_
              show f60.l0 L N (f60 L N m) _ n (fw ms ps[0]) (fw ms ps[ps.length - 1]) (wi ((s : Int) + 1)) ms 3 a ps _ = _
              rw [wi_nat (by omega)]
              refine go _ ?_
              show _ = (ms.getD s []).any (mayP a (qs.getD 0 []))
              rw [getD_lt hlt, hq0]
          · simp only [ge_cast (show ¬ s < out.length by omega), cond_false]
            have hs' : s = ms.length := by omega
            subst hs'
            rw [List.take_of_length_le (by omega), List.take_of_length_le (by omega)] at ht
            rw [ht]; rfl
      exact key L 0 _ (by simp) (by omega) (by omega) rfl fun j _ => by
        rw [List.getD_eq_getElem?_getD, List.getElem?_replicate]; split <;> rfl
    · rw [df (show ¬ (ps.length : Int) > 0 by omega), cond_false]
      unfold f60.j1'
      try rw [e0]
      obtain rfl : o = 0 := by rcases good1_op hg with ⟨h, -⟩ | ⟨-, h⟩ | ⟨-, h⟩ | ⟨-, h⟩ <;> omega
      generalize hqs : fws ms ps = qs
      have hcl := comb_len ms 0 a qs
      have key : ∀ (n s : Nat) (out : List Bool), out.length = ms.length → s ≤ ms.length → ms.length - s < n → out.take s = (comb ms 0 a qs).take s →
          f60.l2 L N (f60 L N m) (fun z63 => f60.p2_e0 L N (f60 L N m) some z63) n (s : Int) ms 0 a ps out = some (comb ms 0 a qs) := by
        intro n
        induction n with
        | zero => intro s out _ _ h; omega
        | succ n ihn =>
          intro s out hol hs hsn ht
          show f60.s2 L N _ _ (f60.l2 L N _ _ n) (s : Int) ms 0 a ps out = _
          unfold f60.s2 f60.s2'
          by_cases hlt : s < ms.length
          · have hso : s < out.length := by omega
            have hcs : s < (comb ms 0 a qs).length := by omega
            have hce : (comb ms 0 a qs)[s] = true := by simp [comb, combAt]
            simp only [lt_cast hso, cond_true, show ((0 : Int) == 0) = true from rfl, le0, Bool.and_true, Int.toNat_natCast, wi_nat (show s < 9223372036854775807 by omega)]
            refine ihn (s + 1) _ (by simp [hol]) (by omega) (by omega) ?_
            rw [← hce]; exact fill_step (by omega) hcs ht
          · simp only [ge_cast (show ¬ s < out.length by omega), cond_false]
            have hs' : s = ms.length := by omega
            subst hs'
            rw [List.take_of_length_le (by omega), List.take_of_length_le (by omega)] at ht
            rw [ht]; rfl
      exact key L 0 _ (by simp) (by omega) (by omega) rfl

/-! ### The states where it holds -/
def trues (c : List Bool) : List Int := ((List.range c.length).filter fun i => c.getD i false).map fun (i : Nat) => (i : Int)
theorem trues_len (c : List Bool) : (trues c).length ≤ c.length := by
  unfold trues
  rw [List.length_map]
  exact Nat.le_trans (List.length_filter_le _ _) (by simp)
def truesTo (c : List Bool) (i : Nat) : List Int := ((List.range i).filter fun i => c.getD i false).map fun (i : Nat) => (i : Int)
theorem truesTo_succ (c : List Bool) (i : Nat) : truesTo c (i + 1) = truesTo c i ++ (bif c.getD i false then [(i : Int)] else []) := by
  unfold truesTo
  rw [List.range_succ, List.filter_append, List.map_append]
  congr 1
  cases h : c.getD i false <;> simp only [List.filter_cons, List.filter_nil, h] <;> rfl
theorem truesTo_len (c : List Bool) (i : Nat) : (truesTo c i).length ≤ i := by
  unfold truesTo
  rw [List.length_map]
  exact Nat.le_trans (List.length_filter_le _ _) (by simp)

theorem formWhere1_ok (L N : Nat) (g : Graph) (t : Tree) (hL : 1048577 < L) (hg : g.moves.length + gsize g.moves ≤ 1048576) (hN : nodes t ≤ N) (ht : nodes t ≤ 1048577) (hT : TOk t) :
    f20 L N g t = some (bif graphOk g && (decide (nodes t ≤ 60) && shape t) then trues (fw g.moves t) else []) := by
  have hlim := lim_eq
  have hge : Graph.mk g.moves = g := by cases g; rfl
  show f20.b L N some g t = _
  unfold f20.b f20.b'
  rw [hge, gok1_ok L N g (by omega) hg]
  simp only [Option.bind_some, mk_eta, formOk_ok L N t hN (by omega) (by omega) hT]
  cases hgk : graphOk g
  · rfl
  · cases hf : (decide (nodes t ≤ 60) && shape t)
    · rfl
    · simp only [Bool.not_true, cond_false, Bool.and_true, cond_true]
      unfold f20.j0'
      rw [Bool.and_eq_true] at hf
      have hm := leads_of hgk hg
      have hn := hm.1
      rw [mk_eta, formIn_ok L N g.moves hm (by omega) N t hN (by omega) hf.2]
      simp only [Option.bind_some]
      generalize hc : fw g.moves t = c
      have hcl : c.length = g.moves.length := by rw [← hc]; exact fw_len _ _
      have key : ∀ (n i : Nat), i ≤ c.length → c.length - i < n → f20.l0 L N (fun z18 => f20.p0_e0 L N some z18) n c (c.length : Int) (i : Int) (truesTo c i) = some (trues c) := by
        intro n
        induction n with
        | zero => intro i _ h; omega
        | succ n ih =>
          intro i hi hin
          show f20.s0 L N _ (f20.l0 L N _ n) c (c.length : Int) (i : Int) (truesTo c i) = _
          unfold f20.s0 f20.s0'
          by_cases hlt : i < c.length
          · have hl := truesTo_len c i
            have hs := truesTo_succ c i
            have hle : decide ((truesTo c i).length + ([(i : Int)] : List Int).length ≤ lim) = true := dt (by simp only [List.length_cons, List.length_nil]; omega)
            simp only [lt_cast hlt, le0, Bool.and_true, cond_true, Int.toNat_natCast, atD, hle, wi_nat (show i < 9223372036854775807 by omega)]
            cases hb : c.getD i false
            · rw [hb] at hs
              simp only [cond_false, List.append_nil] at hs ⊢
              rw [← hs]; exact ih (i + 1) (by omega) (by omega)
            · rw [hb] at hs
              simp only [cond_true] at hs ⊢
              rw [← hs]; exact ih (i + 1) (by omega) (by omega)
          · simp only [ge_cast hlt, cond_false]
            have hi' : i = c.length := by omega
            subst hi'
            rfl
      exact key L 0 (by omega) (by omega)

theorem formWhere2_ok (L N : Nat) (g : Graph) (t : Tree) (hL : 1048577 < L) (hg : g.moves.length + gsize g.moves ≤ 1048576) (hN : nodes t ≤ N) (ht : nodes t ≤ 1048577) (hT : TOk t) :
    f17 L N g t = some (bif graphOk g && (decide (nodes t ≤ 60) && shape t) then trues (fw g.moves t) else []) := by
  have hlim := lim_eq
  have hge : Graph.mk g.moves = g := by cases g; rfl
  show f17.b L N some g t = _
  unfold f17.b f17.b'
  rw [hge, gok2_ok L N g (by omega) hg]
  simp only [Option.bind_some, mk_eta, formOk2_ok L N t hN (by omega) hT]
  cases hgk : graphOk g
  · rfl
  · cases hf : (decide (nodes t ≤ 60) && shape t)
    · rfl
    · simp only [Bool.not_true, cond_false, Bool.and_true, cond_true]
      unfold f17.j0'
      rw [Bool.and_eq_true] at hf
      have hm := leads_of hgk hg
      have hn := hm.1
      rw [mk_eta, where7_ok L N g.moves hm (by omega) N t hN (by omega) hf.2]
      simp only [Option.bind_some]
      generalize hc : fw g.moves t = c
      have hcl : c.length = g.moves.length := by rw [← hc]; exact fw_len _ _
      have key : ∀ (n i : Nat), i ≤ c.length → c.length - i < n → f17.l0 L N (fun z17 => f17.p0_e0 L N some z17) n c (i : Int) (truesTo c i) = some (trues c) := by
        intro n
        induction n with
        | zero => intro i _ h; omega
        | succ n ih =>
          intro i hi hin
          show f17.s0 L N _ (f17.l0 L N _ n) c (i : Int) (truesTo c i) = _
          unfold f17.s0 f17.s0'
          by_cases hlt : i < c.length
          · have hl := truesTo_len c i
            have hs := truesTo_succ c i
            have hle : decide ((truesTo c i).length + ([(i : Int)] : List Int).length ≤ lim) = true := dt (by simp only [List.length_cons, List.length_nil]; omega)
            simp only [lt_cast hlt, le0, Bool.and_true, cond_true, Int.toNat_natCast, atD, hle, wi_nat (show i < 9223372036854775807 by omega)]
            cases hb : c.getD i false
            · rw [hb] at hs
              simp only [cond_false, List.append_nil] at hs ⊢
              rw [← hs]; exact ih (i + 1) (by omega) (by omega)
            · rw [hb] at hs
              simp only [cond_true] at hs ⊢
              rw [← hs]; exact ih (i + 1) (by omega) (by omega)
          · simp only [ge_cast hlt, cond_false]
            have hi' : i = c.length := by omega
            subst hi'
            rfl
      exact key L 0 (by omega) (by omega)

/-- marks in formulas: the number behind the last one -/
theorem markForms_ok (L N : Nat) : ∀ (m : Nat) (ps : List Tree) (k : Int), nodess ps < m → nodess ps < L → nodess ps ≤ 1048576 → 0 ≤ k → k + 2 * (nodess ps : Int) ≤ 4611686018427387904 →
    ∃ ys, f67 L N m ps k = some (k + 2 * (nodess ps : Int), ys) := by
  intro m
  induction m with
  | zero => intro ps k h; omega
  | succ m ih =>
    intro ps k h hL hl h0 hk
    have hll := nodess_len ps
    show ∃ ys, f67.b L N (f67 L N m) ps.length _ ps k = _
    unfold f67.b f67.b'
    have key : ∀ (n i : Nat) (s : Int) (ys : List Tree), ys.length = ps.length → i ≤ ps.length → ps.length - i < n → ys.drop i = ps.drop i → 0 ≤ s → s + 2 * (nodess (ps.drop i) : Int) = k + 2 * (nodess ps : Int) →
        ∃ zs, f67.l0 L N (f67 L N m) ps.length (fun z3 z4 => f67.p0_e0 L N (f67 L N m) ps.length (fun a0 a1 => some (a0, a1)) z3 z4) n s (i : Int) ys = some (k + 2 * (nodess ps : Int), zs) := by
      intro n
      induction n with
      | zero => intro i s ys _ _ h; omega
      | succ n ihn =>
        intro i s ys hy hi hin hd hs0 hsum
        show ∃ zs, f67.s0 L N _ ps.length _ (f67.l0 L N _ ps.length _ n) s (i : Int) ys = _
        unfold f67.s0 f67.s0'
        by_cases hlt : i < ys.length
        · have hlp : i < ps.length := by omega
          have hyi : ys[i] = ps[i] := by
            have := congrArg (fun l => l[0]?) hd
            simp only [List.getElem?_drop, Nat.add_zero, List.getElem?_eq_getElem hlt, List.getElem?_eq_getElem hlp] at this
            exact Option.some.inj this
          have hnd := nodess_drop hlp
          have hng := nodes_get hlp
          have hdl := nodess_drop_le ps (i + 1)
          have hnp : nodes ps[i] = 1 + nodess ps[i].parts := by cases ps[i]; rfl
          obtain ⟨zs, hz⟩ := ih ps[i].parts (s + 2) (by omega) (by omega) (by omega) (by omega) (by omega)
          have hw : wi (wi (s + 1) + 1) = s + 2 := by rw [wi_id (n := s + 1) (by omega) (by omega), wi_id (by omega) (by omega)]; omega
          simp only [lt_cast hlt, le0, cond_true, Bool.and_true, Int.toNat_natCast, List.length_set, atD, getD_set_self hlt, getD_set_self (show i < (ys.set i _).length by simpa using hlt), set_set_same, getD_lt hlt, hyi, tr_op, tr_n, tr_parts, hw]
          rw [show f67 L N m ps[i].parts (s + 2) = _ from hz]
          simp only [Option.bind_some]
          rw [wi_nat (by omega)]
          refine ihn (i + 1) _ _ (by simp [hy]) (by omega) (by omega) ?_ (by omega) (by omega)
          rw [List.drop_set_of_lt (by omega)]
          have := congrArg (fun l => l.drop 1) hd
          simpa [List.drop_drop] using this
        · simp only [ge_cast hlt, cond_false]
          have hi' : i = ps.length := by omega
          subst hi'
          unfold f67.p0_e0 f67.p0_e0'
          rw [hy, Nat.beq_refl, cond_true]
          rw [List.drop_length] at hsum
          have hs : s = k + 2 * (nodess ps : Int) := by
            have : ((nodess ([] : List Tree) : Nat) : Int) = 0 := rfl
            rw [this] at hsum; omega
          rw [hs]
          exact ⟨_, rfl⟩
    exact key L 0 k ps rfl (by omega) (by omega) rfl h0 (by rw [List.drop_zero])

/-- FnExactFormWhere -/
theorem exactFormWhere (g : Graph) (hg : DatOk (.st 2) g) (t : Tree) (ht : DatOk (.st 1) t) : ∃ L N, f3 L N g t = some true := by
  have hge : Graph.mk g.moves = g := by cases g; rfl
  have hT := treeOk ht
  have hlim := lim_eq
  -- L and N: enough for the formula's nodes, whatever they are
  refine ⟨268435456 + nodes t, 2 * nodes t + 10, ?_⟩
  generalize hLL : 268435456 + nodes t = L
  generalize hNN : 2 * nodes t + 10 = N
  show f3.b _ _ some g t = _
  unfold f3.b f3.b'
  rw [hge]
  obtain ⟨r, hr, hc⟩ := szGraph_ok L N g hg (by omega)
  rw [hr]
  simp only [Option.bind_some]
  by_cases hn : r < 0
  · rw [dt hn, cond_true]
  · rw [df hn, cond_false, mk_eta]
    have hsz : g.moves.length + gsize g.moves ≤ 1048576 := by omega
    rw [(sz_ok L N N).1 t r hT (by omega) (by omega) (by omega) (by omega)]
    simp only [Option.bind_some]
    have hnt : nodes t = 1 + nodess t.parts := by cases t; rfl
    unfold szRes
    by_cases hc2 : (nodess t.parts : Int) ≤ r
    · rw [if_pos hc2, df (show ¬ r - (nodess t.parts : Int) < 0 by omega), cond_false]
      have ht1 : nodes t ≤ 1048577 := by omega
      have h1 := formWhere1_ok L N g t (by omega) hsz (by omega) (by omega) hT
      have h2 := formWhere2_ok L N g t (by omega) hsz (by omega) (by omega) hT
      generalize hq : (bif graphOk g && (decide (nodes t ≤ 60) && shape t) then trues (fw g.moves t) else []) = q at h1 h2
      have hql : q.length ≤ 1048576 := by
        rw [← hq]
        cases (graphOk g && (decide (nodes t ≤ 60) && shape t))
        · simp
        · have := trues_len (fw g.moves t)
          rw [fw_len] at this
          simp only [cond_true]; omega
      have hto := (to_ok L N N).1 t (by omega) (by omega) (by omega)
      have heq := (eq_ok L N N).1 t (by omega) (by omega) (by omega)
      obtain ⟨j, ys, m1, m2, m3⟩ := markMoveSS_ok L N g.moves 1 (by omega) (fun r hr => by have := gsize_row r hr; omega) (by omega) (by omega) (by omega)
      obtain ⟨zs, m4⟩ := markForms_ok L N N t.parts j (by omega) (by omega) (by omega) (by omega) (by omega)
      have m5 := markIntS_ok L N q 1 (by omega) (by omega) (by omega) (by omega)
      have m6 := heldIntS_ok L N 1 q.length (by omega) (by omega) (by omega) (by omega)
      simp only [toGraph_ok L N g (by omega) hsz, hto, mk_eta, hge, h1, h2, Option.bind_some, eqGraph_ok L N g (by omega) hsz, heq, eqIntS_ok L N q (by omega) (by omega), Bool.not_true, cond_false, m1, m4]
      rw [df (show ¬ j + 2 * (nodess t.parts : Int) < 0 by omega)]
      simp only [cond_false]
      unfold f3.j0'
      simp only [m5, m6, toGraph_ok L N g (by omega) hsz, hto, mk_eta, hge, h1, Option.bind_some, eqIntS_ok L N q (by omega) (by omega), bne_self_eq_false, Bool.not_true, cond_false]
      rw [df (show ¬ (1 : Int) + (q.length : Int) < 0 by omega)]
      simp only [cond_false]
    · rw [if_neg hc2, dt (show (-1 : Int) < 0 by omega), cond_true]
end Go.Proofs.Ytdfjdbpklbehoaa.Ev
