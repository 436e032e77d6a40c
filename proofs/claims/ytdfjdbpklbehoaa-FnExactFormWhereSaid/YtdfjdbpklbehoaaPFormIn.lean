/- Plain laws of where formulas hold: the program's and the reference's are the same. No conditions but those that each states. -/
import Derived.Test.YtdfjdbpklbehoaaPForm3
import Derived.Test.YtdfjdbpklbehoaaPSlip
namespace Go.Proofs.Ytdfjdbpklbehoaa.Ev
open Go
set_option linter.unusedVariables false
set_option linter.unusedSimpArgs false

def mayP (a : Int) (q : List Bool) (m : Move) : Bool := m.act == a && q.getD m.to.toNat false
/-- does a formula hold in a state? qs: where its parts hold -/
def combAt (ms : List (List Move)) (o a : Int) (qs : List (List Bool)) (s : Nat) : Bool :=
  if o = 0 then true else if o = 1 then !((qs.getD 0 []).getD s false) else if o = 2 then (qs.getD 0 []).getD s false && (qs.getD 1 []).getD s false else (ms.getD s []).any (mayP a (qs.getD 0 []))
def comb (ms : List (List Move)) (o a : Int) (qs : List (List Bool)) : List Bool := (List.range ms.length).map (combAt ms o a qs)
theorem comb_len (ms : List (List Move)) (o a : Int) (qs : List (List Bool)) : (comb ms o a qs).length = ms.length := by simp [comb]
mutual
def fw (ms : List (List Move)) : Tree → List Bool
  | .mk o a ps => comb ms o a (fws ms ps)
def fws (ms : List (List Move)) : List Tree → List (List Bool)
  | [] => []
  | p :: r => fw ms p :: fws ms r
end
theorem fw_len (ms : List (List Move)) (t : Tree) : (fw ms t).length = ms.length := by obtain ⟨o, a, ps⟩ := t; exact comb_len _ _ _ _
theorem fws_eq (ms : List (List Move)) : ∀ ps : List Tree, fws ms ps = ps.map (fw ms)
  | [] => rfl
  | p :: r => by simp [fws, fws_eq ms r]

theorem getD_set_self {α : Type} {l : List α} {i : Nat} {a d : α} (h : i < l.length) : (l.set i a).getD i d = a := by
  rw [List.getD_eq_getElem?_getD, List.getElem?_set_self h]; rfl
theorem getD_set_ne {α : Type} {l : List α} {i j : Nat} {a d : α} (h : i ≠ j) : (l.set i a).getD j d = l.getD j d := by
  rw [List.getD_eq_getElem?_getD, List.getElem?_set_ne h, ← List.getD_eq_getElem?_getD]
theorem set_set_same {α : Type} {l : List α} {i : Nat} {a b : α} : (l.set i a).set i b = l.set i b := List.set_set ..
theorem set_getD {l : List Bool} {i : Nat} (h : i < l.length) : l.set i (l.getD i false) = l := by
  rw [getD_lt h]; exact List.set_getElem_self h
theorem any_take {α : Type} {p : α → Bool} {r : List α} {i : Nat} (h : i < r.length) : (r.take (i + 1)).any p = ((r.take i).any p || p r[i]) := by
  rw [List.take_succ_eq_append_getElem h, List.any_append]; simp
/-- a row that is filled from its head on -/
theorem fill_step {ys c : List Bool} {s : Nat} (hy : ys.length = c.length) (hs : s < c.length) (ht : ys.take s = c.take s) : (ys.set s c[s]).take (s + 1) = c.take (s + 1) := take_set hs hy ht

/-- the moves of a state lead to where a part holds -/
theorem may1 (L N : Nat) {R : Type} (self : Graph → Tree → Option (List Bool)) (K : Int → Int → List (List Move) → Int → Int → List Tree → List Bool → List (List Bool) → Option R) (ms : List (List Move)) (row : List Move) (s : Nat) (s26 o a : Int) (ps : List Tree) (qs : List (List Bool)) (out : List Bool)
    (hs : s < out.length) (hq : 0 < qs.length) (hto : ∀ (k : Nat) (hk : k < row.length), 0 ≤ row[k].to ∧ row[k].to < ((qs.getD 0 []).length : Int)) (hrow : row.length ≤ 1048576) :
    ∀ (n i : Nat) (b : Bool), i ≤ row.length → row.length - i < n → b = (row.take i).any (mayP a (qs.getD 0 [])) →
      f63.l2 L N self K n (s : Int) s26 (s : Int) row (row.length : Int) (i : Int) ms o a ps (out.set s b) qs = K s26 (s : Int) ms o a ps (out.set s (row.any (mayP a (qs.getD 0 [])))) qs := by
  intro n
  induction n with
  | zero => intro i b _ h; omega
  | succ n ih =>
    intro i b hi hn hb
    show f63.s2 L N self K (f63.l2 L N self K n) (s : Int) s26 (s : Int) row (row.length : Int) (i : Int) ms o a ps (out.set s b) qs = _
    unfold f63.s2 f63.s2'
    by_cases hlt : i < row.length
    · obtain ⟨h0, h1⟩ := hto i hlt
      obtain ⟨t, ht⟩ := Int.eq_ofNat_of_zero_le h0
      have htl : t < (qs.getD 0 []).length := by omega
      have step := any_take (p := mayP a (qs.getD 0 [])) hlt
      simp only [lt_cast hlt, le0, Bool.and_true, Bool.true_and, cond_true, Int.toNat_natCast, List.length_set, lt_cast hs, at_lt hlt, atD, getD_set_self hs, set_set_same, ht, wi_nat (show i < 9223372036854775807 by omega)]
      rw [dt (show (0 : Int) ≤ 0 by omega), dt (show (0 : Int) < (qs.length : Int) by omega)]
      simp only [Bool.and_true, cond_true, Int.toNat_zero, lt_cast htl]
      cases hbb : b
      · simp only [cond_false]
        cases hac : (row[i].act == a)
        · simp only [cond_false]
          refine ih (i + 1) false (by omega) (by omega) ?_
          rw [step, ← hb, hbb]
          simp [mayP, hac]
        · simp only [cond_true]
          refine ih (i + 1) _ (by omega) (by omega) ?_
          rw [step, ← hb, hbb]
          simp only [mayP, hac, ht, Int.toNat_natCast, Bool.true_and, Bool.false_or]
      · simp only [cond_true]
        refine ih (i + 1) true (by omega) (by omega) ?_
        rw [step, ← hb, hbb]; rfl
    · simp only [ge_cast hlt, cond_false]
      have hi' : i = row.length := by omega
      subst hi'
      rw [List.take_length] at hb
      rw [hb]

theorem good1_op {o n : Int} {k : Nat} (h : good1 o n k = true) : (o = 0 ∧ k = 0) ∨ (o = 1 ∧ k = 1) ∨ (o = 2 ∧ k = 2) ∨ (o = 3 ∧ k = 1) := by
  unfold good1 ar at h
  have h := of_decide_eq_true h
  obtain ⟨h1, h2, h3, -⟩ := h
  have : o = 0 ∨ o = 1 ∨ o = 2 ∨ o = 3 := by omega
  rcases this with rfl | rfl | rfl | rfl <;> simp_all

theorem formIn_ok (L N : Nat) (ms : List (List Move)) (hm : Leads ms) (hL : 1048576 < L) : ∀ (m : Nat) (t : Tree), nodes t ≤ m → nodes t ≤ 1048577 → shape t = true → f63 L N m ⟨ms⟩ t = some (fw ms t) := by
  have hlim := lim_eq
  have hn := hm.1
  intro m
  induction m with
  | zero => intro t h; have := nodes_pos t; omega
  | succ m ih =>
    intro t h hsz hsh
    obtain ⟨o, a, ps⟩ := t
    simp only [nodes] at h hsz
    have hll := nodess_len ps
    have hsh : (good1 o a ps.length && shapes ps) = true := hsh
    rw [Bool.and_eq_true] at hsh
    obtain ⟨hg, hsp⟩ := hsh
    show f63.b L N (f63 L N m) some ⟨ms⟩ (Tree.mk o a ps) = _
    unfold f63.b f63.b'
    refine (bif_t2 (by omega) (by show (ms.length : Int) ≤ _; omega)).trans ?_
    -- the parts
    have parts : ∀ {R : Type} (K : List (List Move) → Int → Int → List Tree → List Bool → List (List Bool) → Option R) (out : List Bool) (n i : Nat) (qs : List (List Bool)), i ≤ ps.length → ps.length - i < n → qs = fws ms (ps.take i) →
        f63.l0 L N (f63 L N m) K n ps (ps.length : Int) (i : Int) ms o a ps out qs = K ms o a ps out (fws ms ps) := by
      intro R K out n
      induction n with
      | zero => intro i qs _ h; omega
      | succ n ihn =>
        intro i qs hi hin hq
        show f63.s0 L N _ K (f63.l0 L N _ K n) ps (ps.length : Int) (i : Int) ms o a ps out qs = _
        unfold f63.s0 f63.s0'
        by_cases hlt : i < ps.length
        · have hgn := nodes_get hlt
          have hsi : shape ps[i] = true := by
            have := shapes_drop hlt
            have h2 : ∀ (l : List Tree) (j : Nat), shapes l = true → shapes (l.drop j) = true := fun l => by
              induction l with
              | nil => intro j h; simpa using h
              | cons p r ihl =>
                intro j h
                cases j with
                | zero => exact h
                | succ j => exact ihl j (by have h : (shape p && shapes r) = true := h; rw [Bool.and_eq_true] at h; exact h.2)
            rw [h2 ps i hsp] at this
            exact (Bool.and_eq_true _ _ ▸ this.symm).1
          have hlq : qs.length = i := by rw [hq, fws_eq]; simp; omega
          have hle : decide (qs.length + ([fw ms ps[i]] : List (List Bool)).length ≤ lim) = true := dt (by simp only [List.length_cons, List.length_nil]; omega)
          simp only [lt_cast hlt, le0, Bool.and_true, cond_true, Int.toNat_natCast, at_lt hlt, mk_eta, ih ps[i] (by omega) (by omega) hsi, Option.bind_some, hle, wi_nat (show i < 9223372036854775807 by omega)]
          refine ihn (i + 1) _ (by omega) (by omega) ?_
          rw [hq, fws_eq, fws_eq, List.take_succ_eq_append_getElem hlt, List.map_append]; rfl
        · simp only [ge_cast hlt, cond_false]
          have hi' : i = ps.length := by omega
          subst hi'
          rw [hq, List.take_length]
    refine (parts _ _ L 0 [] (by omega) (by omega) rfl).trans ?_
    have e0 : ((ms.length : Int)).toNat = ms.length := rfl
    rw [e0]
    generalize hqs : fws ms ps = qs
    have hql : qs.length = ps.length := by rw [← hqs, fws_eq, List.length_map]
    have hqi : ∀ j, j < ps.length → (qs.getD j []).length = ms.length := fun j hj => by
      rw [← hqs, fws_eq, List.getD_eq_getElem?_getD, List.getElem?_map, List.getElem?_eq_getElem hj]
      exact fw_len _ _
    show f63.p0_e0 L N (f63 L N m) some ms o a ps (List.replicate ms.length false) qs = some (fw ms (Tree.mk o a ps))
    have hfw : fw ms (Tree.mk o a ps) = comb ms o a qs := by rw [← hqs]; rfl
    rw [hfw]
    unfold f63.p0_e0 f63.p0_e0'
    have hcl := comb_len ms o a qs
    have key : ∀ (n s : Nat) (out : List Bool), out.length = ms.length → s ≤ ms.length → ms.length - s < n → out.take s = (comb ms o a qs).take s → (∀ j, s ≤ j → out.getD j false = false) →
        f63.l1 L N (f63 L N m) (fun z24 => f63.p1_e2 L N (f63 L N m) some z24) n (ms.length : Int) (s : Int) ms o a ps out qs = some (comb ms o a qs) := by
      intro n
      induction n with
      | zero => intro s out _ _ h; omega
      | succ n ihn =>
        intro s out hol hs hsn ht hf
        show f63.s1 L N _ _ (f63.l1 L N _ _ n) (ms.length : Int) (s : Int) ms o a ps out qs = _
        unfold f63.s1 f63.s1'
        by_cases hlt : s < ms.length
        · have hso : s < out.length := by omega
          have hcs : s < (comb ms o a qs).length := by omega
          have hce : (comb ms o a qs)[s] = combAt ms o a qs s := by simp [comb]
          have go : ∀ b, b = combAt ms o a qs s → f63.l1 L N (f63 L N m) (fun z24 => f63.p1_e2 L N (f63 L N m) some z24) n (ms.length : Int) ((s + 1 : Nat) : Int) ms o a ps (out.set s b) qs = some (comb ms o a qs) := by
            intro b hb
            refine ihn (s + 1) _ (by simp [hol]) (by omega) (by omega) ?_ fun j hj => ?_
            · rw [hb, ← hce]; exact fill_step (by omega) hcs ht
            · rw [getD_set_ne (by omega)]; exact hf j (by omega)
          rcases good1_op hg with ⟨rfl, hk⟩ | ⟨rfl, hk⟩ | ⟨rfl, hk⟩ | ⟨rfl, hk⟩
          · simp only [lt_cast hlt, cond_true, show ((0 : Int) == 0) = true from rfl, le0, lt_cast hso, Bool.and_true, Int.toNat_natCast, wi_nat (show s < 9223372036854775807 by omega)]
            exact go true rfl
          · have h0 := hqi 0 (by omega)
            simp only [lt_cast hlt, cond_true, cond_false, show ((1 : Int) == 0) = false from rfl, show ((1 : Int) == 1) = true from rfl, le0, lt_cast hso, Bool.and_true, Int.toNat_natCast, wi_nat (show s < 9223372036854775807 by omega), Int.toNat_zero, atD, h0,
              dt (show (0 : Int) ≤ 0 by omega), dt (show (0 : Int) < (qs.length : Int) by omega)]
            exact go _ rfl
          · have h0 := hqi 0 (by omega)
            have h1 := hqi 1 (by omega)
            simp only [lt_cast hlt, cond_true, cond_false, show ((2 : Int) == 0) = false from rfl, show ((2 : Int) == 1) = false from rfl, show ((2 : Int) == 2) = true from rfl, le0, lt_cast hso, Bool.and_true, Int.toNat_natCast, wi_nat (show s < 9223372036854775807 by omega), Int.toNat_zero, show ((1 : Int)).toNat = 1 from rfl, atD, h0, h1,
              dt (show (0 : Int) ≤ 0 by omega), dt (show (0 : Int) ≤ 1 by omega), dt (show (0 : Int) < (qs.length : Int) by omega), dt (show (1 : Int) < (qs.length : Int) by omega)]
            cases hb0 : (qs.getD 0 []).getD s false
            · simp only [cond_false]
              exact go false (by show false = ((qs.getD 0 []).getD s false && (qs.getD 1 []).getD s false); rw [hb0]; rfl)
            · simp only [cond_true]
              exact go _ (by show _ = ((qs.getD 0 []).getD s false && (qs.getD 1 []).getD s false); rw [hb0]; rfl)
          · have h0 := hqi 0 (by omega)
            simp only [lt_cast hlt, cond_true, cond_false, show ((3 : Int) == 0) = false from rfl, show ((3 : Int) == 1) = false from rfl, show ((3 : Int) == 2) = false from rfl, le0, Bool.and_true, Int.toNat_natCast, at_lt hlt]
            have hset : out = out.set s false := by
              have := set_getD hso
              rw [hf s (Nat.le_refl _)] at this
              exact this.symm
            have hstep := may1 L N (f63 L N m) (fun z37 z38 z39 z40 z41 z42 z43 z44 => f63.p2_e5 L N (f63 L N m) (fun z24 => f63.p1_e2 L N (f63 L N m) some z24) (f63.l1 L N (f63 L N m) (fun z24 => f63.p1_e2 L N (f63 L N m) some z24) n) z37 z38 z39 z40 z41 z42 z43 z44) ms ms[s] s (ms.length : Int) 3 a ps qs out hso (by omega)
              (fun k hk' => by rw [h0]; exact (hm.2 s hlt).2 k hk') (hm.2 s hlt).1 L 0 false (by omega) (by have := (hm.2 s hlt).1; omega) rfl
            rw [← hset] at hstep
            refine hstep.trans ?_
            show f63.l1 L N (f63 L N m) _ n (ms.length : Int) (wi ((s : Int) + 1)) ms 3 a ps _ qs = _
            rw [wi_nat (by omega)]
            refine go _ ?_
            show _ = (ms.getD s []).any (mayP a (qs.getD 0 []))
            rw [getD_lt hlt]
        · simp only [ge_cast hlt, cond_false]
          have hs' : s = ms.length := by omega
          subst hs'
          rw [List.take_of_length_le (by omega), List.take_of_length_le (by omega)] at ht
          rw [ht]; rfl
    simp only [List.length_replicate]
    exact key L 0 _ (by simp) (by omega) (by omega) rfl fun j _ => by
      rw [List.getD_eq_getElem?_getD, List.getElem?_replicate]; split <;> rfl
end Go.Proofs.Ytdfjdbpklbehoaa.Ev
