/- Plain laws of formulas: copies, likeness, which are formulas. No conditions but those that each states. -/
import Derived.Test.YtdfjdbpklbehoaaPForm2
namespace Go.Proofs.Ytdfjdbpklbehoaa.Ev
open Go
set_option linter.unusedVariables false

theorem take_set' {α : Type} {x ys : List α} {i : Nat} (a : α) (ha : ∀ h : i < x.length, x[i] = a) (hi : i < x.length) (hy : ys.length = x.length) (h : ys.take i = x.take i) : (ys.set i a).take (i + 1) = x.take (i + 1) := by
  rw [← ha hi]; exact take_set hi hy h

/-- laws.toForm: a copy -/
theorem to_ok (L N : Nat) : ∀ m : Nat, (∀ t : Tree, 2 * nodes t ≤ m → nodes t < L → nodes t ≤ lim → f19 L N m t = some (t.op, t.n, t.parts)) ∧
    (∀ ps : List Tree, 2 * nodess ps + 1 ≤ m → nodess ps < L → nodess ps ≤ lim → f62 L N m ps = some ps) := by
  intro m
  induction m with
  | zero => exact ⟨fun t h => by have := nodes_pos t; omega, fun ps h => by omega⟩
  | succ m ih =>
    refine ⟨fun t h hL hl => ?_, fun ps h hL hl => ?_⟩
    · obtain ⟨o, a, ps⟩ := t
      simp only [nodes] at h hL hl
      show f19.b L N _ _ (fun a0 a1 a2 => some (a0, a1, a2)) (Tree.mk o a ps) = _
      unfold f19.b f19.b'
      show ((f62 L N m ps).bind _) = _
      rw [ih.2 ps (by omega) (by omega) (by omega)]
      rfl
    · have hll := nodess_len ps
      have hlim : lim = 1099511627776 := rfl
      show f62.b L N _ _ some ps = _
      unfold f62.b f62.b'
      simp only [le0, dt (show ((ps.length : Int) ≤ (lim : Int)) by omega), cond_true, Bool.and_true]
      have key : ∀ (n i : Nat) (ys : List Tree), ps.length - i < n → i ≤ ps.length → ys.length = ps.length → ys.take i = ps.take i →
          f62.l0 L N (f19 L N m) (f62 L N m) (fun z => f62.p0_e0 L N (f19 L N m) (f62 L N m) some z) n ps (i : Int) ys = some ps := by
        intro n
        induction n with
        | zero => intro i ys h; omega
        | succ n ihn =>
          intro i ys h2 hi hy hj
          show f62.s0 L N _ _ _ (f62.l0 L N _ _ _ n) ps i ys = _
          unfold f62.s0 f62.s0'
          by_cases hlt : i < ps.length
          · have hg := nodes_get hlt
            simp only [lt_cast hlt, le0, lt_cast (show i < ys.length by omega), cond_true, Bool.and_true, wi_nat (show i < 9223372036854775807 by omega), Int.toNat_natCast, at_lt hlt]
            rw [ih.1 ps[i] (by omega) (by omega) (by omega)]
            simp only [Option.bind_some, mk_eta]
            exact ihn (i + 1) _ (by omega) (by omega) (by simp [hy]) (take_set hlt hy hj)
          · simp only [ge_cast hlt, cond_false]
            have hi' : i = ps.length := by omega
            subst hi'
            rw [List.take_length, ← hy, List.take_length] at hj
            rw [hj]; rfl
      exact key L 0 _ (by omega) (by omega) (by simp) (by simp)

/-- laws.eqForm of a form and itself -/
theorem eq_ok (L N : Nat) : ∀ m : Nat, (∀ t : Tree, 2 * nodes t ≤ m → nodes t < L → nodes t ≤ lim → f23 L N m t t = some true) ∧
    (∀ ps : List Tree, 2 * nodess ps + 1 ≤ m → nodess ps < L → nodess ps ≤ lim → f65 L N m ps ps = some true) := by
  intro m
  induction m with
  | zero => exact ⟨fun t h => by have := nodes_pos t; omega, fun ps h => by omega⟩
  | succ m ih =>
    refine ⟨fun t h hL hl => ?_, fun ps h hL hl => ?_⟩
    · obtain ⟨o, a, ps⟩ := t
      simp only [nodes] at h hL hl
      show f23.b L N _ _ some (Tree.mk o a ps) (Tree.mk o a ps) = _
      unfold f23.b f23.b'
      simp only [bne_self_eq_false, cond_false]
      show ((f65 L N m ps ps).bind _) = _
      rw [ih.2 ps (by omega) (by omega) (by omega)]
      rfl
    · have hll := nodess_len ps
      have hlim : lim = 1099511627776 := rfl
      show f65.b L N _ _ some ps ps = _
      unfold f65.b f65.b'
      simp only [bne_self_eq_false, cond_false]
      have key : ∀ (n i : Nat), ps.length - i < n → i ≤ ps.length →
          f65.l0 L N (f23 L N m) (f65 L N m) (f65.p0_e0 L N (f23 L N m) (f65 L N m) some) (fun z => f65.p0_r L N (f23 L N m) (f65 L N m) some z) n ps ps (i : Int) = some true := by
        intro n
        induction n with
        | zero => intro i h; omega
        | succ n ihn =>
          intro i h2 hi
          show f65.s0 L N _ _ _ _ (f65.l0 L N _ _ _ _ n) ps ps i = _
          unfold f65.s0 f65.s0'
          by_cases hlt : i < ps.length
          · have hg := nodes_get hlt
            simp only [lt_cast hlt, le0, cond_true, Bool.and_true, wi_nat (show i < 9223372036854775807 by omega), Int.toNat_natCast, at_lt hlt]
            rw [ih.1 ps[i] (by omega) (by omega) (by omega)]
            exact ihn (i + 1) (by omega) (by omega)
          · simp only [ge_cast hlt, cond_false]
            rfl
      exact key L 0 (by omega) (by omega)

/-- impl.formNodes -/
theorem fnodes_ok (L N : Nat) : ∀ (m : Nat) (t : Tree) (most : Int), nodes t ≤ m → nodes t < L → nodes t ≤ lim → 0 ≤ most → most ≤ 1000 →
    ∃ r : Int, f92 L N m t most = some r ∧ ((nodes t : Int) ≤ most → r = nodes t) ∧ (most < (nodes t : Int) → most < r ∧ r ≤ nodes t) := by
  intro m
  induction m with
  | zero => intro t most h; have := nodes_pos t; omega
  | succ m ih =>
    intro t most h hL hl h0 h1
    obtain ⟨o, a, ps⟩ := t
    have hlim : lim = 1099511627776 := rfl
    simp only [nodes] at h hL hl ⊢
    have hll := nodess_len ps
    show ∃ r, f92.b L N _ some (Tree.mk o a ps) most = some r ∧ _
    unfold f92.b f92.b'
    have key : ∀ (n i : Nat) (k : Int), ps.length - i < n → i ≤ ps.length → 1 ≤ k → k ≤ 1 + nodess ps - nodess (ps.drop i) → (k ≤ most → k = 1 + nodess ps - nodess (ps.drop i)) →
        ∃ r : Int, f92.l0 L N (f92 L N m) (fun z => f92.p0_e0 L N (f92 L N m) some z) (fun z z' => f92.p0_r L N (f92 L N m) some z z') n most k ps (ps.length : Int) (i : Int) = some r ∧
          (((1 + nodess ps : Nat) : Int) ≤ most → r = (1 + nodess ps : Nat)) ∧ (most < ((1 + nodess ps : Nat) : Int) → most < r ∧ r ≤ (1 + nodess ps : Nat)) := by
      intro n
      induction n with
      | zero => intro i k h; omega
      | succ n ihn =>
        intro i k h2 hi k1 k2 k3
        have hdl := nodess_drop_le ps i
        show ∃ r, f92.s0 L N _ _ _ (f92.l0 L N _ _ _ n) most k ps (ps.length : Int) i = some r ∧ _
        unfold f92.s0 f92.s0'
        by_cases hlt : i < ps.length
        · have hg := nodes_get hlt
          have hd := nodess_drop hlt
          simp only [lt_cast hlt, le0, cond_true, Bool.and_true, wi_nat (show i < 9223372036854775807 by omega), Int.toNat_natCast, at_lt hlt]
          by_cases hk : k > most
          · rw [dt hk, cond_true]
            exact ⟨k, rfl, by omega, by omega⟩
          · rw [df hk, cond_false, wi_id (by omega) (by omega)]
            obtain ⟨r, hr, r1, r2⟩ := ih ps[i] (most - k) (by omega) (by omega) (by omega) (by omega) (by omega)
            have he : Tree.mk (ps[i]).op (ps[i]).n (ps[i]).parts = ps[i] := by cases ps[i]; rfl
            have hp := nodes_pos ps[i]
            rw [he, hr]
            simp only [Option.bind_some]
            have hr0 : 0 ≤ r ∧ r ≤ nodes ps[i] := by
              by_cases hc : (nodes ps[i] : Int) ≤ most - k
              · have := r1 hc; omega
              · have := r2 (by omega); omega
            rw [wi_id (by omega) (by omega)]
            refine ihn (i + 1) (k + r) (by omega) (by omega) (by omega) (by omega) (fun hkr => ?_)
            by_cases hc : (nodes ps[i] : Int) ≤ most - k
            · have := r1 hc; omega
            · have := r2 (by omega); omega
        · simp only [ge_cast hlt, cond_false]
          have hi' : i = ps.length := by omega
          subst hi'
          rw [List.drop_length] at k2 k3 hdl
          simp only [nodess] at k2 k3
          exact ⟨k, rfl, by omega, by omega⟩
    exact key L 0 1 (by omega) (by omega) (by omega) (by simp) (by simp)

def ar (o : Int) : Nat := if o = 1 ∨ o = 3 then 1 else if o = 2 then 2 else 0
def good1 (o n : Int) (k : Nat) : Bool := decide (0 ≤ o ∧ o ≤ 3 ∧ k = ar o ∧ (o = 3 ∨ n = 0) ∧ -4 ≤ n ∧ n ≤ 4)
mutual
/-- of the shape of a formula -/
def shape : Tree → Bool
  | .mk o n ps => good1 o n ps.length && shapes ps
def shapes : List Tree → Bool
  | [] => true
  | p :: r => shape p && shapes r
end
theorem shapes_drop {ps : List Tree} {i : Nat} (h : i < ps.length) : shapes (ps.drop i) = (shape ps[i] && shapes (ps.drop (i + 1))) := by
  rw [List.drop_eq_getElem_cons h]; rfl

/-- impl.formShape -/
theorem shape_ok (L N : Nat) : ∀ (m : Nat) (t : Tree), nodes t ≤ m → nodes t < L → TOk t → f93 L N m t = some (shape t) := by
  intro m
  induction m with
  | zero => intro t h; have := nodes_pos t; omega
  | succ m ih =>
    intro t h hL ht
    obtain ⟨o, a, ps⟩ := t
    have hml : maxLen = 9223372036854775807 := rfl
    have hlen := ht.2.2.1
    simp only [nodes] at h hL
    have hll := nodess_len ps
    have key : ∀ (n i : Nat), ps.length - i < n → i ≤ ps.length →
        f93.l0 L N (f93 L N m) (f93.p0_e1 L N (f93 L N m) some) (fun z => f93.p0_r L N (f93 L N m) some z) n ps (ps.length : Int) (i : Int) = some (shapes (ps.drop i)) := by
      intro n
      induction n with
      | zero => intro i h; omega
      | succ n ihn =>
        intro i h2 hi
        show f93.s0 L N _ _ _ (f93.l0 L N _ _ _ n) ps (ps.length : Int) i = _
        unfold f93.s0 f93.s0'
        by_cases hlt : i < ps.length
        · have hg := nodes_get hlt
          simp only [lt_cast hlt, le0, cond_true, Bool.and_true, wi_nat (show i < 9223372036854775807 by omega), Int.toNat_natCast, at_lt hlt]
          have he : Tree.mk (ps[i]).op (ps[i]).n (ps[i]).parts = ps[i] := by cases ps[i]; rfl
          rw [he, ih ps[i] (by omega) (by omega) (TOks_get ht.2.2.2 i hlt), shapes_drop hlt]
          simp only [Option.bind_some]
          cases shape ps[i]
          · rfl
          · simp only [Bool.not_true, cond_false, Bool.true_and]
            exact ihn (i + 1) (by omega) (by omega)
        · simp only [ge_cast hlt, cond_false]
          have hi' : i = ps.length := by omega
          subst hi'
          rw [List.drop_length]; rfl
    have j0 : ∀ v v', f93.j0' L N (f93 L N m) some (fun s13 s14 s15 => f93.l0 L N (f93 L N m) (f93.p0_e1 L N (f93 L N m) some) (fun z17 => f93.p0_r L N (f93 L N m) some z17) L s13 s14 s15) v v' ps = some (shapes ps) := fun v v' => (key L 0 (by omega) (by omega)).trans (by rw [List.drop_zero])
    have j1 : ∀ (kI : Int) (k : Nat), kI = (k : Int) → f93.j1' L N (f93 L N m) some (fun s13 s14 s15 => f93.l0 L N (f93 L N m) (f93.p0_e1 L N (f93 L N m) some) (fun z17 => f93.p0_r L N (f93 L N m) some z17) L s13 s14 s15) kI o a ps = some (decide (ps.length = k ∧ (o = 3 ∨ a = 0) ∧ -4 ≤ a ∧ a ≤ 4) && shapes ps) := by
      intro kI k hkI
      subst hkI
      unfold f93.j1'
      simp only [j0, act1_ok, Option.bind_some]
      by_cases h1 : ps.length = k
      · by_cases h2 : o = 3
        · by_cases h3 : -4 ≤ a ∧ a ≤ 4
          · simp [h1, h2, h3]
          · simp [h1, h2, h3]
        · by_cases h4 : a = 0
          · simp [h1, h2, h4]
          · have e1 : (o != 3) = true := by simpa using h2
            have e2 : (a != 0) = true := by simpa using h4
            simp [h1, h2, h4, e1, e2]
      · have : ((ps.length : Int) != (k : Int)) = true := by simp; omega
        rw [this]; simp [h1]
    show f93.b L N _ some (Tree.mk o a ps) = _
    unfold f93.b f93.b'
    simp only [shape, Tree.op, Tree.n, Tree.parts]
    have k0 := j1 0 0 rfl
    have k1 := j1 1 1 rfl
    have k2 := j1 2 2 rfl
    unfold good1 ar
    by_cases o0 : o = 0
    · subst o0; simp only [beq_self_eq_true, cond_true]; rw [k0]; simp
    · by_cases o1 : o = 1
      · subst o1; simp only [beq_self_eq_true, cond_true, show ((1 : Int) == 0) = false from rfl, cond_false]; rw [k1]; simp
      · by_cases o2 : o = 2
        · subst o2; simp only [beq_self_eq_true, cond_true, show ((2 : Int) == 0) = false from rfl, show ((2 : Int) == 1) = false from rfl, cond_false]; rw [k2]; simp
        · by_cases o3 : o = 3
          · subst o3; simp only [beq_self_eq_true, cond_true, show ((3 : Int) == 0) = false from rfl, show ((3 : Int) == 1) = false from rfl, show ((3 : Int) == 2) = false from rfl, cond_false]; rw [k1]; simp
          · have b0 : (o == 0) = false := by simpa using o0
            have b1 : (o == 1) = false := by simpa using o1
            have b2 : (o == 2) = false := by simpa using o2
            have b3 : (o == 3) = false := by simpa using o3
            simp only [b0, b1, b2, b3, cond_false]
            rw [df (by omega)]; rfl


/-- impl.FormOk -/
theorem formOk_ok (L N : Nat) (t : Tree) (hN : nodes t ≤ N) (hL : nodes t < L) (hl : nodes t ≤ lim) (ht : TOk t) : f50 L N t = some (decide (nodes t ≤ 60) && shape t) := by
  show f50.b L N some t = _
  unfold f50.b f50.b'
  rw [mk_eta]
  obtain ⟨r, hr, r1, r2⟩ := fnodes_ok L N N t 60 hN hL hl (by omega) (by omega)
  rw [hr]
  simp only [Option.bind_some]
  by_cases h : nodes t ≤ 60
  · rw [dt (show r ≤ 60 by have := r1 (by omega); omega), cond_true, shape_ok L N N t hN hL ht, dt h]; rfl
  · rw [df (show ¬ r ≤ 60 by have := r2 (by omega); omega), cond_false, df h]; rfl

/-- spec.l7Nodes -/
theorem l7_ok (L N : Nat) : ∀ (m : Nat) (t : Tree), nodes t ≤ m → nodes t < L → TOk t → f99 L N m t = some (if shape t = true then ((min 1000 (nodes t) : Nat) : Int) else 0) := by
  intro m
  induction m with
  | zero => intro t h; have := nodes_pos t; omega
  | succ m ih =>
    intro t h hL ht
    obtain ⟨o, a, ps⟩ := t
    have hml : maxLen = 9223372036854775807 := rfl
    have hlen := ht.2.2.1
    simp only [nodes] at h hL
    have hll := nodess_len ps
    have key : ∀ (n i : Nat) (c : Nat), ps.length - i < n → i ≤ ps.length → 1 ≤ c → c ≤ 1000 → ∀ o a : Int,
        f99.l0 L N (f99 L N m) (fun z => f99.p0_e0 L N (f99 L N m) some z) (fun z z' => f99.p0_r L N (f99 L N m) some z z') n (c : Int) (i : Int) o a ps =
          some (if shapes (ps.drop i) = true then ((min 1000 (c + nodess (ps.drop i)) : Nat) : Int) else 0) := by
      intro n
      induction n with
      | zero => intro i c h; omega
      | succ n ihn =>
        intro i c h2 hi c1 c2 o a
        show f99.s0 L N _ _ _ (f99.l0 L N _ _ _ n) (c : Int) i o a ps = _
        unfold f99.s0 f99.s0'
        by_cases hlt : i < ps.length
        · have hg := nodes_get hlt
          have hp := nodes_pos ps[i]
          simp only [lt_cast hlt, le0, cond_true, Bool.and_true, wi_nat (show i < 9223372036854775807 by omega), Int.toNat_natCast, at_lt hlt]
          rw [ih ps[i] (by omega) (by omega) (TOks_get ht.2.2.2 i hlt), shapes_drop hlt, nodess_drop hlt]
          simp only [Option.bind_some]
          cases hs : shape ps[i]
          · simp only [Bool.false_eq_true, if_false, beq_self_eq_true, cond_true, Bool.false_and]
            rfl
          · simp only [if_true, Bool.true_and]
            have hne : (((min 1000 (nodes ps[i]) : Nat) : Int) == 0) = false := by simp; omega
            rw [hne, cond_false, wi_id (by omega) (by omega)]
            have hc : (bif decide ((c : Int) + ((min 1000 (nodes ps[i]) : Nat) : Int) < 1000) then ((c : Int) + ((min 1000 (nodes ps[i]) : Nat) : Int)) else (1000 : Int)) = ((min 1000 (c + nodes ps[i]) : Nat) : Int) := by
              by_cases hlt : (c : Int) + ((min 1000 (nodes ps[i]) : Nat) : Int) < 1000
              · rw [dt hlt, cond_true]; omega
              · rw [df hlt, cond_false]; omega
            have e : min 1000 (min 1000 (c + nodes ps[i]) + nodess (ps.drop (i + 1))) = min 1000 (c + (nodes ps[i] + nodess (ps.drop (i + 1)))) := by omega
            rw [hc, ihn (i + 1) _ (by omega) (by omega) (by omega) (by omega), e]
        · simp only [ge_cast hlt, cond_false]
          have hi' : i = ps.length := by omega
          subst hi'
          rw [List.drop_length]
          simp only [shapes, if_true, nodess]
          have hc : min 1000 (c + 0) = c := by omega
          unfold f99.p0_e0 f99.p0_e0'
          rw [hc]
    have j0 : ∀ v v', f99.j0' L N (f99 L N m) some (fun s9 s10 s11 s12 s13 => f99.l0 L N (f99 L N m) (fun z14 => f99.p0_e0 L N (f99 L N m) some z14) (fun z16 z17 => f99.p0_r L N (f99 L N m) some z16 z17) L s9 s10 s11 s12 s13) v v' ps =
        some (if shapes ps = true then ((min 1000 (1 + nodess ps) : Nat) : Int) else 0) := fun v v' => by
      refine (key L 0 1 (by omega) (by omega) (by omega) (by omega) v v').trans ?_
      rw [List.drop_zero]
    have fin : ∀ t : Tree, t.op = o → t.n = a → t.parts = ps → f99.b L N (f99 L N m) some t = some (if (good1 o a ps.length && shapes ps) = true then ((min 1000 (1 + nodess ps) : Nat) : Int) else 0) := by
     intro t e1 e2 e3
     unfold f99.b f99.b'
     rw [e1, e2, e3]
     simp only [in_ok, act2_ok, Option.bind_some, j0]
     unfold good1
     by_cases h1 : 0 ≤ o ∧ o ≤ 3
     · rw [dt h1]
       simp only [Bool.not_true, cond_false]
       have hat : listAt ([(0 : Int), (1 : Int), (2 : Int), (1 : Int)] : List Int) (0 : Int) o.toNat = (ar o : Int) := by
         rcases (show o = 0 ∨ o = 1 ∨ o = 2 ∨ o = 3 by omega) with rfl | rfl | rfl | rfl <;> rfl
       have hin : (decide (0 ≤ o) && decide (o < (([(0 : Int), (1 : Int), (2 : Int), (1 : Int)] : (List Int)).length : Int))) = true := by simp; omega
       rw [hin, hat]
       simp only [cond_true]
       by_cases h2 : ps.length = ar o
       · have hb : ((ps.length : Int) != (ar o : Int)) = false := by simp; omega
         rw [hb]
         simp only [cond_false]
         by_cases h3 : -4 ≤ a ∧ a ≤ 4
         · rw [dt h3]
           simp only [Bool.not_true, cond_false]
           by_cases h4 : o = 3
           · subst h4
             simp [h2, h3]
           · have e1 : (o != 3) = true := by simpa using h4
             rw [e1]
             simp only [cond_true]
             by_cases h5 : a = 0
             · subst h5; simp [h1, h2, h4]
             · have e2 : (a != 0) = true := by simpa using h5
               rw [e2]; simp [h4, h5]
         · rw [df h3]
           simp only [Bool.not_false, cond_true]
           have : ¬ (0 ≤ o ∧ o ≤ 3 ∧ ps.length = ar o ∧ (o = 3 ∨ a = 0) ∧ -4 ≤ a ∧ a ≤ 4) := fun h => h3 h.2.2.2.2
           rw [df this]; rfl
       · have hb : ((ps.length : Int) != (ar o : Int)) = true := by simp; omega
         rw [hb]
         simp only [cond_true]
         have : ¬ (0 ≤ o ∧ o ≤ 3 ∧ ps.length = ar o ∧ (o = 3 ∨ a = 0) ∧ -4 ≤ a ∧ a ≤ 4) := fun h => h2 h.2.2.1
         rw [df this]; rfl
     · rw [df h1]
       simp only [Bool.not_false, cond_true]
       have : ¬ (0 ≤ o ∧ o ≤ 3 ∧ ps.length = ar o ∧ (o = 3 ∨ a = 0) ∧ -4 ≤ a ∧ a ≤ 4) := fun h => h1 ⟨h.1, h.2.1⟩
       rw [df this]; rfl
    exact fin (Tree.mk o a ps) rfl rfl rfl

/-- spec.FormOk -/
theorem formOk2_ok (L N : Nat) (t : Tree) (hN : nodes t ≤ N) (hL : nodes t < L) (ht : TOk t) : f59 L N t = some (decide (nodes t ≤ 60) && shape t) := by
  show f59.b L N some t = _
  unfold f59.b f59.b'
  rw [mk_eta, l7_ok L N N t hN hL ht]
  have hp := nodes_pos t
  simp only [Option.bind_some, in_ok]
  cases shape t
  · simp
  · simp only [if_true, Bool.and_true]
    congr 1
    by_cases h : nodes t ≤ 60
    · rw [dt h, dt (by omega)]
    · rw [df h, df (by omega)]

end Go.Proofs.Ytdfjdbpklbehoaa.Ev
