/- Plain laws of sorting rows of moves: spec.l3Sorted and impl.tidy's law answer the one list that rises and bears the same moves. No conditions but those that each states. -/
import Derived.Test.YtdfjdbpklbehoaaPGraphOk
namespace Go.Proofs.Ytdfjdbpklbehoaa.Ev
open Go
set_option linter.unusedVariables false
set_option linter.unusedSimpArgs false

theorem less_irrefl (a : Move) : lessM a a = false := by unfold lessM; exact decide_eq_false (by omega)
theorem less_trans {a b c : Move} (h1 : lessM a b = true) (h2 : lessM b c = true) : lessM a c = true := by
  unfold lessM at *; have h1 := of_decide_eq_true h1; have h2 := of_decide_eq_true h2; exact decide_eq_true (by omega)
theorem less_tot {a b : Move} (h1 : lessM a b = false) (h2 : a ≠ b) : lessM b a = true := by
  unfold lessM at *
  have h1 := of_decide_eq_false h1
  obtain ⟨a1, a2⟩ := a
  obtain ⟨b1, b2⟩ := b
  have h2 : ¬ (a1 = b1 ∧ a2 = b2) := fun h => h2 (by rw [h.1, h.2])
  exact decide_eq_true (by simp only at h1 ⊢; omega)
theorem less_ne {a b : Move} (h : lessM a b = true) : a ≠ b := fun e => by rw [e, less_irrefl] at h; cases h

def RisesM (l : List Move) : Prop := l.Pairwise fun a b => lessM a b = true
theorem risesM_ext : ∀ {a b : List Move}, RisesM a → RisesM b → (∀ x, x ∈ a ↔ x ∈ b) → a = b
  | [], [], _, _, _ => rfl
  | [], y :: b, _, _, h => absurd ((h y).2 (.head _)) (by simp)
  | x :: a, [], _, _, h => absurd ((h x).1 (.head _)) (by simp)
  | x :: a, y :: b, ha, hb, h => by
    have ha' := List.pairwise_cons.1 ha
    have hb' := List.pairwise_cons.1 hb
    have hxy : x = y := by
      rcases List.mem_cons.1 ((h x).1 (.head _)) with e | e
      · exact e
      · rcases List.mem_cons.1 ((h y).2 (.head _)) with e' | e'
        · exact e'.symm
        · have q := less_trans (hb'.1 x e) (ha'.1 y e')
          rw [less_irrefl] at q; cases q
    subst hxy
    refine congrArg (x :: ·) (risesM_ext ha'.2 hb'.2 fun z => ?_)
    have := h z
    simp only [List.mem_cons] at this
    constructor
    · intro hz
      rcases this.1 (.inr hz) with e | e
      · exact absurd e.symm (less_ne (ha'.1 z hz))
      · exact e
    · intro hz
      rcases this.2 (.inr hz) with e | e
      · exact absurd e.symm (less_ne (hb'.1 z hz))
      · exact e

theorem l3s1 {R : Type} (L N : Nat) (K : List Move → Int → Int → List Move → Option R) (xs out : List Move) (i : Nat) (hi : i < xs.length) (ho : out.length < 9223372036854775807) :
    ∀ (n k : Nat), k ≤ out.length → k < n → (∀ j (hj : j < out.length), k ≤ j → lessM xs[i] out[j] = true) →
      ∃ a : Nat, a ≤ out.length ∧ (∀ j (hj : j < out.length), a ≤ j → lessM xs[i] out[j] = true) ∧ (∀ (h : 0 < a) (ha : a - 1 < out.length), lessM xs[i] out[a - 1] = false) ∧
        f123.l1 L N K n xs (i : Int) (k : Int) out = K xs (i : Int) (a : Int) out := by
  intro n
  induction n with
  | zero => intro k _ h; omega
  | succ n ih =>
    intro k hk hn hge
    show ∃ a : Nat, _ ∧ _ ∧ _ ∧ f123.s1 L N _ (f123.l1 L N _ n) xs (i : Int) (k : Int) out = _
    unfold f123.s1 f123.s1'
    by_cases h0 : 0 < k
    · have hk1 : k - 1 < out.length := by omega
      rw [show decide ((k : Int) > 0) = true from decide_eq_true (by omega)]
      simp only [cond_true, le0, lt_cast hi, Bool.and_true, pred_cast h0 (by omega), lt_cast hk1, Int.toNat_natCast, at_lt hi, at_lt hk1, less2_ok, Option.bind_some]
      cases hc : lessM xs[i] out[k - 1] with
      | true =>
        simp only [cond_true]
        refine ih (k - 1) (by omega) (by omega) fun j hj hkj => ?_
        by_cases e : j = k - 1
        · subst e; exact hc
        · exact hge j hj (by omega)
      | false =>
        simp only [cond_false]
        exact ⟨k, hk, hge, fun _ _ => hc, rfl⟩
    · have hk0 : k = 0 := by omega
      subst hk0
      rw [show decide (((0 : Nat) : Int) > 0) = false from rfl]
      simp only [cond_false]
      exact ⟨0, by omega, hge, fun h => absurd h (by omega), rfl⟩

theorem l3s2 {R : Type} (L N : Nat) (K : List Move → Int → Int → List Move → Option R) (xs out : List Move) (i : Int) (a : Nat) (ho : out.length < 9223372036854775806) :
    ∀ (n k : Nat) (l : List Move), l.length = out.length + 1 → a ≤ k → k ≤ out.length → k - a < n → (∀ j, j < k → l[j]? = out[j]?) → (∀ j, k < j → l[j]? = out[j - 1]?) →
      ∃ l' : List Move, l'.length = out.length + 1 ∧ (∀ j, j < a → l'[j]? = out[j]?) ∧ (∀ j, a < j → l'[j]? = out[j - 1]?) ∧
        f123.l2 L N K n xs i (a : Int) (k : Int) l = K xs i (a : Int) l' := by
  intro n
  induction n with
  | zero => intro k l _ _ _ h; omega
  | succ n ih =>
    intro k l hl hak hk hn h1 h2
    show ∃ l' : List Move, _ ∧ _ ∧ _ ∧ f123.s2 L N _ (f123.l2 L N _ n) xs i (a : Int) (k : Int) l = _
    unfold f123.s2 f123.s2'
    by_cases h0 : a < k
    · have hk1 : k - 1 < l.length := by omega
      have hk2 : k < l.length := by omega
      rw [show decide ((k : Int) > (a : Int)) = true from decide_eq_true (by omega)]
      simp only [cond_true, le0, pred_cast (show 0 < k by omega) (by omega), lt_cast hk1, lt_cast hk2, Bool.and_true, Int.toNat_natCast, at_lt hk1]
      refine ih (k - 1) _ (by simp [hl]) (by omega) (by omega) (by omega) (fun j hj => ?_) (fun j hj => ?_)
      · rw [List.getElem?_set_ne (by omega)]; exact h1 j (by omega)
      · by_cases e : j = k
        · subst e
          rw [List.getElem?_set_self hk2, ← h1 (j - 1) (by omega), List.getElem?_eq_getElem hk1]
        · rw [List.getElem?_set_ne (by omega)]; exact h2 j (by omega)
    · have hk0 : k = a := by omega
      subst hk0
      rw [show decide ((k : Int) > (k : Int)) = false from decide_eq_false (by omega)]
      simp only [cond_false]
      exact ⟨l, hl, h1, h2, rfl⟩

theorem ins_rises {out : List Move} {x : Move} {a : Nat} (hr : RisesM out) (ha : a ≤ out.length) (hge : ∀ j (hj : j < out.length), a ≤ j → lessM x out[j] = true) (hlt : ∀ (h : 0 < a) (hj : a - 1 < out.length), lessM out[a - 1] x = true) :
    RisesM (out.take a ++ x :: out.drop a) := by
  unfold RisesM
  rw [List.pairwise_append, List.pairwise_cons]
  have hd : ∀ y ∈ out.drop a, lessM x y = true := fun y hy => by
    obtain ⟨j, hj, rfl⟩ := List.mem_iff_getElem.1 hy
    rw [List.getElem_drop]
    exact hge _ _ (by omega)
  have ht : ∀ y ∈ out.take a, lessM y x = true := fun y hy => by
    obtain ⟨j, hj, rfl⟩ := List.mem_iff_getElem.1 hy
    rw [List.length_take] at hj
    rw [List.getElem_take]
    have h1 := hlt (by omega) (by omega)
    by_cases e : j = a - 1
    · subst e; exact h1
    · exact less_trans (List.pairwise_iff_getElem.1 hr j (a - 1) (by omega) (by omega) (by omega)) h1
  refine ⟨List.Pairwise.sublist (List.take_sublist _ _) hr, ⟨hd, List.Pairwise.sublist (List.drop_sublist _ _) hr⟩, fun y hy z hz => ?_⟩
  rcases List.mem_cons.1 hz with rfl | hz
  · exact ht y hy
  · exact less_trans (ht y hy) (hd z hz)

theorem l3Sorted_ok (L N : Nat) (xs : List Move) (hx : xs.length ≤ 1099511627776) (hL : xs.length + 2 < L) :
    ∃ ys, f123 L N xs = some ys ∧ RisesM ys ∧ (∀ v, v ∈ ys ↔ v ∈ xs) ∧ ys.length ≤ xs.length := by
  have hlim := lim_eq
  show ∃ ys, f123.b L N some xs = some ys ∧ _
  unfold f123.b f123.b'
  have key : ∀ (n i : Nat) (out : List Move), i ≤ xs.length → xs.length - i < n → out.length ≤ i → RisesM out → (∀ v, v ∈ out ↔ v ∈ xs.take i) →
      ∃ ys, f123.l0 L N (fun z3 => f123.p0_e0 L N some z3) n xs (i : Int) out = some ys ∧ RisesM ys ∧ (∀ v, v ∈ ys ↔ v ∈ xs) ∧ ys.length ≤ xs.length := by
    intro n
    induction n with
    | zero => intro i out _ h; omega
    | succ n ih =>
      intro i out hi hn hlen hr hmem
      show ∃ ys, f123.s0 L N _ (f123.l0 L N _ n) xs (i : Int) out = _ ∧ _
      unfold f123.s0 f123.s0'
      by_cases hlt : i < xs.length
      · simp only [lt_cast hlt, cond_true]
        obtain ⟨a, ha, hge, hla, e⟩ := l3s1 L N (fun z14 z15 z16 z17 => f123.p1_e2 L N (fun z3 => f123.p0_e0 L N some z3) (f123.l0 L N (fun z3 => f123.p0_e0 L N some z3) n) z14 z15 z16 z17) xs out i hlt (by omega) L out.length (Nat.le_refl _) (by omega) (fun j hj h => absurd hj (by omega))
        have hmem' : ∀ v, v ∈ xs.take (i + 1) ↔ v ∈ xs.take i ∨ v = xs[i] := fun v => by
          rw [List.take_add_one, List.getElem?_eq_getElem hlt]; simp only [Option.toList_some, List.mem_append, List.mem_singleton]
        have hwi : wi ((i : Int) + 1) = ((i + 1 : Nat) : Int) := wi_nat (by omega)
        rw [e]
        have tail : (∀ (h : 0 < a) (hj : a - 1 < out.length), lessM out[a - 1] xs[i] = true) → ∃ ys, f123.j0' L N (fun z3 => f123.p0_e0 L N some z3) (f123.l0 L N (fun z3 => f123.p0_e0 L N some z3) n) (f123.l2 L N (fun z36 z37 z38 z39 => f123.p2_e4 L N (fun z3 => f123.p0_e0 L N some z3) (f123.l0 L N (fun z3 => f123.p0_e0 L N some z3) n) z36 z37 z38 z39) L) xs (i : Int) (a : Int) out = some ys ∧ RisesM ys ∧ (∀ v, v ∈ ys ↔ v ∈ xs) ∧ ys.length ≤ xs.length := by
          intro hlt2
          unfold f123.j0'
          have hle : decide (out.length + ([(Move.mk (0 : Int) (0 : Int))] : (List Move)).length ≤ lim) = true := dt (by simp only [List.length_cons, List.length_nil]; omega)
          rw [hle, cond_true, List.length_append, show ([(Move.mk (0 : Int) (0 : Int))] : List Move).length = 1 from rfl, pred_cast (by omega) (by omega), show out.length + 1 - 1 = out.length by omega]
          obtain ⟨l', q1, q2, q3, e2⟩ := l3s2 L N (fun z36 z37 z38 z39 => f123.p2_e4 L N (fun z3 => f123.p0_e0 L N some z3) (f123.l0 L N (fun z3 => f123.p0_e0 L N some z3) n) z36 z37 z38 z39) xs out (i : Int) a (by omega) L out.length (out ++ [Move.mk 0 0]) (by simp) ha (Nat.le_refl _) (by omega)
            (fun j hj => by rw [List.getElem?_append_left hj]) (fun j hj => by rw [List.getElem?_eq_none (by simp; omega), List.getElem?_eq_none (by omega)])
          rw [e2]
          unfold f123.p2_e4 f123.p2_e4'
          have hal : a < l'.length := by omega
          simp only [le0, lt_cast hlt, lt_cast hal, Bool.and_true, cond_true, Int.toNat_natCast, at_lt hlt, hwi]
          have hset : l'.set a xs[i] = out.take a ++ xs[i] :: out.drop a := by
            apply List.ext_getElem?
            intro j
            rcases Nat.lt_trichotomy j a with h | h | h
            · rw [List.getElem?_set_ne (by omega), q2 j h, List.getElem?_append_left (by rw [List.length_take]; omega), List.getElem?_take, if_pos h]
            · subst h
              rw [List.getElem?_set_self hal, List.getElem?_append_right (by rw [List.length_take]; omega), List.length_take, show j - min j out.length = 0 by omega]
              rfl
            · rw [List.getElem?_set_ne (by omega), q3 j h, List.getElem?_append_right (by rw [List.length_take]; omega), List.length_take, show j - min a out.length = (j - 1 - a) + 1 by omega, List.getElem?_cons_succ, List.getElem?_drop, show a + (j - 1 - a) = j - 1 by omega]
          rw [hset]
          refine ih (i + 1) _ (by omega) (by omega) (by simp only [List.length_append, List.length_cons, List.length_take, List.length_drop]; omega) (ins_rises hr ha hge hlt2) fun v => ?_
          rw [hmem' v, ← hmem v, List.mem_append, List.mem_cons]
          constructor
          · rintro (h | h | h)
            · exact .inl (List.mem_of_mem_take h)
            · exact .inr h
            · exact .inl (List.mem_of_mem_drop h)
          · rintro (h | h)
            · rw [← List.take_append_drop a out, List.mem_append] at h
              rcases h with h | h
              · exact .inl h
              · exact .inr (.inr h)
            · exact .inr (.inl h)
        show ∃ ys, f123.p1_e2' L N _ _ _ xs (i : Int) (a : Int) out = some ys ∧ _
        unfold f123.p1_e2'
        by_cases h0 : 0 < a
        · have ha1 : a - 1 < out.length := by omega
          rw [show decide ((a : Int) > 0) = true from decide_eq_true (by omega)]
          simp only [cond_true, le0, pred_cast h0 (by omega), lt_cast ha1, lt_cast hlt, Bool.and_true, Int.toNat_natCast, at_lt ha1, at_lt hlt, hwi]
          cases hb : Move.eqb out[a - 1] xs[i] with
          | true =>
            simp only [cond_true]
            have he : out[a - 1] = xs[i] := by
              simp only [Move.eqb, Bool.and_eq_true, beq_iff_eq] at hb
              have h1 := hb.1; have h2 := hb.2
              rw [← mv_eta out[a - 1], ← mv_eta xs[i], h1, h2]
            refine ih (i + 1) out (by omega) (by omega) (by omega) hr fun v => ?_
            rw [hmem' v, ← hmem v]
            constructor
            · exact .inl
            · rintro (h | h)
              · exact h
              · rw [h, ← he]; exact List.getElem_mem ha1
          | false =>
            simp only [cond_false]
            refine tail fun h hj => less_tot (hla h hj) fun e => ?_
            rw [e] at hb
            simp [Move.eqb] at hb
        · rw [show decide ((a : Int) > 0) = false from decide_eq_false (by omega)]
          simp only [cond_false]
          exact tail fun h => absurd h h0
      · simp only [ge_cast hlt, cond_false]
        have hi' : i = xs.length := by omega
        subst hi'
        rw [List.take_length] at hmem
        exact ⟨out, rfl, hr, hmem, hlen⟩
  exact key L 0 [] (by omega) (by omega) (Nat.le_refl _) List.Pairwise.nil (fun v => by simp)
end Go.Proofs.Ytdfjdbpklbehoaa.Ev
