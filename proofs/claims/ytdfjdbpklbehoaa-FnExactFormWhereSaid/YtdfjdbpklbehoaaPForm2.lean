/- Plain laws of formulas: how many nodes, which shape. No conditions but those that each states. -/
import Derived.Test.YtdfjdbpklbehoaaPGraph
namespace Go.Proofs.Ytdfjdbpklbehoaa.Ev
open Go
set_option linter.unusedVariables false

mutual
def nodes : Tree → Nat
  | .mk _ _ ps => 1 + nodess ps
def nodess : List Tree → Nat
  | [] => 0
  | p :: r => nodes p + nodess r
end
mutual
/-- numbers and lengths are within their bounds -/
def TOk : Tree → Prop
  | .mk o n ps => (-9223372036854775808 ≤ o ∧ o ≤ 9223372036854775807) ∧ (-9223372036854775808 ≤ n ∧ n ≤ 9223372036854775807) ∧ ps.length ≤ maxLen ∧ TOks ps
def TOks : List Tree → Prop
  | [] => True
  | p :: r => TOk p ∧ TOks r
end
theorem TOks_get : ∀ {ps : List Tree}, TOks ps → ∀ i (h : i < ps.length), TOk ps[i]
  | [], _, i, h => by simp at h
  | p :: r, hp, 0, _ => hp.1
  | p :: r, hp, i + 1, h => by simpa using TOks_get hp.2 i (by simpa using h)
theorem TOks_mk : ∀ {ps : List Tree}, (∀ p ∈ ps, TOk p) → TOks ps
  | [], _ => trivial
  | p :: r, h => ⟨h p (.head _), TOks_mk fun q hq => h q (.tail _ hq)⟩
theorem nodes_pos (t : Tree) : 1 ≤ nodes t := by cases t; simp [nodes]
theorem nodess_len : ∀ ps : List Tree, ps.length ≤ nodess ps
  | [] => by simp
  | p :: r => by have := nodess_len r; have := nodes_pos p; simp [nodess]; omega
theorem nodess_drop {ps : List Tree} {i : Nat} (h : i < ps.length) : nodess (ps.drop i) = nodes ps[i] + nodess (ps.drop (i + 1)) := by
  rw [List.drop_eq_getElem_cons h]; rfl
theorem nodess_drop_le : ∀ (ps : List Tree) (i : Nat), nodess (ps.drop i) ≤ nodess ps
  | [], i => by simp
  | p :: r, 0 => by simp
  | p :: r, i + 1 => by have := nodess_drop_le r i; simp [nodess]; omega
theorem nodes_get {ps : List Tree} {i : Nat} (h : i < ps.length) : nodes ps[i] ≤ nodess ps := by
  have h1 := nodess_drop h
  have h2 := nodess_drop_le ps i
  omega

theorem dat_tree (n : Nat) : ∀ t : Tree, nodes t ≤ n → (∀ p ∈ encTree t, PVok p) → TOk t := by
  induction n with
  | zero => intro t h; have := nodes_pos t; omega
  | succ n ih =>
    intro t h hp
    obtain ⟨o, a, ps⟩ := t
    have h1 := hp (.int .i64 o) (by simp [encTree])
    have h2 := hp (.int .i64 a) (by simp [encTree])
    have h3 := hp (.sl (encTrees ps)) (by simp [encTree])
    cases h1 with | int _ _ h1 =>
    cases h2 with | int _ _ h2 =>
    cases h3 with | sl _ h3 h4 =>
    rw [encTrees_eq] at h3 h4
    have hw : ∀ n : Int, (Lit.int .i64 n).wf = true → -9223372036854775808 ≤ n ∧ n ≤ 9223372036854775807 := fun n h => by
      simp only [Lit.wf, Bool.and_eq_true, decide_eq_true_eq] at h
      exact h
    refine ⟨hw _ h1, hw _ h2, by simpa using h3, TOks_mk fun p hpp => ih p ?_ fun q hq => h4 (encTree p) (List.mem_map.2 ⟨p, hpp, rfl⟩) q hq⟩
    obtain ⟨i, hi, rfl⟩ := List.mem_iff_getElem.1 hpp
    have := nodes_get hi
    simp only [nodes] at h
    omega
theorem treeOk {t : Tree} (h : DatOk (.st 1) t) : TOk t := dat_tree _ t (Nat.le_refl _) h

/-- laws.szForm -/
def szRes (k : Nat) (left : Int) : Int := if (k : Int) ≤ left then left - k else -1
theorem sz_ok (L N : Nat) : ∀ m : Nat, (∀ (t : Tree) (left : Int), TOk t → 2 * nodes t ≤ m → nodes t < L → 0 ≤ left → left ≤ 1048576 → f16 L N m t left = some (szRes (nodess t.parts) left)) ∧
    (∀ (ps : List Tree) (left : Int), TOks ps → ps.length ≤ maxLen → 2 * nodess ps + 1 ≤ m → nodess ps < L → 0 ≤ left → left ≤ 1048576 → f57 L N m ps left = some (szRes (nodess ps) left)) := by
  intro m
  induction m with
  | zero => exact ⟨fun t left _ h => by have := nodes_pos t; omega, fun ps left _ _ h => by omega⟩
  | succ m ih =>
    refine ⟨fun t left ht h hL h0 h1 => ?_, fun ps left ht hlen h hL h0 h1 => ?_⟩
    · obtain ⟨o, a, ps⟩ := t
      simp only [nodes] at h hL
      show f16.b L N _ _ some (Tree.mk o a ps) left = _
      unfold f16.b f16.b'
      show ((f57 L N m ps left).bind _) = _
      rw [ih.2 ps left ht.2.2.2 ht.2.2.1 (by omega) (by omega) h0 h1]
      simp only [Option.bind_some, Tree.parts]
      unfold szRes
      by_cases hc : (nodess ps : Int) ≤ left
      · rw [if_pos hc, df (by omega), cond_false]
      · rw [if_neg hc, dt (by omega), cond_true]
    · have hml : maxLen ≤ 9223372036854775807 := by decide
      show f57.b L N (f16 L N m) (f57 L N m) some ps left = _
      unfold f57.b f57.b'
      rw [wi_id (by omega) (by omega)]
      have hll := nodess_len ps
      by_cases hneg : left - (ps.length : Int) < 0
      · rw [dt hneg, cond_true]
        unfold szRes
        rw [if_neg (by omega)]
      · rw [df hneg, cond_false]
        have key : ∀ (n i : Nat) (l : Int), ps.length - i < n → i ≤ ps.length → 0 ≤ l → l ≤ 1048576 →
            f57.l0 L N (f16 L N m) (f57 L N m) (fun z6 => f57.p0_e0 L N (f16 L N m) (f57 L N m) some z6) (fun z4 z5 => f57.p0_r L N (f16 L N m) (f57 L N m) some z4 z5) n ps l (i : Int) = some (szRes (nodess (ps.drop i) - (ps.length - i)) l) := by
          intro n
          induction n with
          | zero => intro i l h; omega
          | succ n ihn =>
            intro i l h2 hi l0 l1
            show f57.s0 L N _ _ _ _ (f57.l0 L N _ _ _ _ n) ps l i = _
            unfold f57.s0 f57.s0'
            by_cases hlt : i < ps.length
            · have hd := nodess_drop hlt
              have hg := nodes_get hlt
              have hp1 := nodes_pos ps[i]
              have hdl := nodess_len (ps.drop (i + 1))
              rw [List.length_drop] at hdl
              simp only [lt_cast hlt, le0, cond_true, Bool.and_true, Int.toNat_natCast, at_lt hlt]
              rw [ih.1 ps[i] l (TOks_get ht i hlt) (by omega) (by omega) l0 l1]
              simp only [Option.bind_some]
              have hnp : nodes ps[i] = 1 + nodess (ps[i]).parts := by cases ps[i]; rfl
              by_cases hc : (nodess (ps[i]).parts : Int) ≤ l
              · have he : szRes (nodess (ps[i]).parts) l = l - nodess (ps[i]).parts := if_pos hc
                rw [he, df (by omega), cond_false, wi_nat (by omega), ihn (i + 1) _ (by omega) (by omega) (by omega) (by omega)]
                unfold szRes
                congr 1
                split <;> split <;> omega
              · have he : szRes (nodess (ps[i]).parts) l = -1 := if_neg hc
                rw [he, dt (by omega), cond_true]
                show some (-1 : Int) = _
                unfold szRes
                rw [if_neg (by omega)]
            · simp only [ge_cast hlt, cond_false]
              show some l = _
              have hi' : i = ps.length := by omega
              subst hi'
              unfold szRes
              rw [List.drop_length]
              simp [nodess, l0]
        refine (key L 0 _ (by omega) (by omega) (by omega) (by omega)).trans ?_
        unfold szRes
        rw [List.drop_zero]
        congr 1
        split <;> split <;> omega
end Go.Proofs.Ytdfjdbpklbehoaa.Ev
