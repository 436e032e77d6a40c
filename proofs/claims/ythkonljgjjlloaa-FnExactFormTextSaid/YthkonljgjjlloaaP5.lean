/- Plain laws: texts of formulas. No conditions but those that each states. -/
import Derived.Test.YthkonljgjjlloaaP4
namespace Go.Proofs.Ythkonljgjjlloaa.Ev
open Go
set_option linter.unusedVariables false
set_option linter.unusedSimpArgs false

def actT (n : Int) : ByteArray := (f77 0 0 n).getD ByteArray.empty
theorem act_cases {n : Int} (h : -4 ≤ n ∧ n ≤ 4) : n = -4 ∨ n = -3 ∨ n = -2 ∨ n = -1 ∨ n = 0 ∨ n = 1 ∨ n = 2 ∨ n = 3 ∨ n = 4 := by omega
theorem text76 (L N : Nat) {n : Int} (h : -4 ≤ n ∧ n ≤ 4) : f76 L N n = some (actT n) := by
  rcases act_cases h with rfl | rfl | rfl | rfl | rfl | rfl | rfl | rfl | rfl <;> kernel_rfl
theorem text77 (L N : Nat) {n : Int} (h : -4 ≤ n ∧ n ≤ 4) : f77 L N n = some (actT n) := by
  rcases act_cases h with rfl | rfl | rfl | rfl | rfl | rfl | rfl | rfl | rfl <;> kernel_rfl
theorem actT_size {n : Int} (h : -4 ≤ n ∧ n ≤ 4) : (actT n).size ≤ 3 := by
  rcases act_cases h with rfl | rfl | rfl | rfl | rfl | rfl | rfl | rfl | rfl <;> exact of_decide_eq_true (by kernel_rfl)

def sNot : ByteArray := ByteArray.mk #[40, 110, 111, 116, 32]
def sAnd : ByteArray := ByteArray.mk #[40, 97, 110, 100, 32]
def sMay : ByteArray := ByteArray.mk #[40, 109, 97, 121, 32]
def sShut : ByteArray := ByteArray.mk #[41]
def sGap : ByteArray := ByteArray.mk #[32]
def sT : ByteArray := ByteArray.mk #[84]
theorem sNot_size : sNot.size = 5 := rfl
theorem sAnd_size : sAnd.size = 5 := rfl
theorem sMay_size : sMay.size = 5 := rfl
theorem sShut_size : sShut.size = 1 := rfl
theorem sGap_size : sGap.size = 1 := rfl
theorem sT_size : sT.size = 1 := rfl
mutual
def text : Tree → ByteArray
  | .mk o n ps => match o, texts ps with
    | 1, [a] => sNot ++ a ++ sShut
    | 2, [a, b] => sAnd ++ a ++ sGap ++ b ++ sShut
    | 3, [a] => sMay ++ actT n ++ sGap ++ a ++ sShut
    | _, _ => sT
def texts : List Tree → List ByteArray
  | [] => []
  | p :: r => text p :: texts r
end

theorem shape_cases {o n : Int} {ps : List Tree} (h : shape (.mk o n ps) = true) : (o = 0 ∧ ps = []) ∨ (o = 1 ∧ ∃ a, ps = [a] ∧ shape a = true) ∨ (o = 2 ∧ ∃ a b, ps = [a, b] ∧ shape a = true ∧ shape b = true) ∨ (o = 3 ∧ -4 ≤ n ∧ n ≤ 4 ∧ ∃ a, ps = [a] ∧ shape a = true) := by
  simp only [shape, good1, Bool.and_eq_true, decide_eq_true_eq] at h
  obtain ⟨⟨h0, h1, h2, h3, h4, h5⟩, h6⟩ := h
  rcases (show o = 0 ∨ o = 1 ∨ o = 2 ∨ o = 3 by omega) with rfl | rfl | rfl | rfl
  · left; exact ⟨rfl, List.eq_nil_of_length_eq_zero h2⟩
  · right; left
    match ps, h2, h6 with
    | [a], _, h6 => simp only [shapes, Bool.and_true] at h6; exact ⟨rfl, a, rfl, h6⟩
  · right; right; left
    match ps, h2, h6 with
    | [a, b], _, h6 => simp only [shapes, Bool.and_true, Bool.and_eq_true] at h6; exact ⟨rfl, a, b, rfl, h6.1, h6.2⟩
  · right; right; right
    match ps, h2, h6 with
    | [a], _, h6 => simp only [shapes, Bool.and_true] at h6; exact ⟨rfl, h4, h5, a, rfl, h6⟩

theorem text_size (n : Nat) : ∀ t : Tree, nodes t ≤ n → shape t = true → 1 ≤ (text t).size ∧ (text t).size ≤ 20 * nodes t := by
  induction n with
  | zero => intro t h; have := nodes_pos t; omega
  | succ n ih =>
    intro t h hs
    obtain ⟨o, a, ps⟩ := t
    rcases shape_cases hs with ⟨rfl, rfl⟩ | ⟨rfl, x, rfl, hx⟩ | ⟨rfl, x, y, rfl, hx, hy⟩ | ⟨rfl, h4, h5, x, rfl, hx⟩
    · simp only [text, texts, nodes, nodess, sT_size]; omega
    · simp only [nodes, nodess] at h
      have := ih x (by omega) hx
      simp only [text, texts, nodes, nodess, ByteArray.size_append, sNot_size, sShut_size]; omega
    · simp only [nodes, nodess] at h
      have := ih x (by omega) hx
      have := ih y (by omega) hy
      simp only [text, texts, nodes, nodess, ByteArray.size_append, sAnd_size, sShut_size, sGap_size]; omega
    · simp only [nodes, nodess] at h
      have := ih x (by omega) hx
      have := actT_size ⟨h4, h5⟩
      simp only [text, texts, nodes, nodess, ByteArray.size_append, sMay_size, sShut_size, sGap_size]; omega

theorem at0 {α : Type} (a d : α) (r : List α) : listAt (a :: r) d (0 : Int).toNat = a := rfl
theorem at1 {α : Type} (a b d : α) (r : List α) : listAt (a :: b :: r) d (1 : Int).toNat = b := rfl

theorem bif_t {p : Prop} [Decidable p] {α : Type} {a b : α} (h : p) : (bif decide p then a else b) = a := by rw [dt h]; rfl
theorem bif_t2 {p q : Prop} [Decidable p] [Decidable q] {α : Type} {a b : α} (h : p) (h' : q) : (bif decide p && decide q then a else b) = a := by rw [dt h, dt h']; rfl
theorem z5a : (ByteArray.mk #[40, 110, 111, 116, 32]).size = 5 := rfl
theorem z5b : (ByteArray.mk #[40, 97, 110, 100, 32]).size = 5 := rfl
theorem z5c : (ByteArray.mk #[40, 109, 97, 121, 32]).size = 5 := rfl
theorem z1a : (ByteArray.mk #[41]).size = 1 := rfl
theorem z1b : (ByteArray.mk #[32]).size = 1 := rfl
/-- impl.formText -/
theorem text59 (L N : Nat) : ∀ (m : Nat) (t : Tree), nodes t ≤ m → nodes t ≤ lim → shape t = true → f59 L N m t = some (text t) := by
  intro m
  induction m with
  | zero => intro t h; have := nodes_pos t; omega
  | succ m ih =>
    intro t h hl hs
    obtain ⟨o, a, ps⟩ := t
    have hlim : lim = 1099511627776 := rfl
    show f59.b L N _ some (Tree.mk o a ps) = _
    unfold f59.b f59.b'
    rcases shape_cases hs with ⟨rfl, rfl⟩ | ⟨rfl, x, rfl, hx⟩ | ⟨rfl, x, y, rfl, hx, hy⟩ | ⟨rfl, h4, h5, x, rfl, hx⟩
    · rfl
    · simp only [nodes, nodess] at h hl
      simp only [Tree.op, show ((1 : Int) == 0) = false from rfl, beq_self_eq_true, cond_true, cond_false]
      have s1 := text_size _ x (Nat.le_refl _) hx
      refine (bif_t2 (by omega) (by simp [Tree.parts])).trans ?_
      show ((f59 L N m x).bind _) = _
      rw [ih x (by omega) (by omega) hx]
      simp only [Option.bind_some]
      refine (bif_t (by simp only [ByteArray.size_append, z5a, z5b, z5c, z1a, z1b]; omega)).trans ?_
      refine (bif_t (by simp only [ByteArray.size_append, z5a, z5b, z5c, z1a, z1b]; omega)).trans ?_
      rfl
    · simp only [nodes, nodess] at h hl
      simp only [Tree.op, show ((2 : Int) == 0) = false from rfl, show ((2 : Int) == 1) = false from rfl, beq_self_eq_true, cond_true, cond_false]
      have s1 := text_size _ x (Nat.le_refl _) hx
      have s2 := text_size _ y (Nat.le_refl _) hy
      refine (bif_t2 (by omega) (by simp [Tree.parts])).trans ?_
      show ((f59 L N m x).bind _) = _
      rw [ih x (by omega) (by omega) hx]
      simp only [Option.bind_some]
      refine (bif_t (by simp only [ByteArray.size_append, z5a, z5b, z5c, z1a, z1b]; omega)).trans ?_
      refine (bif_t (by simp only [ByteArray.size_append, z5a, z5b, z5c, z1a, z1b]; omega)).trans ?_
      refine (bif_t2 (by omega) (by simp [Tree.parts])).trans ?_
      show ((f59 L N m y).bind _) = _
      rw [ih y (by omega) (by omega) hy]
      simp only [Option.bind_some]
      refine (bif_t (by simp only [ByteArray.size_append, z5a, z5b, z5c, z1a, z1b]; omega)).trans ?_
      refine (bif_t (by simp only [ByteArray.size_append, z5a, z5b, z5c, z1a, z1b]; omega)).trans ?_
      rfl
    · simp only [nodes, nodess] at h hl
      simp only [Tree.op, show ((3 : Int) == 0) = false from rfl, show ((3 : Int) == 1) = false from rfl, show ((3 : Int) == 2) = false from rfl, beq_self_eq_true, cond_true, cond_false]
      have s1 := text_size _ x (Nat.le_refl _) hx
      have s3 := actT_size ⟨h4, h5⟩
      show ((f76 L N a).bind _) = _
      rw [text76 L N ⟨h4, h5⟩]
      simp only [Option.bind_some]
      refine (bif_t (by simp only [ByteArray.size_append, z5a, z5b, z5c, z1a, z1b]; omega)).trans ?_
      refine (bif_t (by simp only [ByteArray.size_append, z5a, z5b, z5c, z1a, z1b]; omega)).trans ?_
      refine (bif_t2 (by omega) (by simp [Tree.parts])).trans ?_
      show ((f59 L N m x).bind _) = _
      rw [ih x (by omega) (by omega) hx]
      simp only [Option.bind_some]
      refine (bif_t (by simp only [ByteArray.size_append, z5a, z5b, z5c, z1a, z1b]; omega)).trans ?_
      refine (bif_t (by simp only [ByteArray.size_append, z5a, z5b, z5c, z1a, z1b]; omega)).trans ?_
      rfl
/-- spec.l7Text -/
theorem text60 (L N : Nat) : ∀ (m : Nat) (t : Tree), nodes t ≤ m → nodes t ≤ lim → shape t = true → f60 L N m t = some (text t) := by
  intro m
  induction m with
  | zero => intro t h; have := nodes_pos t; omega
  | succ m ih =>
    intro t h hl hs
    obtain ⟨o, a, ps⟩ := t
    have hlim : lim = 1099511627776 := rfl
    show f60.b L N _ some (Tree.mk o a ps) = _
    unfold f60.b f60.b'
    rcases shape_cases hs with ⟨rfl, rfl⟩ | ⟨rfl, x, rfl, hx⟩ | ⟨rfl, x, y, rfl, hx, hy⟩ | ⟨rfl, h4, h5, x, rfl, hx⟩
    · rfl
    · simp only [nodes, nodess] at h hl
      simp only [Tree.op, show ((1 : Int) == 0) = false from rfl, beq_self_eq_true, cond_true, cond_false]
      have s1 := text_size _ x (Nat.le_refl _) hx
      refine (bif_t2 (by omega) (by simp [Tree.parts])).trans ?_
      show ((f60 L N m x).bind _) = _
      rw [ih x (by omega) (by omega) hx]
      simp only [Option.bind_some]
      refine (bif_t (by simp only [ByteArray.size_append, z5a, z5b, z5c, z1a, z1b]; omega)).trans ?_
      refine (bif_t (by simp only [ByteArray.size_append, z5a, z5b, z5c, z1a, z1b]; omega)).trans ?_
      rfl
    · simp only [nodes, nodess] at h hl
      simp only [Tree.op, show ((2 : Int) == 0) = false from rfl, show ((2 : Int) == 1) = false from rfl, beq_self_eq_true, cond_true, cond_false]
      have s1 := text_size _ x (Nat.le_refl _) hx
      have s2 := text_size _ y (Nat.le_refl _) hy
      refine (bif_t2 (by omega) (by simp [Tree.parts])).trans ?_
      show ((f60 L N m x).bind _) = _
      rw [ih x (by omega) (by omega) hx]
      simp only [Option.bind_some]
      refine (bif_t (by simp only [ByteArray.size_append, z5a, z5b, z5c, z1a, z1b]; omega)).trans ?_
      refine (bif_t (by simp only [ByteArray.size_append, z5a, z5b, z5c, z1a, z1b]; omega)).trans ?_
      refine (bif_t2 (by omega) (by simp [Tree.parts])).trans ?_
      show ((f60 L N m y).bind _) = _
      rw [ih y (by omega) (by omega) hy]
      simp only [Option.bind_some]
      refine (bif_t (by simp only [ByteArray.size_append, z5a, z5b, z5c, z1a, z1b]; omega)).trans ?_
      refine (bif_t (by simp only [ByteArray.size_append, z5a, z5b, z5c, z1a, z1b]; omega)).trans ?_
      rfl
    · simp only [nodes, nodess] at h hl
      simp only [Tree.op, show ((3 : Int) == 0) = false from rfl, show ((3 : Int) == 1) = false from rfl, show ((3 : Int) == 2) = false from rfl, beq_self_eq_true, cond_true, cond_false]
      have s1 := text_size _ x (Nat.le_refl _) hx
      have s3 := actT_size ⟨h4, h5⟩
      show ((f77 L N a).bind _) = _
      rw [text77 L N ⟨h4, h5⟩]
      simp only [Option.bind_some]
      refine (bif_t (by simp only [ByteArray.size_append, z5a, z5b, z5c, z1a, z1b]; omega)).trans ?_
      refine (bif_t (by simp only [ByteArray.size_append, z5a, z5b, z5c, z1a, z1b]; omega)).trans ?_
      refine (bif_t2 (by omega) (by simp [Tree.parts])).trans ?_
      show ((f60 L N m x).bind _) = _
      rw [ih x (by omega) (by omega) hx]
      simp only [Option.bind_some]
      refine (bif_t (by simp only [ByteArray.size_append, z5a, z5b, z5c, z1a, z1b]; omega)).trans ?_
      refine (bif_t (by simp only [ByteArray.size_append, z5a, z5b, z5c, z1a, z1b]; omega)).trans ?_
      rfl

def ftext (t : Tree) : ByteArray := if okF t = true then text t else ByteArray.mk #[]
theorem ok_shape {t : Tree} (h : okF t = true) : shape t = true := by
  unfold okF at h
  simp only [Bool.and_eq_true] at h
  exact h.2
theorem ok_nodes {t : Tree} (h : okF t = true) : nodes t ≤ 60 := by
  unfold okF at h
  simp only [Bool.and_eq_true, decide_eq_true_eq] at h
  exact h.1
theorem ftext_ok (L N : Nat) (t : Tree) (hN : nodes t ≤ N) (hL : nodes t < L) (hl : nodes t ≤ lim) (ht : TOk t) : f33 L N t = some (ftext t) := by
  show f33.b L N some t = _
  unfold f33.b f33.b' ftext
  rw [mk_eta, formOk_ok L N t hN hL hl ht]
  show (bif !(okF t) then _ else _) = _
  cases ho : okF t
  · rfl
  · rw [text59 L N N t hN hl (ok_shape ho)]; rfl
theorem ftext2_ok (L N : Nat) (t : Tree) (hN : nodes t ≤ N) (hL : nodes t < L) (hl : nodes t ≤ lim) (ht : TOk t) : f35 L N t = some (ftext t) := by
  show f35.b L N some t = _
  unfold f35.b f35.b' ftext
  rw [mk_eta, formOk2_ok L N t hN hL ht]
  show (bif !(okF t) then _ else _) = _
  cases ho : okF t
  · rfl
  · rw [text60 L N N t hN hl (ok_shape ho)]; rfl

/-- FnExactFormText -/
theorem f11_ok (x : Tree) (hx : DatOk (.st 1) x) : ∃ L N, f11 L N x = some true := by
  have ht := treeOk hx
  refine ⟨nodes x + 1, 2 * nodes x, ?_⟩
  have hlim : lim = 1099511627776 := rfl
  have hp := nodes_pos x
  show f11.b _ _ some x = _
  unfold f11.b f11.b'
  simp only [mk_eta]
  rw [(sz_ok (nodes x + 1) (2 * nodes x) (2 * nodes x)).1 x 1048576 ht (by omega) (by omega) (by omega) (by omega)]
  simp only [Option.bind_some]
  have hn : nodes x = 1 + nodess x.parts := by cases x; rfl
  unfold szRes
  by_cases h : (nodess x.parts : Int) ≤ 1048576
  · rw [if_pos h, df (by omega), cond_false]
    rw [(to_ok (nodes x + 1) (2 * nodes x) (2 * nodes x)).1 x (by omega) (by omega) (by omega)]
    simp only [Option.bind_some]
    rw [ftext_ok _ _ x (by omega) (by omega) (by omega) ht, ftext2_ok _ _ x (by omega) (by omega) (by omega) ht, (eq_ok (nodes x + 1) (2 * nodes x) (2 * nodes x)).1 x (by omega) (by omega) (by omega)]
    simp
  · rw [if_neg h, dt (by omega), cond_true]

theorem empty_text (t : Tree) (h : okF t = true) : ((ftext t).toList == (ByteArray.mk #[]).toList) = false := by
  have hs := text_size _ t (Nat.le_refl _) (ok_shape h)
  unfold ftext
  rw [if_pos h]
  cases hb : ((text t).toList == (ByteArray.mk #[]).toList)
  · rfl
  · have he := eq_of_beq hb
    rw [ByteArray.toList_eq, ByteArray.toList_eq] at he
    have h1 : (text t).data.toList.length = 0 := by rw [he]; rfl
    have h2 : (text t).data.toList.length = (text t).size := rfl
    omega

/-- FnFormOk -/
theorem f9_ok (x : List Int) (hx : DatOk (.sl (.int .u8)) x) : ∃ L N, f9 L N x = some true := by
  refine ⟨100, 100, ?_⟩
  have hlim : lim = 1099511627776 := rfl
  show f9.b _ _ some x = _
  unfold f9.b f9.b'
  by_cases hlen : (x.length : Int) > 1048576
  · rw [dt hlen, cond_true]
  · rw [df hlen, cond_false, draw32]
    obtain ⟨t, ht, tk, tn⟩ := drawDepth_ok 100 100 (by omega) hx
    rw [ht]
    simp only [Option.bind_some, mk_eta]
    have h27 : f27 100 100 t = some (okF t) := formOk_ok 100 100 t (by omega) (by omega) (by omega) tk
    have h25 : f25 100 100 t = some (okF t) := formOk2_ok 100 100 t (by omega) (by omega) tk
    rw [h27, h25, ftext_ok 100 100 t (by omega) (by omega) (by omega) tk, fdepth_ok 100 100 t (by omega) (by omega) (by omega) tk]
    simp only [Option.bind_some, beq_self_eq_true, Bool.not_true, cond_false]
    cases ho : okF t
    · have h1 : ftext t = ByteArray.mk #[] := by unfold ftext; rw [ho]; rfl
      have h2 : fdepth t = -1 := by unfold fdepth; rw [ho]; rfl
      rw [h1, h2, beq_self_eq_true]; rfl
    · have h2 : fdepth t = (depth t : Int) := by unfold fdepth; rw [ho]; rfl
      rw [empty_text t ho, h2]
      simp

/-- FnFormText -/
theorem f10_ok (x : List Int) (hx : DatOk (.sl (.int .u8)) x) : ∃ L N, f10 L N x = some true := by
  refine ⟨100, 100, ?_⟩
  have hlim : lim = 1099511627776 := rfl
  show f10.b _ _ some x = _
  unfold f10.b f10.b'
  by_cases hlen : (x.length : Int) > 1048576
  · rw [dt hlen, cond_true]
  · rw [df hlen, cond_false, draw34]
    obtain ⟨t, ht, tk, tn⟩ := drawDepth_ok 100 100 (by omega) hx
    rw [ht]
    simp only [Option.bind_some, mk_eta]
    have n1 : nodes (.mk 2 0 [t, t]) = 2 * nodes t + 1 := by simp only [nodes, nodess]; omega
    have tk1 : TOk (.mk 2 0 [t, t]) := ⟨⟨by omega, by omega⟩, ⟨by omega, by omega⟩, by simp [show maxLen = 9223372036854775807 from rfl], tk, tk, trivial⟩
    have h27 : f27 100 100 (.mk 2 0 [t, t]) = some (okF (.mk 2 0 [t, t])) := formOk_ok 100 100 _ (by omega) (by omega) (by omega) tk1
    rw [ftext_ok 100 100 t (by omega) (by omega) (by omega) tk, ftext2_ok 100 100 t (by omega) (by omega) (by omega) tk]
    simp only [Option.bind_some, beq_self_eq_true, Bool.not_true, cond_false]
    rw [h27, ftext_ok 100 100 (.mk 2 0 [t, t]) (by omega) (by omega) (by omega) tk1]
    simp only [Option.bind_some]
    cases ho : okF (.mk 2 0 [t, t])
    · rfl
    · have hsh := ok_shape ho
      have hs1 : shape t = true := by
        simp only [shape, shapes, Bool.and_true, Bool.and_eq_true] at hsh
        exact hsh.2.1
      have ho1 : okF t = true := by
        unfold okF
        rw [hs1, dt (by omega)]; rfl
      have h1 : ftext t = text t := if_pos ho1
      have h2 : ftext (.mk 2 0 [t, t]) = text (.mk 2 0 [t, t]) := if_pos ho
      have s1 := text_size _ t (Nat.le_refl _) hs1
      rw [h1, h2]
      simp only [Bool.not_true, cond_false]
      refine (bif_t (by simp only [ByteArray.size_append, z5b, z1a, z1b]; omega)).trans ?_
      refine (bif_t (by simp only [ByteArray.size_append, z5b, z1a, z1b]; omega)).trans ?_
      refine (bif_t (by simp only [ByteArray.size_append, z5b, z1a, z1b]; omega)).trans ?_
      refine (bif_t (by simp only [ByteArray.size_append, z5b, z1a, z1b]; omega)).trans ?_
      congr 1
      exact beq_self_eq_true _
end Go.Proofs.Ythkonljgjjlloaa.Ev
