/- Plain law: the weak graph of both sides; the statement. No conditions but those that each states. -/
import Derived.Test.YtdfjdbpklbehoaaPWeak2
import Derived.Test.YtdfjdbpklbehoaaPMarkG
namespace Go.Proofs.Ytdfjdbpklbehoaa.Ev
open Go
set_option linter.unusedVariables false
set_option linter.unusedSimpArgs false

theorem len_asc {f : Move → Int} {B : Int} : ∀ {l : List Move} {b : Int}, (l.Pairwise fun x y => f x < f y) → (∀ x ∈ l, b ≤ f x ∧ f x < B) → b ≤ B → (l.length : Int) ≤ B - b
  | [], b, _, _, hb => by simp; omega
  | x :: l, b, hp, hb, hB => by
    obtain ⟨h1, h2⟩ := List.pairwise_cons.1 hp
    obtain ⟨h3, h4⟩ := hb x (.head _)
    have := len_asc (b := f x + 1) h2 (fun y hy => ⟨by have := h1 y hy; omega, (hb y (.tail _ hy)).2⟩) (by omega)
    rw [List.length_cons]
    omega
theorem risesM_len {l : List Move} (hr : RisesM l) (h : ∀ m ∈ l, -4 ≤ m.act ∧ m.act ≤ 4 ∧ 0 ≤ m.to ∧ m.to < 60) : l.length ≤ 540 := by
  have h1 : l.Pairwise fun x y => (x.act + 4) * 60 + x.to < (y.act + 4) * 60 + y.to := by
    refine List.Pairwise.imp_of_mem ?_ hr
    intro x y hx hy hxy
    unfold lessM at hxy
    have hxy := of_decide_eq_true hxy
    have := h x hx
    have := h y hy
    omega
  have := len_asc (B := 540) (b := 0) h1 (fun x hx => by have := h x hx; omega) (by omega)
  omega
theorem gsize_le {B : Nat} : ∀ {ms : List (List Move)}, (∀ r ∈ ms, r.length ≤ B) → gsize ms ≤ ms.length * B
  | [], _ => by simp [gsize]
  | r :: ms, h => by
    have h1 := h r (.head _)
    have h2 := gsize_le (B := B) (ms := ms) fun x hx => h x (.tail _ hx)
    unfold gsize at h2 ⊢
    rw [List.map_cons, List.sum_cons, List.length_cons, Nat.add_mul, Nat.one_mul]
    omega

theorem weakGraph_eq (L N : Nat) (g : Graph) (hg : g.moves.length + gsize g.moves ≤ 1048576) (hL : 8589934592 ≤ L) :
    ∃ rows ok, f46 L N g = some (⟨rows⟩, ok) ∧ f47 L N g = some (rows, ok) ∧ rows.length + gsize rows ≤ 1048576 ∧ rows.length ≤ 60 ∧ ∀ r ∈ rows, r.length ≤ 540 := by
  have hge : Graph.mk g.moves = g := by cases g; rfl
  have h1 := gok1_ok L N g (by omega) hg
  have h2 := gok2_ok L N g (by omega) hg
  cases hok : graphOk g with
  | false =>
    refine ⟨[], false, ?_, ?_, by simp [gsize], by simp, by simp⟩
    · show f46.b' L N (fun a0 a1 => some (a0, a1)) g = _
      unfold f46.b'
      rw [hge, h2, Option.bind_some, hok, Bool.not_false, cond_true]
    · show f47.b' L N (fun a0 a1 => some (a0, a1)) g = _
      unfold f47.b'
      rw [hge, h1, Option.bind_some, hok, Bool.not_false, cond_true]
  | true =>
    have hm := leads_of hok hg
    obtain ⟨rows, w1, w2, w3, w4⟩ := weak_eq L N g.moves hm hL
    have hn := hm.1
    have hrow : ∀ r ∈ rows, r.length ≤ 540 := fun r hr => by
      obtain ⟨j, hj, rfl⟩ := List.mem_iff_getElem.1 hr
      refine risesM_len (w4 j hj).1 fun m hmm => ?_
      obtain ⟨mid, hs, q⟩ := ((w4 j hj).2 m).1 hmm
      have hml : mid < g.moves.length := hs.lt hm (fun t ht => by omega)
      rcases q with ⟨ha, ht⟩ | ⟨_, k, hk, t, u, ha, hact, ht, hu, hto⟩
      · omega
      · obtain ⟨-, -, hmv⟩ := graphOk_mv hok
        have hb := hmv mid hml k hk
        have hul : u < g.moves.length := hu.lt hm (fun x hx => by omega)
        omega
    have hgs := gsize_le hrow
    refine ⟨rows, true, ?_, ?_, by omega, by omega, hrow⟩
    · show f46.b' L N (fun a0 a1 => some (a0, a1)) g = _
      unfold f46.b'
      rw [hge, h2, Option.bind_some, hok, Bool.not_true, cond_false]
      have w2' : f87 L N g false = some ⟨rows⟩ := by rw [← hge]; exact w2
      rw [w2', Option.bind_some]
    · show f47.b' L N (fun a0 a1 => some (a0, a1)) g = _
      unfold f47.b'
      rw [hge, h1, Option.bind_some, hok, Bool.not_true, cond_false]
      have w1' : f88 L N g = some rows := by rw [← hge]; exact w1
      rw [w1', Option.bind_some]

theorem exactWeakGraph (g : Graph) (hg : DatOk (.st 2) g) : ∃ L N, f10 L N g = some true := by
  have hge : Graph.mk g.moves = g := by cases g; rfl
  generalize hLL : 8589934592 = L
  refine ⟨L, 0, ?_⟩
  have hlim := lim_eq
  show f10.b' L 0 some g = _
  unfold f10.b'
  rw [hge]
  obtain ⟨r, hr, hc⟩ := szGraph_ok L 0 g hg (by omega)
  rw [hr]
  simp only [Option.bind_some]
  by_cases hn : r < 0
  · rw [dt hn, cond_true]
  · rw [df hn, cond_false]
    have hsz : g.moves.length + gsize g.moves ≤ 1048576 := by omega
    obtain ⟨rows, ok, h1, h2, h3, h4, h5⟩ := weakGraph_eq L 0 g hsz (by omega)
    obtain ⟨j, ys, m1, m2, m3, m4, m5, m6⟩ := markMoveSS_eq L 0 g.moves 1 (by omega) (fun r hr => by have := gsize_row r hr; omega) (by omega) (by omega) (by omega)
    obtain ⟨j2, zs, n1, n2, n3, n4, n5, n6⟩ := markMoveSS_eq L 0 rows 1 (by omega) (fun r hr => by have := h5 r hr; omega) (by omega) (by omega) (by omega)
    have hh := heldGraph_ok L 0 zs 1 j2 (by omega) n6 (by omega) (by omega) (by omega) n2
    have hq := eqGraph_ok L 0 ⟨rows⟩ (by omega) h3
    simp only [toGraph_ok L 0 g (by omega) hsz, hge, h1, h2, Option.bind_some, eqGraph_ok L 0 g (by omega) hsz, hq, Bool.not_true, cond_false, beq_self_eq_true]
    unfold f10.j2'
    simp only [toGraph_ok L 0 g (by omega) hsz, hge, h1, h2, Option.bind_some, eqGraph_ok L 0 g (by omega) hsz, hq, Bool.not_true, cond_false, beq_self_eq_true, m1]
    rw [df (show ¬ j < 0 by omega)]
    simp only [cond_false]
    unfold f10.j1'
    simp only [toGraph_ok L 0 g (by omega) hsz, hge, h1, h2, Option.bind_some, eqGraph_ok L 0 g (by omega) hsz, hq, Bool.not_true, cond_false, beq_self_eq_true, n1, hh, bne_self_eq_false]
    rw [df (show ¬ j2 < 0 by omega)]
    simp only [cond_false]
    unfold f10.j0'
    simp only [hh, Option.bind_some, bne_self_eq_false, cond_false]
    rw [df (show ¬ j2 < 0 by omega)]
    simp only [cond_false]
end Go.Proofs.Ytdfjdbpklbehoaa.Ev
