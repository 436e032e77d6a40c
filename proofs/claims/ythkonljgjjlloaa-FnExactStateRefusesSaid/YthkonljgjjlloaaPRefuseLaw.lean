/- The plain law of FnExactStateRefuses. No condition. -/
import Derived.Test.YthkonljgjjlloaaPRefuse
namespace Go.Proofs.Ythkonljgjjlloaa.Ev
open Go
set_option linter.unusedSimpArgs false
/-- both StateRefuses -/
theorem stateRefuses_eq (L N : Nat) (g : Graph) (s : Int) (menu : List Bool) (hg : g.moves.length + gsize g.moves ≤ 1048576) (hL : 1048576 < L) : ∃ b, f39 L N g s menu = some b ∧ f37 L N g s menu = some b := by
  have hge : Graph.mk g.moves = g := by cases g; rfl
  show ∃ b, f39.b L N some g s menu = some b ∧ f37.b L N some g s menu = some b
  unfold f39.b f39.b' f37.b f37.b'
  rw [hge, gok1_ok L N g hL hg, gok2_ok L N g hL hg]
  simp only [Option.bind_some]
  cases hgk : graphOk g
  · exact ⟨false, rfl, rfl⟩
  · obtain ⟨g1, g2, g3⟩ := graphOk_mv hgk
    have hw : wi ((g.moves.length : Int) - 1) = (g.moves.length : Int) - 1 := wi_id (by omega) (by omega)
    rw [hw, in_ok]
    simp only [cond_true, Option.bind_some]
    by_cases h0 : s ≥ 0
    · rw [dt h0, cond_true]
      by_cases h1 : s < (g.moves.length : Int)
      · rw [dt h1, cond_true, dt (show 0 ≤ s ∧ s ≤ (g.moves.length : Int) - 1 by omega), cond_true]
        have e1 : f17 L N menu = some ((menu.length : Int) == 8) := rfl
        have e2 : f15 L N menu = some ((menu.length : Int) == 8) := rfl
        rw [e1, e2]
        simp only [Option.bind_some]
        by_cases h8 : menu.length = 8
        · have : ((menu.length : Int) == 8) = true := by rw [beq_iff_eq]; omega
          rw [this]
          simp only [cond_true]
          obtain ⟨k, rfl⟩ := Int.eq_ofNat_of_zero_le h0
          have hk : k < g.moves.length := by omega
          have ha : ActsOk g.moves[k] := fun m hm => by
            obtain ⟨i, hi, rfl⟩ := List.mem_iff_getElem.1 hm
            have := g3 k hk i hi
            exact ⟨this.1, this.2.1⟩
          have hrow := gsize_row _ (List.getElem_mem hk)
          rw [refuses1_ok L N g k menu hk ha h8 hL (by omega), refuses2_ok L N g k menu hk ha h8 hL (by omega)]
          exact ⟨_, rfl, rfl⟩
        · have : ((menu.length : Int) == 8) = false := by rw [beq_eq_false_iff_ne]; omega
          rw [this]
          exact ⟨false, rfl, rfl⟩
      · rw [df h1, cond_false, df (show ¬ (0 ≤ s ∧ s ≤ (g.moves.length : Int) - 1) by omega)]
        exact ⟨false, rfl, rfl⟩
    · rw [df h0, cond_false, df (show ¬ (0 ≤ s ∧ s ≤ (g.moves.length : Int) - 1) by omega)]
      exact ⟨false, rfl, rfl⟩
/-- FnExactStateRefuses -/
theorem exactStateRefuses (g : Graph) (hg : DatOk (.st 2) g) (s : Int) (_ : DatOk i64 s) (menu : List Bool) (hm : DatOk (.sl .bool) menu) : ∃ L N, f12 L N g s menu = some true := by
  have hge : Graph.mk g.moves = g := by cases g; rfl
  refine ⟨1048577 + menu.length, 0, ?_⟩
  have hlim := lim_eq
  show f12.b _ _ some g s menu = _
  unfold f12.b f12.b'
  by_cases hl : (menu.length : Int) > 1048576
  · rw [dt hl, cond_true]
  · rw [df hl, cond_false, hge]
    obtain ⟨r, hr, hc⟩ := szGraph_ok (1048577 + menu.length) 0 g hg (by omega)
    rw [hr]
    simp only [Option.bind_some]
    by_cases hn : r < 0
    · rw [dt hn, cond_true]
    · rw [df hn, cond_false]
      have hsz : g.moves.length + gsize g.moves ≤ 1048576 := by omega
      obtain ⟨b, h1, h2⟩ := stateRefuses_eq (1048577 + menu.length) 0 g s menu hsz (by omega)
      simp only [toGraph_ok (1048577 + menu.length) 0 g (by omega) hsz, toBoolS_ok (1048577 + menu.length) 0 menu (by omega) (by omega), hge, h1, h2, Option.bind_some, eqGraph_ok (1048577 + menu.length) 0 g (by omega) hsz, eqBoolS_ok (1048577 + menu.length) 0 menu (by omega) (by omega), beq_self_eq_true, Bool.not_true, cond_false]
end Go.Proofs.Ythkonljgjjlloaa.Ev
