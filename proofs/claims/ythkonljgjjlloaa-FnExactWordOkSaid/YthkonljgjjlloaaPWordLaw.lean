/- The plain law of FnExactWordOk. No condition. -/
import Derived.Test.YthkonljgjjlloaaPWord
namespace Go.Proofs.Ythkonljgjjlloaa.Ev
open Go
/-- FnExactWordOk -/
theorem exactWordOk (x : List Int) (hx : DatOk (.sl i64) x) : ∃ L N, f5 L N x = some true := by
  refine ⟨x.length + 1, 0, ?_⟩
  have hm := lim_eq
  show f5.b _ _ some x = _
  unfold f5.b f5.b'
  by_cases hl : (x.length : Int) > 1048576
  · rw [dt hl, cond_true]
  · rw [df hl, cond_false]
    simp only [toIntS_ok _ 0 x (show x.length < x.length + 1 by omega) (by omega), eqIntS_ok _ 0 x (show x.length < x.length + 1 by omega) (by omega), wordOk_ok _ 0 x (show x.length < x.length + 1 by omega) (by omega), wordOk2_ok _ 0 x (show x.length < x.length + 1 by omega) (by omega), Option.bind_some, beq_self_eq_true, Bool.not_true, cond_false]
end Go.Proofs.Ythkonljgjjlloaa.Ev
