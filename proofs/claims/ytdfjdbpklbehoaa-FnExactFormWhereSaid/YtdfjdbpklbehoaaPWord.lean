/- Plain laws of words: the program's and the reference's WordOk say the same. No conditions but those that each states. -/
import Derived.Test.YtdfjdbpklbehoaaPGraph
namespace Go.Proofs.Ytdfjdbpklbehoaa.Ev
open Go
set_option linter.unusedVariables false
set_option linter.unusedSimpArgs false

theorem eqIntS_ok (L N : Nat) (x : List Int) (hL : x.length < L) (hl : x.length ≤ lim) : f21 L N x x = some true := by
  have hm := lim_eq
  show f21.b L N some x x = _
  unfold f21.b f21.b'
  simp only [bne_self_eq_false, cond_false]
  refine (all_loop (l := fun n i => f21.l0 L N (f21.p0_e0 L N some) (fun z4 => f21.p0_r L N some z4) n x x i) (len := x.length) (q := fun _ => true) (rt := some true) (rf := some false) (fun n i hi => ?_) (fun n => ?_) L 0 (by omega) (by omega)).trans (by rw [allN_true]; rfl)
  · show f21.s0 L N _ _ (f21.l0 L N _ _ n) x x i = _
    unfold f21.s0 f21.s0'
    simp only [lt_cast hi, le0, cond_true, Bool.and_true, Int.toNat_natCast, at_lt hi, bne_self_eq_false, cond_false, wi_nat (show i < 9223372036854775807 by omega)]
  · show f21.s0 L N _ _ (f21.l0 L N _ _ n) x x x.length = _
    unfold f21.s0 f21.s0'
    simp only [ge_cast (Nat.lt_irrefl _), cond_false]
    rfl
end Go.Proofs.Ytdfjdbpklbehoaa.Ev
