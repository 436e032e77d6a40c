/- Plain laws of words: the program's and the reference's WordOk say the same. No conditions but those that each states. -/
import Derived.Test.YthkonljgjjlloaaPGraph
namespace Go.Proofs.Ythkonljgjjlloaa.Ev
open Go
set_option linter.unusedVariables false
set_option linter.unusedSimpArgs false

theorem toIntS_ok (L N : Nat) (x : List Int) (hL : x.length < L) (hl : x.length ≤ lim) : f21 L N x = some x := by
  have hm := lim_eq
  show f21.b L N some x = _
  unfold f21.b f21.b'
  refine (bif_t2 (by omega) (by omega)).trans ?_
  refine copy_loop (l := fun n i ys => f21.l0 L N (fun z3 => f21.p0_e0 L N some z3) n x i ys) (fun n i hi ys hy => ?_) (fun n ys => ?_) L 0 _ (by omega) (by omega) (by simp) (by simp)
  · show f21.s0 L N _ (f21.l0 L N _ n) x i ys = _
    unfold f21.s0 f21.s0'
    simp only [lt_cast hi, le0, cond_true, Bool.and_true, Int.toNat_natCast, at_lt hi, lt_cast (show i < ys.length by omega), wi_nat (show i < 9223372036854775807 by omega)]
  · show f21.s0 L N _ (f21.l0 L N _ n) x x.length ys = _
    unfold f21.s0 f21.s0'
    simp only [ge_cast (Nat.lt_irrefl _), cond_false]
    rfl
theorem eqIntS_ok (L N : Nat) (x : List Int) (hL : x.length < L) (hl : x.length ≤ lim) : f23 L N x x = some true := by
  have hm := lim_eq
  show f23.b L N some x x = _
  unfold f23.b f23.b'
  simp only [bne_self_eq_false, cond_false]
  refine (all_loop (l := fun n i => f23.l0 L N (f23.p0_e0 L N some) (fun z4 => f23.p0_r L N some z4) n x x i) (len := x.length) (q := fun _ => true) (rt := some true) (rf := some false) (fun n i hi => ?_) (fun n => ?_) L 0 (by omega) (by omega)).trans (by rw [allN_true]; rfl)
  · show f23.s0 L N _ _ (f23.l0 L N _ _ n) x x i = _
    unfold f23.s0 f23.s0'
    simp only [lt_cast hi, le0, cond_true, Bool.and_true, Int.toNat_natCast, at_lt hi, bne_self_eq_false, cond_false, wi_nat (show i < 9223372036854775807 by omega)]
  · show f23.s0 L N _ _ (f23.l0 L N _ _ n) x x x.length = _
    unfold f23.s0 f23.s0'
    simp only [ge_cast (Nat.lt_irrefl _), cond_false]
    rfl

def seenB (n : Int) : Bool := decide (-4 ≤ n ∧ n ≤ 4) && !(n == 0)
theorem seen_ok (L N : Nat) (n : Int) : f73 L N n = some (seenB n) := by
  show f73.b L N some n = _
  unfold f73.b f73.b' seenB
  rw [act1_ok]
  simp only [Option.bind_some]
  cases decide (-4 ≤ n ∧ n ≤ 4) <;> rfl
theorem seenAll_ok (L N : Nat) (w : List Int) (hL : w.length < L) (hl : w.length ≤ lim) : f47 L N w = some (w.all seenB) := by
  have hm := lim_eq
  have h72 : ∀ n, f72 L N n = some (!seenB n) := fun n => by
    show f72.b L N some n = _
    unfold f72.b f72.b'
    rw [seen_ok]; rfl
  obtain ⟨r, hr, hd⟩ := find_loop (l := fun n i => f91_1.l0 L N (f91_1.p0_e0 L N some) (fun z4 => f91_1.p0_r L N some z4) n w (w.length : Int) i) (x := w) (p := fun n => !seenB n) (fun n i hi => by
    show f91_1.s0 L N _ _ (f91_1.l0 L N _ _ n) w (w.length : Int) i = _
    unfold f91_1.s0 f91_1.s0'
    simp only [lt_cast hi, le0, cond_true, Bool.and_true, Int.toNat_natCast, at_lt hi, h72, Option.bind_some, wi_nat (show i < 9223372036854775807 by omega)]
    rfl) (fun n => by
    show f91_1.s0 L N _ _ (f91_1.l0 L N _ _ n) w (w.length : Int) w.length = _
    unfold f91_1.s0 f91_1.s0'
    simp only [ge_cast (Nat.lt_irrefl _), cond_false]
    rfl) L 0 (by omega) (by omega)
  have h91 : f91_1 L N w = some r := hr
  have h71 : f71_1 L N w = some (decide (r ≥ 0)) := by
    show f71_1.b L N some w = _
    unfold f71_1.b f71_1.b'
    rw [h91]; rfl
  show f47.b L N some w = _
  unfold f47.b f47.b'
  rw [h71, hd, List.drop_zero]
  simp only [Option.bind_some]
  congr 1
  clear hL hl hr hd h91 h71
  induction w with
  | nil => rfl
  | cons a w ih => rw [List.any_cons, List.all_cons, Bool.not_or, Bool.not_not, ih]
theorem wordOk_ok (L N : Nat) (w : List Int) (hL : w.length < L) (hl : w.length ≤ lim) : f22 L N w = some (decide (w.length ≤ 20) && w.all seenB) := by
  show f22.b L N some w = _
  unfold f22.b f22.b'
  by_cases h : w.length ≤ 20
  · rw [dt (show (w.length : Int) ≤ 20 by omega), cond_true, seenAll_ok L N w hL hl, dt h]; rfl
  · rw [df (show ¬ (w.length : Int) ≤ 20 by omega), cond_false, df h]; rfl
theorem wordOk2_ok (L N : Nat) (w : List Int) (hL : w.length < L) (hl : w.length ≤ lim) : f20 L N w = some (decide (w.length ≤ 20) && w.all seenB) := by
  have hm := lim_eq
  show f20.b L N some w = _
  unfold f20.b f20.b'
  refine (all_loop (l := fun n i => f20.l0 L N (fun z2 => f20.p0_e0 L N some z2) (fun z7 z8 => f20.p0_r L N some z7 z8) n w i) (len := w.length) (q := atP seenB w) (rt := some (decide ((w.length : Int) ≤ 20))) (rf := some false) (fun n i hi => ?_) (fun n => ?_) L 0 (by omega) (by omega)).trans ?_
  · show f20.s0 L N _ _ (f20.l0 L N _ _ n) w i = _
    unfold f20.s0 f20.s0'
    simp only [lt_cast hi, le0, cond_true, Bool.and_true, Int.toNat_natCast, at_lt hi, act2_ok, Option.bind_some, wi_nat (show i < 9223372036854775807 by omega), atP_lt hi]
    unfold seenB
    cases decide (-4 ≤ w[i] ∧ w[i] ≤ 4)
    · rfl
    · cases (w[i] == 0) <;> rfl
  · show f20.s0 L N _ _ (f20.l0 L N _ _ n) w w.length = _
    unfold f20.s0 f20.s0'
    simp only [ge_cast (Nat.lt_irrefl _), cond_false]
    rfl
  · rw [allN_list w 0 (by omega), List.drop_zero]
    by_cases h : w.length ≤ 20
    · rw [dt (show (w.length : Int) ≤ 20 by omega), dt h]
      cases w.all seenB <;> rfl
    · rw [df (show ¬ (w.length : Int) ≤ 20 by omega), df h]
      cases w.all seenB <;> rfl
end Go.Proofs.Ythkonljgjjlloaa.Ev
