/- Plain laws of words: the program's and the reference's WordOk say the same. No conditions but those that each states. -/
import Derived.Test.YtdfjdbpklbehoaaPGraph
namespace Go.Proofs.Ytdfjdbpklbehoaa.Ev
open Go
set_option linter.unusedVariables false
set_option linter.unusedSimpArgs false

theorem toIntS_ok (L N : Nat) (x : List Int) (hL : x.length < L) (hl : x.length ≤ lim) : f36 L N x = some x := by
  have hm := lim_eq
  show f36.b L N some x = _
  unfold f36.b f36.b'
  refine (bif_t2 (by omega) (by omega)).trans ?_
  refine copy_loop (l := fun n i ys => f36.l0 L N (fun z3 => f36.p0_e0 L N some z3) n x i ys) (fun n i hi ys hy => ?_) (fun n ys => ?_) L 0 _ (by omega) (by omega) (by simp) (by simp)
  · show f36.s0 L N _ (f36.l0 L N _ n) x i ys = _
    unfold f36.s0 f36.s0'
    simp only [lt_cast hi, le0, cond_true, Bool.and_true, Int.toNat_natCast, at_lt hi, lt_cast (show i < ys.length by omega), wi_nat (show i < 9223372036854775807 by omega)]
  · show f36.s0 L N _ (f36.l0 L N _ n) x x.length ys = _
    unfold f36.s0 f36.s0'
    simp only [ge_cast (Nat.lt_irrefl _), cond_false]
    rfl
theorem eqIntS_ok (L N : Nat) (x : List Int) (hL : x.length < L) (hl : x.length ≤ lim) : f21 L N x x = some true := by
  have hm := lim_eq
  show f21.b L N some x x = _
  unfold f21.b f21.b'
  simp only [bne_self_eq_false, cond_false]
  refine (all_loop (l := fun n i => f21.l0 L N (f21.p0_e0 L N some) (fun z4 => f21.p0_r L N some z4) n x x i) (len := x.length) (q := fun _ => true) (rt := some true) (rf := some false) (fun n i hi => ?_) (fun n => ?_) L 0 (by omega) (by omega)).trans (by rw [allN_true]; rfl)
  · show f21.s0 L N _ _ (f21.l0 L N _ _ n) x x i = _
    unfold f21.s0 f21.s0'
    simp only [lt_cast hi, le0, cond_true, Bool.and_true, Int.toNat_natCast, at_lt hi, bne_self_eq_false, cond_false, wi_nat (show i < 9223372036854775807 by omega)]
  · show f21.s0 L N _ _ (f21.l0 L N _ _ n) x x x.length = _
    unfold f21.s0 f21.s0'
    simp only [ge_cast (Nat.lt_irrefl _), cond_false]
    rfl

def seenB (n : Int) : Bool := decide (-4 ≤ n ∧ n ≤ 4) && !(n == 0)
theorem seen_ok (L N : Nat) (n : Int) : f140 L N n = some (seenB n) := by
  show f140.b L N some n = _
  unfold f140.b f140.b' seenB
  rw [act1_ok]
  simp only [Option.bind_some]
  cases decide (-4 ≤ n ∧ n ≤ 4) <;> rfl
theorem seenAll_ok (L N : Nat) (w : List Int) (hL : w.length < L) (hl : w.length ≤ lim) : f111 L N w = some (w.all seenB) := by
  have hm := lim_eq
  have h72 : ∀ n, f139 L N n = some (!seenB n) := fun n => by
    show f139.b L N some n = _
    unfold f139.b f139.b'
    rw [seen_ok]; rfl
  obtain ⟨r, hr, hd⟩ := find_loop (l := fun n i => f153_1.l0 L N (f153_1.p0_e0 L N some) (fun z4 => f153_1.p0_r L N some z4) n w (w.length : Int) i) (x := w) (p := fun n => !seenB n) (fun n i hi => by
    show f153_1.s0 L N _ _ (f153_1.l0 L N _ _ n) w (w.length : Int) i = _
    unfold f153_1.s0 f153_1.s0'
    simp only [lt_cast hi, le0, cond_true, Bool.and_true, Int.toNat_natCast, at_lt hi, h72, Option.bind_some, wi_nat (show i < 9223372036854775807 by omega)]
    rfl) (fun n => by
    show f153_1.s0 L N _ _ (f153_1.l0 L N _ _ n) w (w.length : Int) w.length = _
    unfold f153_1.s0 f153_1.s0'
    simp only [ge_cast (Nat.lt_irrefl _), cond_false]
    rfl) L 0 (by omega) (by omega)
  have h91 : f153_1 L N w = some r := hr
  have h71 : f138_1 L N w = some (decide (r ≥ 0)) := by
    show f138_1.b L N some w = _
    unfold f138_1.b f138_1.b'
    rw [h91]; rfl
  show f111.b L N some w = _
  unfold f111.b f111.b'
  rw [h71, hd, List.drop_zero]
  simp only [Option.bind_some]
  congr 1
  clear hL hl hr hd h91 h71
  induction w with
  | nil => rfl
  | cons a w ih => rw [List.any_cons, List.all_cons, Bool.not_or, Bool.not_not, ih]
theorem wordOk_ok (L N : Nat) (w : List Int) (hL : w.length < L) (hl : w.length ≤ lim) : f78 L N w = some (decide (w.length ≤ 20) && w.all seenB) := by
  show f78.b L N some w = _
  unfold f78.b f78.b'
  by_cases h : w.length ≤ 20
  · rw [dt (show (w.length : Int) ≤ 20 by omega), cond_true, seenAll_ok L N w hL hl, dt h]; rfl
  · rw [df (show ¬ (w.length : Int) ≤ 20 by omega), cond_false, df h]; rfl
theorem wordOk2_ok (L N : Nat) (w : List Int) (hL : w.length < L) (hl : w.length ≤ lim) : f74 L N w = some (decide (w.length ≤ 20) && w.all seenB) := by
  have hm := lim_eq
  show f74.b L N some w = _
  unfold f74.b f74.b'
  refine (all_loop (l := fun n i => f74.l0 L N (fun z2 => f74.p0_e0 L N some z2) (fun z7 z8 => f74.p0_r L N some z7 z8) n w i) (len := w.length) (q := atP seenB w) (rt := some (decide ((w.length : Int) ≤ 20))) (rf := some false) (fun n i hi => ?_) (fun n => ?_) L 0 (by omega) (by omega)).trans ?_
  · show f74.s0 L N _ _ (f74.l0 L N _ _ n) w i = _
    unfold f74.s0 f74.s0'
    simp only [lt_cast hi, le0, cond_true, Bool.and_true, Int.toNat_natCast, at_lt hi, act2_ok, Option.bind_some, wi_nat (show i < 9223372036854775807 by omega), atP_lt hi]
    unfold seenB
    cases decide (-4 ≤ w[i] ∧ w[i] ≤ 4)
    · rfl
    · cases (w[i] == 0) <;> rfl
  · show f74.s0 L N _ _ (f74.l0 L N _ _ n) w w.length = _
    unfold f74.s0 f74.s0'
    simp only [ge_cast (Nat.lt_irrefl _), cond_false]
    rfl
  · rw [allN_list w 0 (by omega), List.drop_zero]
    by_cases h : w.length ≤ 20
    · rw [dt (show (w.length : Int) ≤ 20 by omega), dt h]
      cases w.all seenB <;> rfl
    · rw [df (show ¬ (w.length : Int) ≤ 20 by omega), df h]
      cases w.all seenB <;> rfl
end Go.Proofs.Ytdfjdbpklbehoaa.Ev
