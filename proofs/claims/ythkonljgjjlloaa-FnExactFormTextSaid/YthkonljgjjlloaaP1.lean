/- Plain laws: what the plain functions compute. No conditions but those that each states. -/
import Derived.Test.YthkonljgjjlloaaG1b
import Derived.IntWalk
namespace Go.Proofs.Ythkonljgjjlloaa.Ev
open Go
set_option linter.unusedVariables false

theorem wi_id {n : Int} (h : -9223372036854775808 ≤ n) (h' : n ≤ 9223372036854775807) : wi n = n := by
  have h64 : (2 : Int) ^ 64 = 18446744073709551616 := by decide
  have h63 : (2 : Int) ^ (64 - 1) = 9223372036854775808 := by decide
  unfold wi IntKind.wrap
  simp only [IntKind.bits, IntKind.signed, h64, h63, Bool.true_and, decide_eq_true_eq]
  split <;> omega
theorem wi_nat {n : Nat} (h : n < 9223372036854775807) : wi ((n : Int) + 1) = ((n + 1 : Nat) : Int) := by
  rw [wi_id (by omega) (by omega)]; rfl
theorem at_lt {α : Type} {xs : List α} {d : α} {i : Nat} (h : i < xs.length) : listAt xs d i = xs[i] := by
  unfold listAt
  rw [List.getD_eq_getElem?_getD, List.getElem?_eq_getElem h]; rfl
theorem dt {p : Prop} [Decidable p] (h : p) : decide p = true := decide_eq_true h
theorem df {p : Prop} [Decidable p] (h : ¬ p) : decide p = false := decide_eq_false h
theorem lt_cast {i n : Nat} (h : i < n) : decide ((i : Int) < (n : Int)) = true := dt (by omega)
theorem ge_cast {i n : Nat} (h : ¬ i < n) : decide ((i : Int) < (n : Int)) = false := df (by omega)
theorem le0 {i : Nat} : decide ((0 : Int) ≤ (i : Int)) = true := dt (by omega)
theorem take_set {α : Type} {x ys : List α} {i : Nat} (hi : i < x.length) (hy : ys.length = x.length) (h : ys.take i = x.take i) : (ys.set i (x[i])).take (i + 1) = x.take (i + 1) := by
  apply List.ext_getElem?
  intro j
  rw [List.getElem?_take, List.getElem?_take]
  by_cases hj : j < i + 1
  · rw [if_pos hj, if_pos hj]
    by_cases he : j = i
    · subst he
      rw [List.getElem?_set_self (by omega), List.getElem?_eq_getElem hi]
    · rw [List.getElem?_set_ne (by omega)]
      have := congrArg (fun l => l[j]?) h
      simpa [List.getElem?_take, show j < i by omega] using this
  · rw [if_neg hj, if_neg hj]

theorem f16_ok (L N : Nat) (x : List Bool) (hL : x.length < L) (hl : x.length ≤ lim) : f16 L N x = some x := by
  have hl' : x.length < 9223372036854775807 := by unfold lim at hl; omega
  have key : ∀ (n i : Nat) (ys : List Bool), x.length - i < n → i ≤ x.length → ys.length = x.length → ys.take i = x.take i → f16.l0 L N (fun z3 => f16.p0_e0 L N some z3) n x (i : Int) ys = some x := by
    intro n
    induction n with
    | zero => intro i ys h; omega
    | succ n ih =>
      intro i ys h hi hy hj
      show f16.s0 L N _ (f16.l0 L N _ n) x i ys = _
      unfold f16.s0 f16.s0'
      by_cases hlt : i < x.length
      · simp only [lt_cast hlt, le0, lt_cast (show i < ys.length by omega), cond_true, Bool.and_true, wi_nat (show i < 9223372036854775807 by omega), Int.toNat_natCast, at_lt hlt]
        exact ih (i + 1) _ (by omega) (by omega) (by simp [hy]) (take_set hlt hy hj)
      · simp only [ge_cast hlt, cond_false]
        have hi' : i = x.length := by omega
        subst hi'
        rw [List.take_length, ← hy, List.take_length] at hj
        rw [hj]; rfl
  show f16.b L N some x = _
  unfold f16.b f16.b'
  simp only [le0, dt (show ((x.length : Int) ≤ (lim : Int)) by omega), cond_true, Bool.and_true]
  exact key L 0 _ (by omega) (by omega) (by simp) (by simp)

theorem f18_ok (L N : Nat) (x : List Bool) (hL : x.length < L) (hl : x.length ≤ lim) : f18 L N x x = some true := by
  have hl' : x.length < 9223372036854775807 := by unfold lim at hl; omega
  have key : ∀ (n i : Nat), x.length - i < n → i ≤ x.length → f18.l0 L N (f18.p0_e0 L N some) (fun z3 => f18.p0_r L N some z3) n x x (i : Int) = some true := by
    intro n
    induction n with
    | zero => intro i h; omega
    | succ n ih =>
      intro i h hi
      show f18.s0 L N _ _ (f18.l0 L N _ _ n) x x i = _
      unfold f18.s0 f18.s0'
      by_cases hlt : i < x.length
      · simp only [lt_cast hlt, le0, cond_true, Bool.and_true, wi_nat (show i < 9223372036854775807 by omega), beq_self_eq_true, Bool.not_true, cond_false]
        exact ih (i + 1) (by omega) (by omega)
      · simp only [ge_cast hlt, cond_false]
        rfl
  show f18.b L N some x x = _
  unfold f18.b f18.b'
  simp only [bne_self_eq_false, cond_false]
  exact key L 0 (by omega) (by omega)

/-- FnExactMenuOk -/
theorem f3_ok (x : List Bool) (_ : DatOk (.sl .bool) x) : ∃ L N, f3 L N x = some true := by
  refine ⟨x.length + 1, 0, ?_⟩
  show f3.b _ _ some x = _
  unfold f3.b f3.b'
  by_cases hx : (x.length : Int) > 1048576
  · simp only [dt hx, cond_true]
  · have hl : x.length ≤ lim := by unfold lim; omega
    have h16 : f16 (x.length + 1) 0 x = some x := f16_ok _ _ x (by omega) hl
    have h18 : f18 (x.length + 1) 0 x x = some true := f18_ok _ _ x (by omega) hl
    have h17 : f17 (x.length + 1) 0 x = f15 (x.length + 1) 0 x := rfl
    have h15 : f15 (x.length + 1) 0 x = some ((x.length : Int) == (8 : Int)) := rfl
    simp only [df hx, cond_false, h16, Option.bind_some, h18, h17, h15, beq_self_eq_true, Bool.not_true]
end Go.Proofs.Ythkonljgjjlloaa.Ev
