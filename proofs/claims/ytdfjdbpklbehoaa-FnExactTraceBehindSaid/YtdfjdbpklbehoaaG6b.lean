/- The seat's functions as plain functions, continued: made by program (wip/gen/gen.py). -/
import Derived.Test.YtdfjdbpklbehoaaG6a
namespace Go.Proofs.Ytdfjdbpklbehoaa.Ev
open Go
set_option linter.unusedVariables false
set_option maxRecDepth 20000
theorem f76.l0_nat {R R' : Type} (j : R → Option R') (L N : Nat) (k0_e0 : (List Bool) → Option R) : ∀ (n : Nat) (s1 : (List Int)) (s2 : (List Bool)) (s3 : Int) (s4 : (List (List Move))),
    f76.l0 L N (fun a0 => (k0_e0 a0).bind j) n s1 s2 s3 s4 = (f76.l0 L N k0_e0 n s1 s2 s3 s4).bind j := by
  intro n
  induction n with
  | zero => intros; rfl
  | succ n ih =>
    intro s1 s2 s3 s4
    show f76.s0 L N (fun a0 => (k0_e0 a0).bind j) (f76.l0 L N (fun a0 => (k0_e0 a0).bind j) n) s1 s2 s3 s4 = _
    rw [show f76.l0 L N (fun a0 => (k0_e0 a0).bind j) n = (fun s1 s2 s3 s4 => (f76.l0 L N k0_e0 n s1 s2 s3 s4).bind j) from funext fun s1 => funext fun s2 => funext fun s3 => funext fun s4 => ih s1 s2 s3 s4]
    exact f76.s0_nat ..
theorem f76.p0_e0'_nat {R R' : Type} (j : R → Option R') (L N : Nat) (k : (List Bool) → Option R) (z5 : (List Bool)) :
    f76.p0_e0' L N (fun a0 => (k a0).bind j) z5 = (f76.p0_e0' L N k z5).bind j := by
  unfold f76.p0_e0'
  repeat' (first | (with_reducible refine cond_nat ?_ ?_) | (with_reducible refine bind_nat fun _ => ?_) | rfl)
theorem f76.p0_e0_nat {R R' : Type} (j : R → Option R') (L N : Nat) (k : (List Bool) → Option R) (z5 : (List Bool)) :
    f76.p0_e0 L N (fun a0 => (k a0).bind j) z5 = (f76.p0_e0 L N k z5).bind j := by
  unfold f76.p0_e0
  exact f76.p0_e0'_nat ..
theorem f76.b'_nat {R R' : Type} (j : R → Option R') (L N : Nat) (k : (List Bool) → Option R) (w0 : (List Int) → (List Bool) → Int → (List (List Move)) → Option R) (x0 : Graph) (x1 : (List Int)) :
    f76.b' L N (fun a0 => (k a0).bind j) (fun a0 a1 a2 a3 => (w0 a0 a1 a2 a3).bind j) x0 x1 = (f76.b' L N k w0 x0 x1).bind j := by
  unfold f76.b'
  repeat' (first | (with_reducible refine cond_nat ?_ ?_) | (with_reducible refine bind_nat fun _ => ?_) | rfl)
theorem f76.b_nat {R R' : Type} (j : R → Option R') (L N : Nat) (k : (List Bool) → Option R) (x0 : Graph) (x1 : (List Int)) :
    f76.b L N (fun a0 => (k a0).bind j) x0 x1 = (f76.b L N k x0 x1).bind j := by
  unfold f76.b
  simp only [f76.l0_nat, f76.p0_e0_nat]
  exact f76.b'_nat ..
theorem f76.ok (L N : Nat) (hΦ : TellsOk Try.prog ((Φ110 L N))) : EntOk Try.prog 76 (f76.ent L N) := by
  intro args vw site h
  unfold f76.ent
  split
  · rename_i d u ha
    intro y hy hs
    refine call_data (dep := 1000) (E := (E76 L N)) (rs := (.one (.sl .bool))) (v' := (.tv (.sl .bool) y)) (sound_of hΦ) okP (callI_sound (sound_of hΦ) okP 1 2000) (f := Try.f76) rfl hs ha ?_ site
    refine (f76.b_eq L N some d.1 d.2.1).trans ?_
    refine ((f76.b_nat (fun y => (some (.tv (.sl .bool) y) : Option AV)) L N some d.1 d.2.1)).trans ?_
    rw [show f76.b L N some d.1 d.2.1 = some y from hy]
    rfl
  · intro y hy
    cases hy
def Φ76 (L N : Nat) : Tells := (addT (Φ110 L N) 76 (f76.ent L N))
theorem Φ76_ok (L N : Nat) : TellsOk Try.prog (Φ76 L N) := addT_ok (Φ110_ok L N) (f76.ok L N (Φ110_ok L N))
def f77.s0' {R : Type} (L N : Nat) (k0_e0 : (List Int) → Option R) (rec0 : (List Bool) → Int → (List Int) → Option R) (s0 : (List Bool)) (s1 : Int) (s2 : (List Int)) : Option R :=
  bif (decide (s1 < (s0.length : Int))) then
    bif (decide (0 ≤ s1) && decide (s1 < (s0.length : Int))) then
      bif (listAt s0 false s1.toNat) then
        bif (decide (s2.length + ([s1] : (List Int)).length ≤ lim)) then
          rec0 s0 (wi (s1 + (1 : Int))) (s2 ++ ([s1] : (List Int)))
        else none
      else rec0 s0 (wi (s1 + (1 : Int))) s2
    else none
  else k0_e0 s2
def f77.s0 {R : Type} (L N : Nat) (k0_e0 : (List Int) → Option R) (rec0 : (List Bool) → Int → (List Int) → Option R) (s0 : (List Bool)) (s1 : Int) (s2 : (List Int)) : Option R :=
  f77.s0' L N k0_e0 rec0 s0 s1 s2
def f77.l0 {R : Type} (L N : Nat) (k0_e0 : (List Int) → Option R) : Nat → (List Bool) → Int → (List Int) → Option R
  | 0, _, _, _ => none
  | n + 1, s0, s1, s2 => f77.s0 L N k0_e0 (f77.l0 L N k0_e0 n) s0 s1 s2
def f77.T0 (s0 : (List Bool)) (s1 : Int) (s2 : (List Int)) : T := mkT 21 [(0, (.tv (.sl .bool) s0)), (3, (.row 1005)), (4, (.tv i64 s1))]
def f77.H0 (s0 : (List Bool)) (s1 : Int) (s2 : (List Int)) : H := [(1005, (.row 3 i64 s2))]
def f77.T0_e0 (z3 : (List Int)) : T := mkT 21 [(3, (.row 1005))]
def f77.H0_e0 (z3 : (List Int)) : H := [(1005, (.row 3 i64 z3))]
def f77.p0_e0' {R : Type} (L N : Nat) (k : (List Int) → Option R) (z3 : (List Int)) : Option R :=
  k z3
def f77.p0_e0 {R : Type} (L N : Nat) (k : (List Int) → Option R) (z3 : (List Int)) : Option R :=
  f77.p0_e0' L N k z3
def f77.b' {R : Type} (L N : Nat) (k : (List Int) → Option R) (w0 : (List Bool) → Int → (List Int) → Option R) (x0 : (List Bool)) : Option R :=
  w0 x0 (0 : Int) ([] : (List Int))
def f77.b {R : Type} (L N : Nat) (k : (List Int) → Option R) (x0 : (List Bool)) : Option R :=
  f77.b' L N k (fun s0 s1 s2 => f77.l0 L N (fun z3 => f77.p0_e0 L N k z3) L s0 s1 s2) x0
def f77 (L N : Nat) (x0 : (List Bool)) : Option ((List Int)) := f77.b L N some x0
def f77.ent (L N : Nat) (args : List AV) (vw : View) (site : Nat) : Ans := match coeD [(.sl .bool)] vw args with
  | some (d, u) => ⟨(List Int), f77 L N d.1, fun y => ((.tv (.sl i64) y), u, [])⟩
  | none => Ans.no
noncomputable def E77 (L N : Nat) : Env := { P := Try.prog, ty := tyOf, Φ := (Φ76 L N), inl := inlT, live := lives, liveX := livesX, L := L, dp := none, prom := promT, heal := healT, ren := renT }
noncomputable def f77.c0 : Code := loopAt 0 (codeOf Try.f77)
theorem f77.s0_pre {R : Type} (L N : Nat) (κ : Ex → T → H → Option R) (rec : T → H → Option R) (s0 : (List Bool)) (s1 : Int) (s2 : (List Int)) :
    evRd (E77 L N) (evCallI (E77 L N) 1 2000) 1000 77 21 0 f77.c0 κ rec (f77.T0 s0 s1 s2) (f77.H0 s0 s1 s2)
    = f77.s0' L N (fun z3 => κ (.exit 0) (f77.T0_e0 z3) (f77.H0_e0 z3)) (fun s0 s1 s2 => rec (f77.T0 s0 s1 s2) (f77.H0 s0 s1 s2)) s0 s1 s2 := by kernel_rfl
theorem f77.s0_eq {R : Type} (L N : Nat) (κ : Ex → T → H → Option R) (rec : T → H → Option R) (s0 : (List Bool)) (s1 : Int) (s2 : (List Int)) :
    evRd (E77 L N) (evCallI (E77 L N) 1 2000) 1000 77 21 0 f77.c0 κ rec (f77.T0 s0 s1 s2) (f77.H0 s0 s1 s2)
    = f77.s0 L N (fun z3 => κ (.exit 0) (f77.T0_e0 z3) (f77.H0_e0 z3)) (fun s0 s1 s2 => rec (f77.T0 s0 s1 s2) (f77.H0 s0 s1 s2)) s0 s1 s2 := by
  rw [f77.s0_pre]
  unfold f77.s0
  rfl
theorem f77.l0_eq {R : Type} (L N : Nat) (κ : Ex → T → H → Option R) : ∀ (n : Nat) (s0 : (List Bool)) (s1 : Int) (s2 : (List Int)),
    evLp (E77 L N) (evCallI (E77 L N) 1 2000) 1000 77 21 0 f77.c0 κ n (f77.T0 s0 s1 s2) (f77.H0 s0 s1 s2)
    = f77.l0 L N (fun z3 => κ (.exit 0) (f77.T0_e0 z3) (f77.H0_e0 z3)) n s0 s1 s2 := by
  intro n
  induction n with
  | zero => intros; rfl
  | succ n ih =>
    intro s0 s1 s2
    rw [evLp_succ, f77.s0_eq]
    simp only [ih]
    rfl
theorem f77.p0_e0_pre {R : Type} (L N : Nat) (κ : AV → Option R) (z3 : (List Int)) :
    (contAt (E77 L N) (evCallI (E77 L N) 1 2000) 1000 77 21 0 (codeOf Try.f77) (finK (E77 L N) 1000 Try.f77 (finC (.one (.sl i64)) κ))) (.exit 0) (f77.T0_e0 z3) (f77.H0_e0 z3)
    = f77.p0_e0' L N (fun a0 => κ (.tv (.sl i64) a0)) z3 := by kernel_rfl
theorem f77.p0_e0_eq {R : Type} (L N : Nat) (κ : AV → Option R) (z3 : (List Int)) :
    (contAt (E77 L N) (evCallI (E77 L N) 1 2000) 1000 77 21 0 (codeOf Try.f77) (finK (E77 L N) 1000 Try.f77 (finC (.one (.sl i64)) κ))) (.exit 0) (f77.T0_e0 z3) (f77.H0_e0 z3)
    = f77.p0_e0 L N (fun a0 => κ (.tv (.sl i64) a0)) z3 := by
  rw [f77.p0_e0_pre]
  unfold f77.p0_e0
  rfl
theorem f77.b_pre {R : Type} (L N : Nat) (κ : AV → Option R) (x0 : (List Bool)) :
    evBody (E77 L N) (evCallI (E77 L N) 1 2000) 1000 77 Try.f77 [(.tv (.sl .bool) x0)] [] [] (finC (.one (.sl i64)) κ)
    = f77.b' L N (fun a0 => κ (.tv (.sl i64) a0)) (fun s0 s1 s2 => evLp (E77 L N) (evCallI (E77 L N) 1 2000) 1000 77 21 0 f77.c0 (contAt (E77 L N) (evCallI (E77 L N) 1 2000) 1000 77 21 0 (codeOf Try.f77) (finK (E77 L N) 1000 Try.f77 (finC (.one (.sl i64)) κ))) L (f77.T0 s0 s1 s2) (f77.H0 s0 s1 s2)) x0 := by kernel_rfl
theorem f77.b_eq {R : Type} (L N : Nat) (κ : AV → Option R) (x0 : (List Bool)) :
    evBody (E77 L N) (evCallI (E77 L N) 1 2000) 1000 77 Try.f77 [(.tv (.sl .bool) x0)] [] [] (finC (.one (.sl i64)) κ)
    = f77.b L N (fun a0 => κ (.tv (.sl i64) a0)) x0 := by
  rw [f77.b_pre]
  unfold f77.b
  simp only [f77.l0_eq, f77.p0_e0_eq]
theorem f77.s0'_nat {R R' : Type} (j : R → Option R') (L N : Nat) (k0_e0 : (List Int) → Option R) (rec0 : (List Bool) → Int → (List Int) → Option R) (s0 : (List Bool)) (s1 : Int) (s2 : (List Int)) :
    f77.s0' L N (fun a0 => (k0_e0 a0).bind j) (fun a0 a1 a2 => (rec0 a0 a1 a2).bind j) s0 s1 s2 = (f77.s0' L N k0_e0 rec0 s0 s1 s2).bind j := by
  unfold f77.s0'
  repeat' (first | (with_reducible refine cond_nat ?_ ?_) | (with_reducible refine bind_nat fun _ => ?_) | rfl)
theorem f77.s0_nat {R R' : Type} (j : R → Option R') (L N : Nat) (k0_e0 : (List Int) → Option R) (rec0 : (List Bool) → Int → (List Int) → Option R) (s0 : (List Bool)) (s1 : Int) (s2 : (List Int)) :
    f77.s0 L N (fun a0 => (k0_e0 a0).bind j) (fun a0 a1 a2 => (rec0 a0 a1 a2).bind j) s0 s1 s2 = (f77.s0 L N k0_e0 rec0 s0 s1 s2).bind j := by
  unfold f77.s0
  exact f77.s0'_nat ..
theorem f77.l0_nat {R R' : Type} (j : R → Option R') (L N : Nat) (k0_e0 : (List Int) → Option R) : ∀ (n : Nat) (s0 : (List Bool)) (s1 : Int) (s2 : (List Int)),
    f77.l0 L N (fun a0 => (k0_e0 a0).bind j) n s0 s1 s2 = (f77.l0 L N k0_e0 n s0 s1 s2).bind j := by
  intro n
  induction n with
  | zero => intros; rfl
  | succ n ih =>
    intro s0 s1 s2
    show f77.s0 L N (fun a0 => (k0_e0 a0).bind j) (f77.l0 L N (fun a0 => (k0_e0 a0).bind j) n) s0 s1 s2 = _
    rw [show f77.l0 L N (fun a0 => (k0_e0 a0).bind j) n = (fun s0 s1 s2 => (f77.l0 L N k0_e0 n s0 s1 s2).bind j) from funext fun s0 => funext fun s1 => funext fun s2 => ih s0 s1 s2]
    exact f77.s0_nat ..
theorem f77.p0_e0'_nat {R R' : Type} (j : R → Option R') (L N : Nat) (k : (List Int) → Option R) (z3 : (List Int)) :
    f77.p0_e0' L N (fun a0 => (k a0).bind j) z3 = (f77.p0_e0' L N k z3).bind j := by
  unfold f77.p0_e0'
  repeat' (first | (with_reducible refine cond_nat ?_ ?_) | (with_reducible refine bind_nat fun _ => ?_) | rfl)
theorem f77.p0_e0_nat {R R' : Type} (j : R → Option R') (L N : Nat) (k : (List Int) → Option R) (z3 : (List Int)) :
    f77.p0_e0 L N (fun a0 => (k a0).bind j) z3 = (f77.p0_e0 L N k z3).bind j := by
  unfold f77.p0_e0
  exact f77.p0_e0'_nat ..
theorem f77.b'_nat {R R' : Type} (j : R → Option R') (L N : Nat) (k : (List Int) → Option R) (w0 : (List Bool) → Int → (List Int) → Option R) (x0 : (List Bool)) :
    f77.b' L N (fun a0 => (k a0).bind j) (fun a0 a1 a2 => (w0 a0 a1 a2).bind j) x0 = (f77.b' L N k w0 x0).bind j := by
  unfold f77.b'
  repeat' (first | (with_reducible refine cond_nat ?_ ?_) | (with_reducible refine bind_nat fun _ => ?_) | rfl)
theorem f77.b_nat {R R' : Type} (j : R → Option R') (L N : Nat) (k : (List Int) → Option R) (x0 : (List Bool)) :
    f77.b L N (fun a0 => (k a0).bind j) x0 = (f77.b L N k x0).bind j := by
  unfold f77.b
  simp only [f77.l0_nat, f77.p0_e0_nat]
  exact f77.b'_nat ..
theorem f77.ok (L N : Nat) (hΦ : TellsOk Try.prog ((Φ76 L N))) : EntOk Try.prog 77 (f77.ent L N) := by
  intro args vw site h
  unfold f77.ent
  split
  · rename_i d u ha
    intro y hy hs
    refine call_data (dep := 1000) (E := (E77 L N)) (rs := (.one (.sl i64))) (v' := (.tv (.sl i64) y)) (sound_of hΦ) okP (callI_sound (sound_of hΦ) okP 1 2000) (f := Try.f77) rfl hs ha ?_ site
    refine (f77.b_eq L N some d.1).trans ?_
    refine ((f77.b_nat (fun y => (some (.tv (.sl i64) y) : Option AV)) L N some d.1)).trans ?_
    rw [show f77.b L N some d.1 = some y from hy]
    rfl
  · intro y hy
    cases hy
def Φ77 (L N : Nat) : Tells := (addT (Φ76 L N) 77 (f77.ent L N))
theorem Φ77_ok (L N : Nat) : TellsOk Try.prog (Φ77 L N) := addT_ok (Φ76_ok L N) (f77.ok L N (Φ76_ok L N))
def f38.b' {R : Type} (L N : Nat) (k : (List Int) → Option R) (x0 : Graph) (x1 : (List Int)) : Option R :=
  (f58 L N (Graph.mk x0.moves)).bind fun y0 =>
  bif (!y0) then
    k ([] : (List Int))
  else (f74 L N x1).bind fun y1 =>
  bif (!y1) then
    k ([] : (List Int))
  else (f76 L N (Graph.mk x0.moves) x1).bind fun y11 =>
  (f77 L N y11).bind fun y12 =>
  k y12
def f38.b {R : Type} (L N : Nat) (k : (List Int) → Option R) (x0 : Graph) (x1 : (List Int)) : Option R :=
  f38.b' L N k x0 x1
def f38 (L N : Nat) (x0 : Graph) (x1 : (List Int)) : Option ((List Int)) := f38.b L N some x0 x1
def f38.ent (L N : Nat) (args : List AV) (vw : View) (site : Nat) : Ans := match coeD [(.st 2), (.sl i64)] vw args with
  | some (d, u) => ⟨(List Int), f38 L N d.1 d.2.1, fun y => ((.tv (.sl i64) y), u, [])⟩
  | none => Ans.no
noncomputable def E38 (L N : Nat) : Env := { P := Try.prog, ty := tyOf, Φ := (Φ77 L N), inl := inlT, live := lives, liveX := livesX, L := L, dp := none, prom := promT, heal := healT, ren := renT }
theorem f38.b_pre {R : Type} (L N : Nat) (κ : AV → Option R) (x0 : Graph) (x1 : (List Int)) :
    evBody (E38 L N) (evCallI (E38 L N) 1 2000) 1000 38 Try.f38 [(.tv (.st 2) x0), (.tv (.sl i64) x1)] [] [] (finC (.one (.sl i64)) κ)
    = f38.b' L N (fun a0 => κ (.tv (.sl i64) a0)) x0 x1 := by kernel_rfl
theorem f38.b_eq {R : Type} (L N : Nat) (κ : AV → Option R) (x0 : Graph) (x1 : (List Int)) :
    evBody (E38 L N) (evCallI (E38 L N) 1 2000) 1000 38 Try.f38 [(.tv (.st 2) x0), (.tv (.sl i64) x1)] [] [] (finC (.one (.sl i64)) κ)
    = f38.b L N (fun a0 => κ (.tv (.sl i64) a0)) x0 x1 := by
  rw [f38.b_pre]
  unfold f38.b
  rfl
theorem f38.b'_nat {R R' : Type} (j : R → Option R') (L N : Nat) (k : (List Int) → Option R) (x0 : Graph) (x1 : (List Int)) :
    f38.b' L N (fun a0 => (k a0).bind j) x0 x1 = (f38.b' L N k x0 x1).bind j := by
  unfold f38.b'
  repeat' (first | (with_reducible refine cond_nat ?_ ?_) | (with_reducible refine bind_nat fun _ => ?_) | rfl)
theorem f38.b_nat {R R' : Type} (j : R → Option R') (L N : Nat) (k : (List Int) → Option R) (x0 : Graph) (x1 : (List Int)) :
    f38.b L N (fun a0 => (k a0).bind j) x0 x1 = (f38.b L N k x0 x1).bind j := by
  unfold f38.b
  exact f38.b'_nat ..
theorem f38.ok (L N : Nat) (hΦ : TellsOk Try.prog ((Φ77 L N))) : EntOk Try.prog 38 (f38.ent L N) := by
  intro args vw site h
  unfold f38.ent
  split
  · rename_i d u ha
    intro y hy hs
    refine call_data (dep := 1000) (E := (E38 L N)) (rs := (.one (.sl i64))) (v' := (.tv (.sl i64) y)) (sound_of hΦ) okP (callI_sound (sound_of hΦ) okP 1 2000) (f := Try.f38) rfl hs ha ?_ site
    refine (f38.b_eq L N some d.1 d.2.1).trans ?_
    refine ((f38.b_nat (fun y => (some (.tv (.sl i64) y) : Option AV)) L N some d.1 d.2.1)).trans ?_
    rw [show f38.b L N some d.1 d.2.1 = some y from hy]
    rfl
  · intro y hy
    cases hy
def Φ38 (L N : Nat) : Tells := (addT (Φ77 L N) 38 (f38.ent L N))
theorem Φ38_ok (L N : Nat) : TellsOk Try.prog (Φ38 L N) := addT_ok (Φ77_ok L N) (f38.ok L N (Φ77_ok L N))
def f72.b' {R : Type} (L N : Nat) (k : Bool → Option R) (x0 : Int) : Option R :=
  bif (decide (x0 ≥ (-4 : Int))) then
    k (decide (x0 ≤ (4 : Int)))
  else k false
def f72.b {R : Type} (L N : Nat) (k : Bool → Option R) (x0 : Int) : Option R :=
  f72.b' L N k x0
def f72 (L N : Nat) (x0 : Int) : Option (Bool) := f72.b L N some x0
def f72.ent (L N : Nat) (args : List AV) (vw : View) (site : Nat) : Ans := match roD [i64] vw args with
  | some d => ⟨Bool, f72 L N d.1, fun y => ((.tv .bool y), [], [])⟩
  | none => Ans.no
noncomputable def E72 (L N : Nat) : Env := { P := Try.prog, ty := tyOf, Φ := (Φ38 L N), inl := inlT, live := lives, liveX := livesX, L := L, dp := none, prom := promT, heal := healT, ren := renT }
theorem f72.b_pre {R : Type} (L N : Nat) (κ : AV → Option R) (x0 : Int) :
    evBody (E72 L N) (evCallI (E72 L N) 1 2000) 1000 72 Try.f72 [(.tv i64 x0)] [] [] (finC (.one .bool) κ)
    = f72.b' L N (fun a0 => κ (.tv .bool a0)) x0 := by kernel_rfl
theorem f72.b_eq {R : Type} (L N : Nat) (κ : AV → Option R) (x0 : Int) :
    evBody (E72 L N) (evCallI (E72 L N) 1 2000) 1000 72 Try.f72 [(.tv i64 x0)] [] [] (finC (.one .bool) κ)
    = f72.b L N (fun a0 => κ (.tv .bool a0)) x0 := by
  rw [f72.b_pre]
  unfold f72.b
  rfl
theorem f72.b'_nat {R R' : Type} (j : R → Option R') (L N : Nat) (k : Bool → Option R) (x0 : Int) :
    f72.b' L N (fun a0 => (k a0).bind j) x0 = (f72.b' L N k x0).bind j := by
  unfold f72.b'
  repeat' (first | (with_reducible refine cond_nat ?_ ?_) | (with_reducible refine bind_nat fun _ => ?_) | rfl)
theorem f72.b_nat {R R' : Type} (j : R → Option R') (L N : Nat) (k : Bool → Option R) (x0 : Int) :
    f72.b L N (fun a0 => (k a0).bind j) x0 = (f72.b L N k x0).bind j := by
  unfold f72.b
  exact f72.b'_nat ..
theorem f72.ok (L N : Nat) (hΦ : TellsOk Try.prog ((Φ38 L N))) : EntOk Try.prog 72 (f72.ent L N) := by
  intro args vw site h
  unfold f72.ent
  split
  · rename_i d ha
    intro y hy hs
    refine call_ro (dep := 1000) (E := (E72 L N)) (rs := (.one .bool)) (v := (.tv .bool y)) (sound_of hΦ) okP (callI_sound (sound_of hΦ) okP 1 2000) (f := Try.f72) rfl hs ha ?_ rfl site
    refine (f72.b_eq L N some d.1).trans ?_
    refine ((f72.b_nat (fun y => (some (.tv .bool y) : Option AV)) L N some d.1)).trans ?_
    rw [show f72.b L N some d.1 = some y from hy]
    rfl
  · intro y hy
    cases hy
def Φ72 (L N : Nat) : Tells := (addT (Φ38 L N) 72 (f72.ent L N))
theorem Φ72_ok (L N : Nat) : TellsOk Try.prog (Φ72 L N) := addT_ok (Φ38_ok L N) (f72.ok L N (Φ38_ok L N))
def f136.b' {R : Type} (L N : Nat) (k : Bool → Option R) (x0 : Int) : Option R :=
  k (x0 != x0)
def f136.b {R : Type} (L N : Nat) (k : Bool → Option R) (x0 : Int) : Option R :=
  f136.b' L N k x0
def f136 (L N : Nat) (x0 : Int) : Option (Bool) := f136.b L N some x0
def f136.ent (L N : Nat) (args : List AV) (vw : View) (site : Nat) : Ans := match roD [i64] vw args with
  | some d => ⟨Bool, f136 L N d.1, fun y => ((.tv .bool y), [], [])⟩
  | none => Ans.no
noncomputable def E136 (L N : Nat) : Env := { P := Try.prog, ty := tyOf, Φ := (Φ72 L N), inl := inlT, live := lives, liveX := livesX, L := L, dp := none, prom := promT, heal := healT, ren := renT }
theorem f136.b_pre {R : Type} (L N : Nat) (κ : AV → Option R) (x0 : Int) :
    evBody (E136 L N) (evCallI (E136 L N) 1 2000) 1000 136 Try.f136 [(.tv i64 x0)] [] [] (finC (.one .bool) κ)
    = f136.b' L N (fun a0 => κ (.tv .bool a0)) x0 := by kernel_rfl
theorem f136.b_eq {R : Type} (L N : Nat) (κ : AV → Option R) (x0 : Int) :
    evBody (E136 L N) (evCallI (E136 L N) 1 2000) 1000 136 Try.f136 [(.tv i64 x0)] [] [] (finC (.one .bool) κ)
    = f136.b L N (fun a0 => κ (.tv .bool a0)) x0 := by
  rw [f136.b_pre]
  unfold f136.b
  rfl
theorem f136.b'_nat {R R' : Type} (j : R → Option R') (L N : Nat) (k : Bool → Option R) (x0 : Int) :
    f136.b' L N (fun a0 => (k a0).bind j) x0 = (f136.b' L N k x0).bind j := by
  unfold f136.b'
  repeat' (first | (with_reducible refine cond_nat ?_ ?_) | (with_reducible refine bind_nat fun _ => ?_) | rfl)
theorem f136.b_nat {R R' : Type} (j : R → Option R') (L N : Nat) (k : Bool → Option R) (x0 : Int) :
    f136.b L N (fun a0 => (k a0).bind j) x0 = (f136.b L N k x0).bind j := by
  unfold f136.b
  exact f136.b'_nat ..
theorem f136.ok (L N : Nat) (hΦ : TellsOk Try.prog ((Φ72 L N))) : EntOk Try.prog 136 (f136.ent L N) := by
  intro args vw site h
  unfold f136.ent
  split
  · rename_i d ha
    intro y hy hs
    refine call_ro (dep := 1000) (E := (E136 L N)) (rs := (.one .bool)) (v := (.tv .bool y)) (sound_of hΦ) okP (callI_sound (sound_of hΦ) okP 1 2000) (f := Try.f136) rfl hs ha ?_ rfl site
    refine (f136.b_eq L N some d.1).trans ?_
    refine ((f136.b_nat (fun y => (some (.tv .bool y) : Option AV)) L N some d.1)).trans ?_
    rw [show f136.b L N some d.1 = some y from hy]
    rfl
  · intro y hy
    cases hy
def Φ136 (L N : Nat) : Tells := (addT (Φ72 L N) 136 (f136.ent L N))
theorem Φ136_ok (L N : Nat) : TellsOk Try.prog (Φ136 L N) := addT_ok (Φ72_ok L N) (f136.ok L N (Φ72_ok L N))
def f108.b' {R : Type} (L N : Nat) (k : Int → Option R) (x0 : Int) (x1 : Int) : Option R :=
  (f136 L N x0).bind fun y0 =>
  (f136 L N x1).bind fun y1 =>
  bif y0 then
    bif y1 then
      k (0 : Int)
    else k (-1 : Int)
  else bif y1 then
    k (1 : Int)
  else bif (decide (x0 < x1)) then
    k (-1 : Int)
  else bif (decide (x0 > x1)) then
    k (1 : Int)
  else k (0 : Int)
def f108.b {R : Type} (L N : Nat) (k : Int → Option R) (x0 : Int) (x1 : Int) : Option R :=
  f108.b' L N k x0 x1
def f108 (L N : Nat) (x0 : Int) (x1 : Int) : Option (Int) := f108.b L N some x0 x1
def f108.ent (L N : Nat) (args : List AV) (vw : View) (site : Nat) : Ans := match roD [i64, i64] vw args with
  | some d => ⟨Int, f108 L N d.1 d.2.1, fun y => ((.tv i64 y), [], [])⟩
  | none => Ans.no
noncomputable def E108 (L N : Nat) : Env := { P := Try.prog, ty := tyOf, Φ := (Φ136 L N), inl := inlT, live := lives, liveX := livesX, L := L, dp := none, prom := promT, heal := healT, ren := renT }
theorem f108.b_pre {R : Type} (L N : Nat) (κ : AV → Option R) (x0 : Int) (x1 : Int) :
    evBody (E108 L N) (evCallI (E108 L N) 1 2000) 1000 108 Try.f108 [(.tv i64 x0), (.tv i64 x1)] [] [] (finC (.one i64) κ)
    = f108.b' L N (fun a0 => κ (.tv i64 a0)) x0 x1 := by kernel_rfl
theorem f108.b_eq {R : Type} (L N : Nat) (κ : AV → Option R) (x0 : Int) (x1 : Int) :
    evBody (E108 L N) (evCallI (E108 L N) 1 2000) 1000 108 Try.f108 [(.tv i64 x0), (.tv i64 x1)] [] [] (finC (.one i64) κ)
    = f108.b L N (fun a0 => κ (.tv i64 a0)) x0 x1 := by
  rw [f108.b_pre]
  unfold f108.b
  rfl
theorem f108.b'_nat {R R' : Type} (j : R → Option R') (L N : Nat) (k : Int → Option R) (x0 : Int) (x1 : Int) :
    f108.b' L N (fun a0 => (k a0).bind j) x0 x1 = (f108.b' L N k x0 x1).bind j := by
  unfold f108.b'
  repeat' (first | (with_reducible refine cond_nat ?_ ?_) | (with_reducible refine bind_nat fun _ => ?_) | rfl)
theorem f108.b_nat {R R' : Type} (j : R → Option R') (L N : Nat) (k : Int → Option R) (x0 : Int) (x1 : Int) :
    f108.b L N (fun a0 => (k a0).bind j) x0 x1 = (f108.b L N k x0 x1).bind j := by
  unfold f108.b
  exact f108.b'_nat ..
theorem f108.ok (L N : Nat) (hΦ : TellsOk Try.prog ((Φ136 L N))) : EntOk Try.prog 108 (f108.ent L N) := by
  intro args vw site h
  unfold f108.ent
  split
  · rename_i d ha
    intro y hy hs
    refine call_ro (dep := 1000) (E := (E108 L N)) (rs := (.one i64)) (v := (.tv i64 y)) (sound_of hΦ) okP (callI_sound (sound_of hΦ) okP 1 2000) (f := Try.f108) rfl hs ha ?_ rfl site
    refine (f108.b_eq L N some d.1 d.2.1).trans ?_
    refine ((f108.b_nat (fun y => (some (.tv i64 y) : Option AV)) L N some d.1 d.2.1)).trans ?_
    rw [show f108.b L N some d.1 d.2.1 = some y from hy]
    rfl
  · intro y hy
    cases hy
def Φ108 (L N : Nat) : Tells := (addT (Φ136 L N) 108 (f108.ent L N))
theorem Φ108_ok (L N : Nat) : TellsOk Try.prog (Φ108 L N) := addT_ok (Φ136_ok L N) (f108.ok L N (Φ136_ok L N))
def f73.b' {R : Type} (L N : Nat) (k : Int → Option R) (x0 : Move) (x1 : Move) : Option R :=
  (f108 L N x0.act x1.act).bind fun y0 =>
  bif (y0 != (0 : Int)) then
    k y0
  else (f108 L N x0.to x1.to).bind fun y1 =>
  k y1
def f73.b {R : Type} (L N : Nat) (k : Int → Option R) (x0 : Move) (x1 : Move) : Option R :=
  f73.b' L N k x0 x1
def f73 (L N : Nat) (x0 : Move) (x1 : Move) : Option (Int) := f73.b L N some x0 x1
def f73.ent (L N : Nat) (args : List AV) (vw : View) (site : Nat) : Ans := match roD [(.st 0), (.st 0)] vw args with
  | some d => ⟨Int, f73 L N d.1 d.2.1, fun y => ((.tv i64 y), [], [])⟩
  | none => Ans.no
noncomputable def E73 (L N : Nat) : Env := { P := Try.prog, ty := tyOf, Φ := (Φ108 L N), inl := inlT, live := lives, liveX := livesX, L := L, dp := none, prom := promT, heal := healT, ren := renT }
theorem f73.b_pre {R : Type} (L N : Nat) (κ : AV → Option R) (x0 : Move) (x1 : Move) :
    evBody (E73 L N) (evCallI (E73 L N) 1 2000) 1000 73 Try.f73 [(.tv (.st 0) x0), (.tv (.st 0) x1)] [] [] (finC (.one i64) κ)
    = f73.b' L N (fun a0 => κ (.tv i64 a0)) x0 x1 := by kernel_rfl
theorem f73.b_eq {R : Type} (L N : Nat) (κ : AV → Option R) (x0 : Move) (x1 : Move) :
    evBody (E73 L N) (evCallI (E73 L N) 1 2000) 1000 73 Try.f73 [(.tv (.st 0) x0), (.tv (.st 0) x1)] [] [] (finC (.one i64) κ)
    = f73.b L N (fun a0 => κ (.tv i64 a0)) x0 x1 := by
  rw [f73.b_pre]
  unfold f73.b
  rfl
theorem f73.b'_nat {R R' : Type} (j : R → Option R') (L N : Nat) (k : Int → Option R) (x0 : Move) (x1 : Move) :
    f73.b' L N (fun a0 => (k a0).bind j) x0 x1 = (f73.b' L N k x0 x1).bind j := by
  unfold f73.b'
  repeat' (first | (with_reducible refine cond_nat ?_ ?_) | (with_reducible refine bind_nat fun _ => ?_) | rfl)
theorem f73.b_nat {R R' : Type} (j : R → Option R') (L N : Nat) (k : Int → Option R) (x0 : Move) (x1 : Move) :
    f73.b L N (fun a0 => (k a0).bind j) x0 x1 = (f73.b L N k x0 x1).bind j := by
  unfold f73.b
  exact f73.b'_nat ..
theorem f73.ok (L N : Nat) (hΦ : TellsOk Try.prog ((Φ108 L N))) : EntOk Try.prog 73 (f73.ent L N) := by
  intro args vw site h
  unfold f73.ent
  split
  · rename_i d ha
    intro y hy hs
    refine call_ro (dep := 1000) (E := (E73 L N)) (rs := (.one i64)) (v := (.tv i64 y)) (sound_of hΦ) okP (callI_sound (sound_of hΦ) okP 1 2000) (f := Try.f73) rfl hs ha ?_ rfl site
    refine (f73.b_eq L N some d.1 d.2.1).trans ?_
    refine ((f73.b_nat (fun y => (some (.tv i64 y) : Option AV)) L N some d.1 d.2.1)).trans ?_
    rw [show f73.b L N some d.1 d.2.1 = some y from hy]
    rfl
  · intro y hy
    cases hy
def Φ73 (L N : Nat) : Tells := (addT (Φ108 L N) 73 (f73.ent L N))
theorem Φ73_ok (L N : Nat) : TellsOk Try.prog (Φ73 L N) := addT_ok (Φ108_ok L N) (f73.ok L N (Φ108_ok L N))
def f32.s1' {R : Type} (L N : Nat) (k1_e2 : (List (List Move)) → Int → Int → (List (List Move)) → Option R) (k1_r : Bool → (List (List Move)) → Int → Int → (List (List Move)) → Option R) (rec1 : (List Move) → (List (List Move)) → Int → Int → (List Move) → Int → Int → (List (List Move)) → Option R) (s7 : (List Move)) (s8 : (List (List Move))) (s9 : Int) (s10 : Int) (s11 : (List Move)) (s12 : Int) (s13 : Int) (s14 : (List (List Move))) : Option R :=
  bif (decide (s13 < s12)) then
    bif (decide (0 ≤ s13) && decide (s13 < (s11.length : Int))) then
      (f72 L N ((listAt s11 (Ty.dflt (.st 0)) s13.toNat).act)).bind fun y19 =>
      bif (!y19) then
        k1_r false s8 s9 s10 s14
      else bif (decide ((listAt s11 (Ty.dflt (.st 0)) s13.toNat).to < (0 : Int))) then
        k1_r false s8 s9 s10 s14
      else bif (decide ((listAt s11 (Ty.dflt (.st 0)) s13.toNat).to ≥ (s14.length : Int))) then
        k1_r false s8 s9 s10 s14
      else bif (decide (s13 > (0 : Int))) then
        bif (decide (0 ≤ (wi (s13 - (1 : Int)))) && decide ((wi (s13 - (1 : Int))) < (s7.length : Int))) then
          (f73 L N (listAt s7 (Ty.dflt (.st 0)) (wi (s13 - (1 : Int))).toNat) (Move.mk ((listAt s11 (Ty.dflt (.st 0)) s13.toNat).act) ((listAt s11 (Ty.dflt (.st 0)) s13.toNat).to))).bind fun y20 =>
          bif (decide (y20 ≥ (0 : Int))) then
            k1_r false s8 s9 s10 s14
          else rec1 s7 s8 s9 s10 s11 s12 (wi (s13 + (1 : Int))) s14
        else none
      else rec1 s7 s8 s9 s10 s11 s12 (wi (s13 + (1 : Int))) s14
    else none
  else k1_e2 s8 s9 s10 s14
def f32.s1 {R : Type} (L N : Nat) (k1_e2 : (List (List Move)) → Int → Int → (List (List Move)) → Option R) (k1_r : Bool → (List (List Move)) → Int → Int → (List (List Move)) → Option R) (rec1 : (List Move) → (List (List Move)) → Int → Int → (List Move) → Int → Int → (List (List Move)) → Option R) (s7 : (List Move)) (s8 : (List (List Move))) (s9 : Int) (s10 : Int) (s11 : (List Move)) (s12 : Int) (s13 : Int) (s14 : (List (List Move))) : Option R :=
  f32.s1' L N k1_e2 k1_r rec1 s7 s8 s9 s10 s11 s12 s13 s14
def f32.l1 {R : Type} (L N : Nat) (k1_e2 : (List (List Move)) → Int → Int → (List (List Move)) → Option R) (k1_r : Bool → (List (List Move)) → Int → Int → (List (List Move)) → Option R) : Nat → (List Move) → (List (List Move)) → Int → Int → (List Move) → Int → Int → (List (List Move)) → Option R
  | 0, _, _, _, _, _, _, _, _ => none
  | n + 1, s7, s8, s9, s10, s11, s12, s13, s14 => f32.s1 L N k1_e2 k1_r (f32.l1 L N k1_e2 k1_r n) s7 s8 s9 s10 s11 s12 s13 s14
def f32.T1 (s7 : (List Move)) (s8 : (List (List Move))) (s9 : Int) (s10 : Int) (s11 : (List Move)) (s12 : Int) (s13 : Int) (s14 : (List (List Move))) : T := mkT 64 [(1, (.ptr 1001 0)), (4, (.tv (.sl (.st 0)) s7)), (18, (.tv (.sl (.sl (.st 0))) s8)), (19, (.tv i64 s9)), (20, (.tv i64 s10)), (24, (.tv (.sl (.st 0)) s11)), (25, (.tv i64 s12)), (26, (.tv i64 s13))]
def f32.H1 (s7 : (List Move)) (s8 : (List (List Move))) (s9 : Int) (s10 : Int) (s11 : (List Move)) (s12 : Int) (s13 : Int) (s14 : (List (List Move))) : H := [(1001, (.box [(.tv (.sl (.sl (.st 0))) s14)]))]
def f32.T1_e2 (z15 : (List (List Move))) (z16 : Int) (z17 : Int) (z18 : (List (List Move))) : T := mkT 64 [(1, (.ptr 1001 0)), (18, (.tv (.sl (.sl (.st 0))) z15)), (19, (.tv i64 z16)), (20, (.tv i64 z17))]
def f32.H1_e2 (z15 : (List (List Move))) (z16 : Int) (z17 : Int) (z18 : (List (List Move))) : H := [(1001, (.box [(.tv (.sl (.sl (.st 0))) z18)]))]
def f32.T1_r (z30 : Bool) (z31 : (List (List Move))) (z32 : Int) (z33 : Int) (z34 : (List (List Move))) : T := mkT 64 [(1, (.ptr 1001 0)), (2, (.tv .bool z30)), (18, (.tv (.sl (.sl (.st 0))) z31)), (19, (.tv i64 z32)), (20, (.tv i64 z33))]
def f32.H1_r (z30 : Bool) (z31 : (List (List Move))) (z32 : Int) (z33 : Int) (z34 : (List (List Move))) : H := [(1001, (.box [(.tv (.sl (.sl (.st 0))) z34)]))]
def f32.p1_e2' {R : Type} (L N : Nat) (k0_e0 : Option R) (k0_r : Bool → Option R) (rec0 : (List (List Move)) → Int → Int → (List (List Move)) → Option R) (z15 : (List (List Move))) (z16 : Int) (z17 : Int) (z18 : (List (List Move))) : Option R :=
  rec0 z15 z16 (wi (z17 + (1 : Int))) z18
def f32.p1_e2 {R : Type} (L N : Nat) (k0_e0 : Option R) (k0_r : Bool → Option R) (rec0 : (List (List Move)) → Int → Int → (List (List Move)) → Option R) (z15 : (List (List Move))) (z16 : Int) (z17 : Int) (z18 : (List (List Move))) : Option R :=
  f32.p1_e2' L N k0_e0 k0_r rec0 z15 z16 z17 z18
def f32.p1_r' {R : Type} (L N : Nat) (k0_e0 : Option R) (k0_r : Bool → Option R) (rec0 : (List (List Move)) → Int → Int → (List (List Move)) → Option R) (z30 : Bool) (z31 : (List (List Move))) (z32 : Int) (z33 : Int) (z34 : (List (List Move))) : Option R :=
  k0_r z30
def f32.p1_r {R : Type} (L N : Nat) (k0_e0 : Option R) (k0_r : Bool → Option R) (rec0 : (List (List Move)) → Int → Int → (List (List Move)) → Option R) (z30 : Bool) (z31 : (List (List Move))) (z32 : Int) (z33 : Int) (z34 : (List (List Move))) : Option R :=
  f32.p1_r' L N k0_e0 k0_r rec0 z30 z31 z32 z33 z34
def f32.s0' {R : Type} (L N : Nat) (k0_e0 : Option R) (k0_r : Bool → Option R) (rec0 : (List (List Move)) → Int → Int → (List (List Move)) → Option R) (w1 : (List Move) → (List (List Move)) → Int → Int → (List Move) → Int → Int → (List (List Move)) → Option R) (s3 : (List (List Move))) (s4 : Int) (s5 : Int) (s6 : (List (List Move))) : Option R :=
  bif (decide (s5 < s4)) then
    bif (decide (0 ≤ s5) && decide (s5 < (s3.length : Int))) then
      w1 (listAt s3 [] s5.toNat) s3 s4 s5 (listAt s3 [] s5.toNat) ((listAt s3 [] s5.toNat).length : Int) (0 : Int) s6
    else none
  else k0_e0
def f32.s0 {R : Type} (L N : Nat) (k0_e0 : Option R) (k0_r : Bool → Option R) (rec0 : (List (List Move)) → Int → Int → (List (List Move)) → Option R) (s3 : (List (List Move))) (s4 : Int) (s5 : Int) (s6 : (List (List Move))) : Option R :=
  f32.s0' L N k0_e0 k0_r rec0 (fun s7 s8 s9 s10 s11 s12 s13 s14 => f32.l1 L N (fun z15 z16 z17 z18 => f32.p1_e2 L N k0_e0 k0_r rec0 z15 z16 z17 z18) (fun z30 z31 z32 z33 z34 => f32.p1_r L N k0_e0 k0_r rec0 z30 z31 z32 z33 z34) L s7 s8 s9 s10 s11 s12 s13 s14) s3 s4 s5 s6
def f32.l0 {R : Type} (L N : Nat) (k0_e0 : Option R) (k0_r : Bool → Option R) : Nat → (List (List Move)) → Int → Int → (List (List Move)) → Option R
  | 0, _, _, _, _ => none
  | n + 1, s3, s4, s5, s6 => f32.s0 L N k0_e0 k0_r (f32.l0 L N k0_e0 k0_r n) s3 s4 s5 s6
def f32.T0 (s3 : (List (List Move))) (s4 : Int) (s5 : Int) (s6 : (List (List Move))) : T := mkT 64 [(1, (.ptr 1001 0)), (18, (.tv (.sl (.sl (.st 0))) s3)), (19, (.tv i64 s4)), (20, (.tv i64 s5))]
def f32.H0 (s3 : (List (List Move))) (s4 : Int) (s5 : Int) (s6 : (List (List Move))) : H := [(1001, (.box [(.tv (.sl (.sl (.st 0))) s6)]))]
def f32.T0_e0 : T := mkT 64 []
def f32.H0_e0 : H := []
def f32.T0_r (z43 : Bool) : T := mkT 64 [(2, (.tv .bool z43))]
def f32.H0_r (z43 : Bool) : H := []
def f32.p0_e0' {R : Type} (L N : Nat) (k : Bool → Option R) : Option R :=
  k true
def f32.p0_e0 {R : Type} (L N : Nat) (k : Bool → Option R) : Option R :=
  f32.p0_e0' L N k
def f32.p0_r' {R : Type} (L N : Nat) (k : Bool → Option R) (z43 : Bool) : Option R :=
  k z43
def f32.p0_r {R : Type} (L N : Nat) (k : Bool → Option R) (z43 : Bool) : Option R :=
  f32.p0_r' L N k z43
def f32.j0' {R : Type} (L N : Nat) (k : Bool → Option R) (w0 : (List (List Move)) → Int → Int → (List (List Move)) → Option R) (v2 : (List (List Move))) : Option R :=
  w0 v2 (v2.length : Int) (0 : Int) v2
def f32.b' {R : Type} (L N : Nat) (k : Bool → Option R) (w0 : (List (List Move)) → Int → Int → (List (List Move)) → Option R) (x0 : Graph) : Option R :=
  bif (decide ((x0.moves.length : Int) < (1 : Int))) then
    k false
  else bif (decide ((x0.moves.length : Int) > (60 : Int))) then
    k false
  else f32.j0' L N k w0 x0.moves
def f32.b {R : Type} (L N : Nat) (k : Bool → Option R) (x0 : Graph) : Option R :=
  f32.b' L N k (fun s3 s4 s5 s6 => f32.l0 L N (f32.p0_e0 L N k) (fun z43 => f32.p0_r L N k z43) L s3 s4 s5 s6) x0
def f32 (L N : Nat) (x0 : Graph) : Option (Bool) := f32.b L N some x0
def f32.ent (L N : Nat) (args : List AV) (vw : View) (site : Nat) : Ans := match roD [(.st 2)] vw args with
  | some d => ⟨Bool, f32 L N d.1, fun y => ((.tv .bool y), [], [])⟩
  | none => Ans.no
noncomputable def E32 (L N : Nat) : Env := { P := Try.prog, ty := tyOf, Φ := (Φ73 L N), inl := inlT, live := lives, liveX := livesX, L := L, dp := none, prom := promT, heal := healT, ren := renT }
noncomputable def f32.c0 : Code := loopAt 0 (codeOf Try.f32)
noncomputable def f32.c1 : Code := loopAt 2 f32.c0
theorem f32.s1_pre {R : Type} (L N : Nat) (κ : Ex → T → H → Option R) (rec : T → H → Option R) (s7 : (List Move)) (s8 : (List (List Move))) (s9 : Int) (s10 : Int) (s11 : (List Move)) (s12 : Int) (s13 : Int) (s14 : (List (List Move))) :
    evRd (E32 L N) (evCallI (E32 L N) 1 2000) 1000 32 64 2 f32.c1 κ rec (f32.T1 s7 s8 s9 s10 s11 s12 s13 s14) (f32.H1 s7 s8 s9 s10 s11 s12 s13 s14)
    = f32.s1' L N (fun z15 z16 z17 z18 => κ (.exit 2) (f32.T1_e2 z15 z16 z17 z18) (f32.H1_e2 z15 z16 z17 z18)) (fun z30 z31 z32 z33 z34 => κ .ret (f32.T1_r z30 z31 z32 z33 z34) (f32.H1_r z30 z31 z32 z33 z34)) (fun s7 s8 s9 s10 s11 s12 s13 s14 => rec (f32.T1 s7 s8 s9 s10 s11 s12 s13 s14) (f32.H1 s7 s8 s9 s10 s11 s12 s13 s14)) s7 s8 s9 s10 s11 s12 s13 s14 := by kernel_rfl
theorem f32.s1_eq {R : Type} (L N : Nat) (κ : Ex → T → H → Option R) (rec : T → H → Option R) (s7 : (List Move)) (s8 : (List (List Move))) (s9 : Int) (s10 : Int) (s11 : (List Move)) (s12 : Int) (s13 : Int) (s14 : (List (List Move))) :
    evRd (E32 L N) (evCallI (E32 L N) 1 2000) 1000 32 64 2 f32.c1 κ rec (f32.T1 s7 s8 s9 s10 s11 s12 s13 s14) (f32.H1 s7 s8 s9 s10 s11 s12 s13 s14)
    = f32.s1 L N (fun z15 z16 z17 z18 => κ (.exit 2) (f32.T1_e2 z15 z16 z17 z18) (f32.H1_e2 z15 z16 z17 z18)) (fun z30 z31 z32 z33 z34 => κ .ret (f32.T1_r z30 z31 z32 z33 z34) (f32.H1_r z30 z31 z32 z33 z34)) (fun s7 s8 s9 s10 s11 s12 s13 s14 => rec (f32.T1 s7 s8 s9 s10 s11 s12 s13 s14) (f32.H1 s7 s8 s9 s10 s11 s12 s13 s14)) s7 s8 s9 s10 s11 s12 s13 s14 := by
  rw [f32.s1_pre]
  unfold f32.s1
  rfl
theorem f32.l1_eq {R : Type} (L N : Nat) (κ : Ex → T → H → Option R) : ∀ (n : Nat) (s7 : (List Move)) (s8 : (List (List Move))) (s9 : Int) (s10 : Int) (s11 : (List Move)) (s12 : Int) (s13 : Int) (s14 : (List (List Move))),
    evLp (E32 L N) (evCallI (E32 L N) 1 2000) 1000 32 64 2 f32.c1 κ n (f32.T1 s7 s8 s9 s10 s11 s12 s13 s14) (f32.H1 s7 s8 s9 s10 s11 s12 s13 s14)
    = f32.l1 L N (fun z15 z16 z17 z18 => κ (.exit 2) (f32.T1_e2 z15 z16 z17 z18) (f32.H1_e2 z15 z16 z17 z18)) (fun z30 z31 z32 z33 z34 => κ .ret (f32.T1_r z30 z31 z32 z33 z34) (f32.H1_r z30 z31 z32 z33 z34)) n s7 s8 s9 s10 s11 s12 s13 s14 := by
  intro n
  induction n with
  | zero => intros; rfl
  | succ n ih =>
    intro s7 s8 s9 s10 s11 s12 s13 s14
    rw [evLp_succ, f32.s1_eq]
    simp only [ih]
    rfl
theorem f32.p1_e2_pre {R : Type} (L N : Nat) (κ : Ex → T → H → Option R) (rec : T → H → Option R) (z15 : (List (List Move))) (z16 : Int) (z17 : Int) (z18 : (List (List Move))) :
    (contAt (E32 L N) (evCallI (E32 L N) 1 2000) 1000 32 64 2 f32.c0 (stepK (outK (keepT 64 ((E32 L N).liveX 32 0).1) (keepH 1000 ((E32 L N).liveX 32 0).2) κ) fun t h => rec (backK 1000 64 ((E32 L N).live 32 0).1 ((E32 L N).live 32 0).2 ((E32 L N).heal 32 0) ((E32 L N).ren 32 0) t h).1 (backK 1000 64 ((E32 L N).live 32 0).1 ((E32 L N).live 32 0).2 ((E32 L N).heal 32 0) ((E32 L N).ren 32 0) t h).2)) (.exit 2) (f32.T1_e2 z15 z16 z17 z18) (f32.H1_e2 z15 z16 z17 z18)
    = f32.p1_e2' L N (κ (.exit 0) f32.T0_e0 f32.H0_e0) (fun z43 => κ .ret (f32.T0_r z43) (f32.H0_r z43)) (fun s3 s4 s5 s6 => rec (f32.T0 s3 s4 s5 s6) (f32.H0 s3 s4 s5 s6)) z15 z16 z17 z18 := by kernel_rfl
theorem f32.p1_e2_eq {R : Type} (L N : Nat) (κ : Ex → T → H → Option R) (rec : T → H → Option R) (z15 : (List (List Move))) (z16 : Int) (z17 : Int) (z18 : (List (List Move))) :
    (contAt (E32 L N) (evCallI (E32 L N) 1 2000) 1000 32 64 2 f32.c0 (stepK (outK (keepT 64 ((E32 L N).liveX 32 0).1) (keepH 1000 ((E32 L N).liveX 32 0).2) κ) fun t h => rec (backK 1000 64 ((E32 L N).live 32 0).1 ((E32 L N).live 32 0).2 ((E32 L N).heal 32 0) ((E32 L N).ren 32 0) t h).1 (backK 1000 64 ((E32 L N).live 32 0).1 ((E32 L N).live 32 0).2 ((E32 L N).heal 32 0) ((E32 L N).ren 32 0) t h).2)) (.exit 2) (f32.T1_e2 z15 z16 z17 z18) (f32.H1_e2 z15 z16 z17 z18)
    = f32.p1_e2 L N (κ (.exit 0) f32.T0_e0 f32.H0_e0) (fun z43 => κ .ret (f32.T0_r z43) (f32.H0_r z43)) (fun s3 s4 s5 s6 => rec (f32.T0 s3 s4 s5 s6) (f32.H0 s3 s4 s5 s6)) z15 z16 z17 z18 := by
  rw [f32.p1_e2_pre]
  unfold f32.p1_e2
  rfl
theorem f32.p1_r_pre {R : Type} (L N : Nat) (κ : Ex → T → H → Option R) (rec : T → H → Option R) (z30 : Bool) (z31 : (List (List Move))) (z32 : Int) (z33 : Int) (z34 : (List (List Move))) :
    (contAt (E32 L N) (evCallI (E32 L N) 1 2000) 1000 32 64 2 f32.c0 (stepK (outK (keepT 64 ((E32 L N).liveX 32 0).1) (keepH 1000 ((E32 L N).liveX 32 0).2) κ) fun t h => rec (backK 1000 64 ((E32 L N).live 32 0).1 ((E32 L N).live 32 0).2 ((E32 L N).heal 32 0) ((E32 L N).ren 32 0) t h).1 (backK 1000 64 ((E32 L N).live 32 0).1 ((E32 L N).live 32 0).2 ((E32 L N).heal 32 0) ((E32 L N).ren 32 0) t h).2)) .ret (f32.T1_r z30 z31 z32 z33 z34) (f32.H1_r z30 z31 z32 z33 z34)
    = f32.p1_r' L N (κ (.exit 0) f32.T0_e0 f32.H0_e0) (fun z43 => κ .ret (f32.T0_r z43) (f32.H0_r z43)) (fun s3 s4 s5 s6 => rec (f32.T0 s3 s4 s5 s6) (f32.H0 s3 s4 s5 s6)) z30 z31 z32 z33 z34 := by kernel_rfl
theorem f32.p1_r_eq {R : Type} (L N : Nat) (κ : Ex → T → H → Option R) (rec : T → H → Option R) (z30 : Bool) (z31 : (List (List Move))) (z32 : Int) (z33 : Int) (z34 : (List (List Move))) :
    (contAt (E32 L N) (evCallI (E32 L N) 1 2000) 1000 32 64 2 f32.c0 (stepK (outK (keepT 64 ((E32 L N).liveX 32 0).1) (keepH 1000 ((E32 L N).liveX 32 0).2) κ) fun t h => rec (backK 1000 64 ((E32 L N).live 32 0).1 ((E32 L N).live 32 0).2 ((E32 L N).heal 32 0) ((E32 L N).ren 32 0) t h).1 (backK 1000 64 ((E32 L N).live 32 0).1 ((E32 L N).live 32 0).2 ((E32 L N).heal 32 0) ((E32 L N).ren 32 0) t h).2)) .ret (f32.T1_r z30 z31 z32 z33 z34) (f32.H1_r z30 z31 z32 z33 z34)
    = f32.p1_r L N (κ (.exit 0) f32.T0_e0 f32.H0_e0) (fun z43 => κ .ret (f32.T0_r z43) (f32.H0_r z43)) (fun s3 s4 s5 s6 => rec (f32.T0 s3 s4 s5 s6) (f32.H0 s3 s4 s5 s6)) z30 z31 z32 z33 z34 := by
  rw [f32.p1_r_pre]
  unfold f32.p1_r
  rfl
theorem f32.s0_pre {R : Type} (L N : Nat) (κ : Ex → T → H → Option R) (rec : T → H → Option R) (s3 : (List (List Move))) (s4 : Int) (s5 : Int) (s6 : (List (List Move))) :
    evRd (E32 L N) (evCallI (E32 L N) 1 2000) 1000 32 64 0 f32.c0 κ rec (f32.T0 s3 s4 s5 s6) (f32.H0 s3 s4 s5 s6)
    = f32.s0' L N (κ (.exit 0) f32.T0_e0 f32.H0_e0) (fun z43 => κ .ret (f32.T0_r z43) (f32.H0_r z43)) (fun s3 s4 s5 s6 => rec (f32.T0 s3 s4 s5 s6) (f32.H0 s3 s4 s5 s6)) (fun s7 s8 s9 s10 s11 s12 s13 s14 => evLp (E32 L N) (evCallI (E32 L N) 1 2000) 1000 32 64 2 f32.c1 (contAt (E32 L N) (evCallI (E32 L N) 1 2000) 1000 32 64 2 f32.c0 (stepK (outK (keepT 64 ((E32 L N).liveX 32 0).1) (keepH 1000 ((E32 L N).liveX 32 0).2) κ) fun t h => rec (backK 1000 64 ((E32 L N).live 32 0).1 ((E32 L N).live 32 0).2 ((E32 L N).heal 32 0) ((E32 L N).ren 32 0) t h).1 (backK 1000 64 ((E32 L N).live 32 0).1 ((E32 L N).live 32 0).2 ((E32 L N).heal 32 0) ((E32 L N).ren 32 0) t h).2)) L (f32.T1 s7 s8 s9 s10 s11 s12 s13 s14) (f32.H1 s7 s8 s9 s10 s11 s12 s13 s14)) s3 s4 s5 s6 := by kernel_rfl
theorem f32.s0_eq {R : Type} (L N : Nat) (κ : Ex → T → H → Option R) (rec : T → H → Option R) (s3 : (List (List Move))) (s4 : Int) (s5 : Int) (s6 : (List (List Move))) :
    evRd (E32 L N) (evCallI (E32 L N) 1 2000) 1000 32 64 0 f32.c0 κ rec (f32.T0 s3 s4 s5 s6) (f32.H0 s3 s4 s5 s6)
    = f32.s0 L N (κ (.exit 0) f32.T0_e0 f32.H0_e0) (fun z43 => κ .ret (f32.T0_r z43) (f32.H0_r z43)) (fun s3 s4 s5 s6 => rec (f32.T0 s3 s4 s5 s6) (f32.H0 s3 s4 s5 s6)) s3 s4 s5 s6 := by
  rw [f32.s0_pre]
  unfold f32.s0
  simp only [f32.l1_eq, f32.p1_e2_eq, f32.p1_r_eq]
theorem f32.l0_eq {R : Type} (L N : Nat) (κ : Ex → T → H → Option R) : ∀ (n : Nat) (s3 : (List (List Move))) (s4 : Int) (s5 : Int) (s6 : (List (List Move))),
    evLp (E32 L N) (evCallI (E32 L N) 1 2000) 1000 32 64 0 f32.c0 κ n (f32.T0 s3 s4 s5 s6) (f32.H0 s3 s4 s5 s6)
    = f32.l0 L N (κ (.exit 0) f32.T0_e0 f32.H0_e0) (fun z43 => κ .ret (f32.T0_r z43) (f32.H0_r z43)) n s3 s4 s5 s6 := by
  intro n
  induction n with
  | zero => intros; rfl
  | succ n ih =>
    intro s3 s4 s5 s6
    rw [evLp_succ, f32.s0_eq]
    simp only [ih]
    rfl
theorem f32.p0_e0_pre {R : Type} (L N : Nat) (κ : AV → Option R) :
    (contAt (E32 L N) (evCallI (E32 L N) 1 2000) 1000 32 64 0 (codeOf Try.f32) (finK (E32 L N) 1000 Try.f32 (finC (.one .bool) κ))) (.exit 0) f32.T0_e0 f32.H0_e0
    = f32.p0_e0' L N (fun a0 => κ (.tv .bool a0)) := by kernel_rfl
theorem f32.p0_e0_eq {R : Type} (L N : Nat) (κ : AV → Option R) :
    (contAt (E32 L N) (evCallI (E32 L N) 1 2000) 1000 32 64 0 (codeOf Try.f32) (finK (E32 L N) 1000 Try.f32 (finC (.one .bool) κ))) (.exit 0) f32.T0_e0 f32.H0_e0
    = f32.p0_e0 L N (fun a0 => κ (.tv .bool a0)) := by
  rw [f32.p0_e0_pre]
  unfold f32.p0_e0
  rfl
theorem f32.p0_r_pre {R : Type} (L N : Nat) (κ : AV → Option R) (z43 : Bool) :
    (contAt (E32 L N) (evCallI (E32 L N) 1 2000) 1000 32 64 0 (codeOf Try.f32) (finK (E32 L N) 1000 Try.f32 (finC (.one .bool) κ))) .ret (f32.T0_r z43) (f32.H0_r z43)
    = f32.p0_r' L N (fun a0 => κ (.tv .bool a0)) z43 := by kernel_rfl
theorem f32.p0_r_eq {R : Type} (L N : Nat) (κ : AV → Option R) (z43 : Bool) :
    (contAt (E32 L N) (evCallI (E32 L N) 1 2000) 1000 32 64 0 (codeOf Try.f32) (finK (E32 L N) 1000 Try.f32 (finC (.one .bool) κ))) .ret (f32.T0_r z43) (f32.H0_r z43)
    = f32.p0_r L N (fun a0 => κ (.tv .bool a0)) z43 := by
  rw [f32.p0_r_pre]
  unfold f32.p0_r
  rfl
theorem f32.b_pre {R : Type} (L N : Nat) (κ : AV → Option R) (x0 : Graph) :
    evBody (E32 L N) (evCallI (E32 L N) 1 2000) 1000 32 Try.f32 [(.tv (.st 2) x0)] [] [] (finC (.one .bool) κ)
    = f32.b' L N (fun a0 => κ (.tv .bool a0)) (fun s3 s4 s5 s6 => evLp (E32 L N) (evCallI (E32 L N) 1 2000) 1000 32 64 0 f32.c0 (contAt (E32 L N) (evCallI (E32 L N) 1 2000) 1000 32 64 0 (codeOf Try.f32) (finK (E32 L N) 1000 Try.f32 (finC (.one .bool) κ))) L (f32.T0 s3 s4 s5 s6) (f32.H0 s3 s4 s5 s6)) x0 := by kernel_rfl
theorem f32.b_eq {R : Type} (L N : Nat) (κ : AV → Option R) (x0 : Graph) :
    evBody (E32 L N) (evCallI (E32 L N) 1 2000) 1000 32 Try.f32 [(.tv (.st 2) x0)] [] [] (finC (.one .bool) κ)
    = f32.b L N (fun a0 => κ (.tv .bool a0)) x0 := by
  rw [f32.b_pre]
  unfold f32.b
  simp only [f32.l0_eq, f32.p0_e0_eq, f32.p0_r_eq]
theorem f32.s1'_nat {R R' : Type} (j : R → Option R') (L N : Nat) (k1_e2 : (List (List Move)) → Int → Int → (List (List Move)) → Option R) (k1_r : Bool → (List (List Move)) → Int → Int → (List (List Move)) → Option R) (rec1 : (List Move) → (List (List Move)) → Int → Int → (List Move) → Int → Int → (List (List Move)) → Option R) (s7 : (List Move)) (s8 : (List (List Move))) (s9 : Int) (s10 : Int) (s11 : (List Move)) (s12 : Int) (s13 : Int) (s14 : (List (List Move))) :
    f32.s1' L N (fun a0 a1 a2 a3 => (k1_e2 a0 a1 a2 a3).bind j) (fun a0 a1 a2 a3 a4 => (k1_r a0 a1 a2 a3 a4).bind j) (fun a0 a1 a2 a3 a4 a5 a6 a7 => (rec1 a0 a1 a2 a3 a4 a5 a6 a7).bind j) s7 s8 s9 s10 s11 s12 s13 s14 = (f32.s1' L N k1_e2 k1_r rec1 s7 s8 s9 s10 s11 s12 s13 s14).bind j := by
  unfold f32.s1'
  repeat' (first | (with_reducible refine cond_nat ?_ ?_) | (with_reducible refine bind_nat fun _ => ?_) | rfl)
theorem f32.s1_nat {R R' : Type} (j : R → Option R') (L N : Nat) (k1_e2 : (List (List Move)) → Int → Int → (List (List Move)) → Option R) (k1_r : Bool → (List (List Move)) → Int → Int → (List (List Move)) → Option R) (rec1 : (List Move) → (List (List Move)) → Int → Int → (List Move) → Int → Int → (List (List Move)) → Option R) (s7 : (List Move)) (s8 : (List (List Move))) (s9 : Int) (s10 : Int) (s11 : (List Move)) (s12 : Int) (s13 : Int) (s14 : (List (List Move))) :
    f32.s1 L N (fun a0 a1 a2 a3 => (k1_e2 a0 a1 a2 a3).bind j) (fun a0 a1 a2 a3 a4 => (k1_r a0 a1 a2 a3 a4).bind j) (fun a0 a1 a2 a3 a4 a5 a6 a7 => (rec1 a0 a1 a2 a3 a4 a5 a6 a7).bind j) s7 s8 s9 s10 s11 s12 s13 s14 = (f32.s1 L N k1_e2 k1_r rec1 s7 s8 s9 s10 s11 s12 s13 s14).bind j := by
  unfold f32.s1
  exact f32.s1'_nat ..
theorem f32.l1_nat {R R' : Type} (j : R → Option R') (L N : Nat) (k1_e2 : (List (List Move)) → Int → Int → (List (List Move)) → Option R) (k1_r : Bool → (List (List Move)) → Int → Int → (List (List Move)) → Option R) : ∀ (n : Nat) (s7 : (List Move)) (s8 : (List (List Move))) (s9 : Int) (s10 : Int) (s11 : (List Move)) (s12 : Int) (s13 : Int) (s14 : (List (List Move))),
    f32.l1 L N (fun a0 a1 a2 a3 => (k1_e2 a0 a1 a2 a3).bind j) (fun a0 a1 a2 a3 a4 => (k1_r a0 a1 a2 a3 a4).bind j) n s7 s8 s9 s10 s11 s12 s13 s14 = (f32.l1 L N k1_e2 k1_r n s7 s8 s9 s10 s11 s12 s13 s14).bind j := by
  intro n
  induction n with
  | zero => intros; rfl
  | succ n ih =>
    intro s7 s8 s9 s10 s11 s12 s13 s14
    show f32.s1 L N (fun a0 a1 a2 a3 => (k1_e2 a0 a1 a2 a3).bind j) (fun a0 a1 a2 a3 a4 => (k1_r a0 a1 a2 a3 a4).bind j) (f32.l1 L N (fun a0 a1 a2 a3 => (k1_e2 a0 a1 a2 a3).bind j) (fun a0 a1 a2 a3 a4 => (k1_r a0 a1 a2 a3 a4).bind j) n) s7 s8 s9 s10 s11 s12 s13 s14 = _
    rw [show f32.l1 L N (fun a0 a1 a2 a3 => (k1_e2 a0 a1 a2 a3).bind j) (fun a0 a1 a2 a3 a4 => (k1_r a0 a1 a2 a3 a4).bind j) n = (fun s7 s8 s9 s10 s11 s12 s13 s14 => (f32.l1 L N k1_e2 k1_r n s7 s8 s9 s10 s11 s12 s13 s14).bind j) from funext fun s7 => funext fun s8 => funext fun s9 => funext fun s10 => funext fun s11 => funext fun s12 => funext fun s13 => funext fun s14 => ih s7 s8 s9 s10 s11 s12 s13 s14]
    exact f32.s1_nat ..
theorem f32.p1_e2'_nat {R R' : Type} (j : R → Option R') (L N : Nat) (k0_e0 : Option R) (k0_r : Bool → Option R) (rec0 : (List (List Move)) → Int → Int → (List (List Move)) → Option R) (z15 : (List (List Move))) (z16 : Int) (z17 : Int) (z18 : (List (List Move))) :
    f32.p1_e2' L N (k0_e0.bind j) (fun a0 => (k0_r a0).bind j) (fun a0 a1 a2 a3 => (rec0 a0 a1 a2 a3).bind j) z15 z16 z17 z18 = (f32.p1_e2' L N k0_e0 k0_r rec0 z15 z16 z17 z18).bind j := by
  unfold f32.p1_e2'
  repeat' (first | (with_reducible refine cond_nat ?_ ?_) | (with_reducible refine bind_nat fun _ => ?_) | rfl)
theorem f32.p1_e2_nat {R R' : Type} (j : R → Option R') (L N : Nat) (k0_e0 : Option R) (k0_r : Bool → Option R) (rec0 : (List (List Move)) → Int → Int → (List (List Move)) → Option R) (z15 : (List (List Move))) (z16 : Int) (z17 : Int) (z18 : (List (List Move))) :
    f32.p1_e2 L N (k0_e0.bind j) (fun a0 => (k0_r a0).bind j) (fun a0 a1 a2 a3 => (rec0 a0 a1 a2 a3).bind j) z15 z16 z17 z18 = (f32.p1_e2 L N k0_e0 k0_r rec0 z15 z16 z17 z18).bind j := by
  unfold f32.p1_e2
  exact f32.p1_e2'_nat ..
theorem f32.p1_r'_nat {R R' : Type} (j : R → Option R') (L N : Nat) (k0_e0 : Option R) (k0_r : Bool → Option R) (rec0 : (List (List Move)) → Int → Int → (List (List Move)) → Option R) (z30 : Bool) (z31 : (List (List Move))) (z32 : Int) (z33 : Int) (z34 : (List (List Move))) :
    f32.p1_r' L N (k0_e0.bind j) (fun a0 => (k0_r a0).bind j) (fun a0 a1 a2 a3 => (rec0 a0 a1 a2 a3).bind j) z30 z31 z32 z33 z34 = (f32.p1_r' L N k0_e0 k0_r rec0 z30 z31 z32 z33 z34).bind j := by
  unfold f32.p1_r'
  repeat' (first | (with_reducible refine cond_nat ?_ ?_) | (with_reducible refine bind_nat fun _ => ?_) | rfl)
theorem f32.p1_r_nat {R R' : Type} (j : R → Option R') (L N : Nat) (k0_e0 : Option R) (k0_r : Bool → Option R) (rec0 : (List (List Move)) → Int → Int → (List (List Move)) → Option R) (z30 : Bool) (z31 : (List (List Move))) (z32 : Int) (z33 : Int) (z34 : (List (List Move))) :
    f32.p1_r L N (k0_e0.bind j) (fun a0 => (k0_r a0).bind j) (fun a0 a1 a2 a3 => (rec0 a0 a1 a2 a3).bind j) z30 z31 z32 z33 z34 = (f32.p1_r L N k0_e0 k0_r rec0 z30 z31 z32 z33 z34).bind j := by
  unfold f32.p1_r
  exact f32.p1_r'_nat ..
theorem f32.s0'_nat {R R' : Type} (j : R → Option R') (L N : Nat) (k0_e0 : Option R) (k0_r : Bool → Option R) (rec0 : (List (List Move)) → Int → Int → (List (List Move)) → Option R) (w1 : (List Move) → (List (List Move)) → Int → Int → (List Move) → Int → Int → (List (List Move)) → Option R) (s3 : (List (List Move))) (s4 : Int) (s5 : Int) (s6 : (List (List Move))) :
    f32.s0' L N (k0_e0.bind j) (fun a0 => (k0_r a0).bind j) (fun a0 a1 a2 a3 => (rec0 a0 a1 a2 a3).bind j) (fun a0 a1 a2 a3 a4 a5 a6 a7 => (w1 a0 a1 a2 a3 a4 a5 a6 a7).bind j) s3 s4 s5 s6 = (f32.s0' L N k0_e0 k0_r rec0 w1 s3 s4 s5 s6).bind j := by
  unfold f32.s0'
  repeat' (first | (with_reducible refine cond_nat ?_ ?_) | (with_reducible refine bind_nat fun _ => ?_) | rfl)
theorem f32.s0_nat {R R' : Type} (j : R → Option R') (L N : Nat) (k0_e0 : Option R) (k0_r : Bool → Option R) (rec0 : (List (List Move)) → Int → Int → (List (List Move)) → Option R) (s3 : (List (List Move))) (s4 : Int) (s5 : Int) (s6 : (List (List Move))) :
    f32.s0 L N (k0_e0.bind j) (fun a0 => (k0_r a0).bind j) (fun a0 a1 a2 a3 => (rec0 a0 a1 a2 a3).bind j) s3 s4 s5 s6 = (f32.s0 L N k0_e0 k0_r rec0 s3 s4 s5 s6).bind j := by
  unfold f32.s0
  simp only [f32.l1_nat, f32.p1_e2_nat, f32.p1_r_nat]
  exact f32.s0'_nat ..
theorem f32.l0_nat {R R' : Type} (j : R → Option R') (L N : Nat) (k0_e0 : Option R) (k0_r : Bool → Option R) : ∀ (n : Nat) (s3 : (List (List Move))) (s4 : Int) (s5 : Int) (s6 : (List (List Move))),
    f32.l0 L N (k0_e0.bind j) (fun a0 => (k0_r a0).bind j) n s3 s4 s5 s6 = (f32.l0 L N k0_e0 k0_r n s3 s4 s5 s6).bind j := by
  intro n
  induction n with
  | zero => intros; rfl
  | succ n ih =>
    intro s3 s4 s5 s6
    show f32.s0 L N (k0_e0.bind j) (fun a0 => (k0_r a0).bind j) (f32.l0 L N (k0_e0.bind j) (fun a0 => (k0_r a0).bind j) n) s3 s4 s5 s6 = _
    rw [show f32.l0 L N (k0_e0.bind j) (fun a0 => (k0_r a0).bind j) n = (fun s3 s4 s5 s6 => (f32.l0 L N k0_e0 k0_r n s3 s4 s5 s6).bind j) from funext fun s3 => funext fun s4 => funext fun s5 => funext fun s6 => ih s3 s4 s5 s6]
    exact f32.s0_nat ..
theorem f32.p0_e0'_nat {R R' : Type} (j : R → Option R') (L N : Nat) (k : Bool → Option R) :
    f32.p0_e0' L N (fun a0 => (k a0).bind j) = (f32.p0_e0' L N k).bind j := by
  unfold f32.p0_e0'
  repeat' (first | (with_reducible refine cond_nat ?_ ?_) | (with_reducible refine bind_nat fun _ => ?_) | rfl)
theorem f32.p0_e0_nat {R R' : Type} (j : R → Option R') (L N : Nat) (k : Bool → Option R) :
    f32.p0_e0 L N (fun a0 => (k a0).bind j) = (f32.p0_e0 L N k).bind j := by
  unfold f32.p0_e0
  exact f32.p0_e0'_nat ..
theorem f32.p0_r'_nat {R R' : Type} (j : R → Option R') (L N : Nat) (k : Bool → Option R) (z43 : Bool) :
    f32.p0_r' L N (fun a0 => (k a0).bind j) z43 = (f32.p0_r' L N k z43).bind j := by
  unfold f32.p0_r'
  repeat' (first | (with_reducible refine cond_nat ?_ ?_) | (with_reducible refine bind_nat fun _ => ?_) | rfl)
theorem f32.p0_r_nat {R R' : Type} (j : R → Option R') (L N : Nat) (k : Bool → Option R) (z43 : Bool) :
    f32.p0_r L N (fun a0 => (k a0).bind j) z43 = (f32.p0_r L N k z43).bind j := by
  unfold f32.p0_r
  exact f32.p0_r'_nat ..
theorem f32.j0'_nat {R R' : Type} (j : R → Option R') (L N : Nat) (k : Bool → Option R) (w0 : (List (List Move)) → Int → Int → (List (List Move)) → Option R) (v2 : (List (List Move))) :
    f32.j0' L N (fun a0 => (k a0).bind j) (fun a0 a1 a2 a3 => (w0 a0 a1 a2 a3).bind j) v2 = (f32.j0' L N k w0 v2).bind j := by
  unfold f32.j0'
  repeat' (first | (with_reducible refine cond_nat ?_ ?_) | (with_reducible refine bind_nat fun _ => ?_) | rfl)
theorem f32.b'_nat {R R' : Type} (j : R → Option R') (L N : Nat) (k : Bool → Option R) (w0 : (List (List Move)) → Int → Int → (List (List Move)) → Option R) (x0 : Graph) :
    f32.b' L N (fun a0 => (k a0).bind j) (fun a0 a1 a2 a3 => (w0 a0 a1 a2 a3).bind j) x0 = (f32.b' L N k w0 x0).bind j := by
  unfold f32.b'
  repeat' (first | (with_reducible refine cond_nat ?_ ?_) | (with_reducible refine bind_nat fun _ => ?_) | exact f32.j0'_nat .. | rfl)
theorem f32.b_nat {R R' : Type} (j : R → Option R') (L N : Nat) (k : Bool → Option R) (x0 : Graph) :
    f32.b L N (fun a0 => (k a0).bind j) x0 = (f32.b L N k x0).bind j := by
  unfold f32.b
  simp only [f32.l0_nat, f32.p0_e0_nat, f32.p0_r_nat]
  exact f32.b'_nat ..
theorem f32.ok (L N : Nat) (hΦ : TellsOk Try.prog ((Φ73 L N))) : EntOk Try.prog 32 (f32.ent L N) := by
  intro args vw site h
  unfold f32.ent
  split
  · rename_i d ha
    intro y hy hs
    refine call_ro (dep := 1000) (E := (E32 L N)) (rs := (.one .bool)) (v := (.tv .bool y)) (sound_of hΦ) okP (callI_sound (sound_of hΦ) okP 1 2000) (f := Try.f32) rfl hs ha ?_ rfl site
    refine (f32.b_eq L N some d.1).trans ?_
    refine ((f32.b_nat (fun y => (some (.tv .bool y) : Option AV)) L N some d.1)).trans ?_
    rw [show f32.b L N some d.1 = some y from hy]
    rfl
  · intro y hy
    cases hy
def Φ32 (L N : Nat) : Tells := (addT (Φ73 L N) 32 (f32.ent L N))
theorem Φ32_ok (L N : Nat) : TellsOk Try.prog (Φ32 L N) := addT_ok (Φ73_ok L N) (f32.ok L N (Φ73_ok L N))
def f140.b' {R : Type} (L N : Nat) (k : Bool → Option R) (x0 : Int) : Option R :=
  (f72 L N x0).bind fun y0 =>
  bif y0 then
    k (x0 != (0 : Int))
  else k false
def f140.b {R : Type} (L N : Nat) (k : Bool → Option R) (x0 : Int) : Option R :=
  f140.b' L N k x0
def f140 (L N : Nat) (x0 : Int) : Option (Bool) := f140.b L N some x0
def f140.ent (L N : Nat) (args : List AV) (vw : View) (site : Nat) : Ans := match roD [i64] vw args with
  | some d => ⟨Bool, f140 L N d.1, fun y => ((.tv .bool y), [], [])⟩
  | none => Ans.no
noncomputable def E140 (L N : Nat) : Env := { P := Try.prog, ty := tyOf, Φ := (Φ32 L N), inl := inlT, live := lives, liveX := livesX, L := L, dp := none, prom := promT, heal := healT, ren := renT }
theorem f140.b_pre {R : Type} (L N : Nat) (κ : AV → Option R) (x0 : Int) :
    evBody (E140 L N) (evCallI (E140 L N) 1 2000) 1000 140 Try.f140 [(.tv i64 x0)] [] [] (finC (.one .bool) κ)
    = f140.b' L N (fun a0 => κ (.tv .bool a0)) x0 := by kernel_rfl
theorem f140.b_eq {R : Type} (L N : Nat) (κ : AV → Option R) (x0 : Int) :
    evBody (E140 L N) (evCallI (E140 L N) 1 2000) 1000 140 Try.f140 [(.tv i64 x0)] [] [] (finC (.one .bool) κ)
    = f140.b L N (fun a0 => κ (.tv .bool a0)) x0 := by
  rw [f140.b_pre]
  unfold f140.b
  rfl
theorem f140.b'_nat {R R' : Type} (j : R → Option R') (L N : Nat) (k : Bool → Option R) (x0 : Int) :
    f140.b' L N (fun a0 => (k a0).bind j) x0 = (f140.b' L N k x0).bind j := by
  unfold f140.b'
  repeat' (first | (with_reducible refine cond_nat ?_ ?_) | (with_reducible refine bind_nat fun _ => ?_) | rfl)
theorem f140.b_nat {R R' : Type} (j : R → Option R') (L N : Nat) (k : Bool → Option R) (x0 : Int) :
    f140.b L N (fun a0 => (k a0).bind j) x0 = (f140.b L N k x0).bind j := by
  unfold f140.b
  exact f140.b'_nat ..
theorem f140.ok (L N : Nat) (hΦ : TellsOk Try.prog ((Φ32 L N))) : EntOk Try.prog 140 (f140.ent L N) := by
  intro args vw site h
  unfold f140.ent
  split
  · rename_i d ha
    intro y hy hs
    refine call_ro (dep := 1000) (E := (E140 L N)) (rs := (.one .bool)) (v := (.tv .bool y)) (sound_of hΦ) okP (callI_sound (sound_of hΦ) okP 1 2000) (f := Try.f140) rfl hs ha ?_ rfl site
    refine (f140.b_eq L N some d.1).trans ?_
    refine ((f140.b_nat (fun y => (some (.tv .bool y) : Option AV)) L N some d.1)).trans ?_
    rw [show f140.b L N some d.1 = some y from hy]
    rfl
  · intro y hy
    cases hy
def Φ140 (L N : Nat) : Tells := (addT (Φ32 L N) 140 (f140.ent L N))
theorem Φ140_ok (L N : Nat) : TellsOk Try.prog (Φ140 L N) := addT_ok (Φ32_ok L N) (f140.ok L N (Φ32_ok L N))
def f139.b' {R : Type} (L N : Nat) (k : Bool → Option R) (x0 : Int) : Option R :=
  (f140 L N x0).bind fun y0 =>
  k (!y0)
def f139.b {R : Type} (L N : Nat) (k : Bool → Option R) (x0 : Int) : Option R :=
  f139.b' L N k x0
def f139 (L N : Nat) (x0 : Int) : Option (Bool) := f139.b L N some x0
def f139.ent (L N : Nat) (args : List AV) (vw : View) (site : Nat) : Ans := match roD [i64] vw args with
  | some d => ⟨Bool, f139 L N d.1, fun y => ((.tv .bool y), [], [])⟩
  | none => Ans.no
noncomputable def E139 (L N : Nat) : Env := { P := Try.prog, ty := tyOf, Φ := (Φ140 L N), inl := inlT, live := lives, liveX := livesX, L := L, dp := none, prom := promT, heal := healT, ren := renT }
theorem f139.b_pre {R : Type} (L N : Nat) (κ : AV → Option R) (x0 : Int) :
    evBody (E139 L N) (evCallI (E139 L N) 1 2000) 1000 139 Try.f139 [(.tv i64 x0)] [] [] (finC (.one .bool) κ)
    = f139.b' L N (fun a0 => κ (.tv .bool a0)) x0 := by kernel_rfl
theorem f139.b_eq {R : Type} (L N : Nat) (κ : AV → Option R) (x0 : Int) :
    evBody (E139 L N) (evCallI (E139 L N) 1 2000) 1000 139 Try.f139 [(.tv i64 x0)] [] [] (finC (.one .bool) κ)
    = f139.b L N (fun a0 => κ (.tv .bool a0)) x0 := by
  rw [f139.b_pre]
  unfold f139.b
  rfl
theorem f139.b'_nat {R R' : Type} (j : R → Option R') (L N : Nat) (k : Bool → Option R) (x0 : Int) :
    f139.b' L N (fun a0 => (k a0).bind j) x0 = (f139.b' L N k x0).bind j := by
  unfold f139.b'
  repeat' (first | (with_reducible refine cond_nat ?_ ?_) | (with_reducible refine bind_nat fun _ => ?_) | rfl)
theorem f139.b_nat {R R' : Type} (j : R → Option R') (L N : Nat) (k : Bool → Option R) (x0 : Int) :
    f139.b L N (fun a0 => (k a0).bind j) x0 = (f139.b L N k x0).bind j := by
  unfold f139.b
  exact f139.b'_nat ..
theorem f139.ok (L N : Nat) (hΦ : TellsOk Try.prog ((Φ140 L N))) : EntOk Try.prog 139 (f139.ent L N) := by
  intro args vw site h
  unfold f139.ent
  split
  · rename_i d ha
    intro y hy hs
    refine call_ro (dep := 1000) (E := (E139 L N)) (rs := (.one .bool)) (v := (.tv .bool y)) (sound_of hΦ) okP (callI_sound (sound_of hΦ) okP 1 2000) (f := Try.f139) rfl hs ha ?_ rfl site
    refine (f139.b_eq L N some d.1).trans ?_
    refine ((f139.b_nat (fun y => (some (.tv .bool y) : Option AV)) L N some d.1)).trans ?_
    rw [show f139.b L N some d.1 = some y from hy]
    rfl
  · intro y hy
    cases hy
def Φ139 (L N : Nat) : Tells := (addT (Φ140 L N) 139 (f139.ent L N))
theorem Φ139_ok (L N : Nat) : TellsOk Try.prog (Φ139 L N) := addT_ok (Φ140_ok L N) (f139.ok L N (Φ140_ok L N))
def f153_1.s0' {R : Type} (L N : Nat) (k0_e0 : Option R) (k0_r : Int → Option R) (rec0 : (List Int) → Int → Int → Option R) (s0 : (List Int)) (s1 : Int) (s2 : Int) : Option R :=
  bif (decide (s2 < s1)) then
    bif (decide (0 ≤ s2) && decide (s2 < (s0.length : Int))) then
      (f139 L N (listAt s0 (0 : Int) s2.toNat)).bind fun y3 =>
      bif y3 then
        k0_r s2
      else rec0 s0 s1 (wi (s2 + (1 : Int)))
    else none
  else k0_e0
def f153_1.s0 {R : Type} (L N : Nat) (k0_e0 : Option R) (k0_r : Int → Option R) (rec0 : (List Int) → Int → Int → Option R) (s0 : (List Int)) (s1 : Int) (s2 : Int) : Option R :=
  f153_1.s0' L N k0_e0 k0_r rec0 s0 s1 s2
def f153_1.l0 {R : Type} (L N : Nat) (k0_e0 : Option R) (k0_r : Int → Option R) : Nat → (List Int) → Int → Int → Option R
  | 0, _, _, _ => none
  | n + 1, s0, s1, s2 => f153_1.s0 L N k0_e0 k0_r (f153_1.l0 L N k0_e0 k0_r n) s0 s1 s2
def f153_1.T0 (s0 : (List Int)) (s1 : Int) (s2 : Int) : T := mkT 19 [(0, (.tv (.sl i64) s0)), (1, (.fn 139 [])), (7, (.tv i64 s1)), (8, (.tv i64 s2))]
def f153_1.H0 (s0 : (List Int)) (s1 : Int) (s2 : Int) : H := []
def f153_1.T0_e0 : T := mkT 19 []
def f153_1.H0_e0 : H := []
def f153_1.T0_r (z4 : Int) : T := mkT 19 [(4, (.tv i64 z4))]
def f153_1.H0_r (z4 : Int) : H := []
def f153_1.p0_e0' {R : Type} (L N : Nat) (k : Int → Option R) : Option R :=
  k (-1 : Int)
def f153_1.p0_e0 {R : Type} (L N : Nat) (k : Int → Option R) : Option R :=
  f153_1.p0_e0' L N k
def f153_1.p0_r' {R : Type} (L N : Nat) (k : Int → Option R) (z4 : Int) : Option R :=
  k z4
def f153_1.p0_r {R : Type} (L N : Nat) (k : Int → Option R) (z4 : Int) : Option R :=
  f153_1.p0_r' L N k z4
def f153_1.b' {R : Type} (L N : Nat) (k : Int → Option R) (w0 : (List Int) → Int → Int → Option R) (x0 : (List Int)) : Option R :=
  w0 x0 (x0.length : Int) (0 : Int)
def f153_1.b {R : Type} (L N : Nat) (k : Int → Option R) (x0 : (List Int)) : Option R :=
  f153_1.b' L N k (fun s0 s1 s2 => f153_1.l0 L N (f153_1.p0_e0 L N k) (fun z4 => f153_1.p0_r L N k z4) L s0 s1 s2) x0
def f153_1 (L N : Nat) (x0 : (List Int)) : Option (Int) := f153_1.b L N some x0
def f153_1.ent (L N : Nat) (args : List AV) (vw : View) (site : Nat) : Option Ans := match shD [(.dat (.sl i64)), (.fn 139 [])] vw args with
  | some d => some ⟨Int, f153_1 L N d.1, fun y => ((.tv i64 y), [], [])⟩
  | none => none
noncomputable def E153_1 (L N : Nat) : Env := { P := Try.prog, ty := tyOf, Φ := (Φ139 L N), inl := inlT, live := lives, liveX := livesX, L := L, dp := none, prom := promT, heal := healT, ren := renT }
noncomputable def f153_1.c0 : Code := loopAt 0 (codeOf Try.f153)
theorem f153_1.s0_pre {R : Type} (L N : Nat) (κ : Ex → T → H → Option R) (rec : T → H → Option R) (s0 : (List Int)) (s1 : Int) (s2 : Int) :
    evRd (E153_1 L N) (evCallI (E153_1 L N) 1 2000) 1000 153 19 0 f153_1.c0 κ rec (f153_1.T0 s0 s1 s2) (f153_1.H0 s0 s1 s2)
    = f153_1.s0' L N (κ (.exit 0) f153_1.T0_e0 f153_1.H0_e0) (fun z4 => κ .ret (f153_1.T0_r z4) (f153_1.H0_r z4)) (fun s0 s1 s2 => rec (f153_1.T0 s0 s1 s2) (f153_1.H0 s0 s1 s2)) s0 s1 s2 := by kernel_rfl
theorem f153_1.s0_eq {R : Type} (L N : Nat) (κ : Ex → T → H → Option R) (rec : T → H → Option R) (s0 : (List Int)) (s1 : Int) (s2 : Int) :
    evRd (E153_1 L N) (evCallI (E153_1 L N) 1 2000) 1000 153 19 0 f153_1.c0 κ rec (f153_1.T0 s0 s1 s2) (f153_1.H0 s0 s1 s2)
    = f153_1.s0 L N (κ (.exit 0) f153_1.T0_e0 f153_1.H0_e0) (fun z4 => κ .ret (f153_1.T0_r z4) (f153_1.H0_r z4)) (fun s0 s1 s2 => rec (f153_1.T0 s0 s1 s2) (f153_1.H0 s0 s1 s2)) s0 s1 s2 := by
  rw [f153_1.s0_pre]
  unfold f153_1.s0
  rfl
theorem f153_1.l0_eq {R : Type} (L N : Nat) (κ : Ex → T → H → Option R) : ∀ (n : Nat) (s0 : (List Int)) (s1 : Int) (s2 : Int),
    evLp (E153_1 L N) (evCallI (E153_1 L N) 1 2000) 1000 153 19 0 f153_1.c0 κ n (f153_1.T0 s0 s1 s2) (f153_1.H0 s0 s1 s2)
    = f153_1.l0 L N (κ (.exit 0) f153_1.T0_e0 f153_1.H0_e0) (fun z4 => κ .ret (f153_1.T0_r z4) (f153_1.H0_r z4)) n s0 s1 s2 := by
  intro n
  induction n with
  | zero => intros; rfl
  | succ n ih =>
    intro s0 s1 s2
    rw [evLp_succ, f153_1.s0_eq]
    simp only [ih]
    rfl
theorem f153_1.p0_e0_pre {R : Type} (L N : Nat) (κ : AV → Option R) :
    (contAt (E153_1 L N) (evCallI (E153_1 L N) 1 2000) 1000 153 19 0 (codeOf Try.f153) (finK (E153_1 L N) 1000 Try.f153 (finC (.one i64) κ))) (.exit 0) f153_1.T0_e0 f153_1.H0_e0
    = f153_1.p0_e0' L N (fun a0 => κ (.tv i64 a0)) := by kernel_rfl
theorem f153_1.p0_e0_eq {R : Type} (L N : Nat) (κ : AV → Option R) :
    (contAt (E153_1 L N) (evCallI (E153_1 L N) 1 2000) 1000 153 19 0 (codeOf Try.f153) (finK (E153_1 L N) 1000 Try.f153 (finC (.one i64) κ))) (.exit 0) f153_1.T0_e0 f153_1.H0_e0
    = f153_1.p0_e0 L N (fun a0 => κ (.tv i64 a0)) := by
  rw [f153_1.p0_e0_pre]
  unfold f153_1.p0_e0
  rfl
theorem f153_1.p0_r_pre {R : Type} (L N : Nat) (κ : AV → Option R) (z4 : Int) :
    (contAt (E153_1 L N) (evCallI (E153_1 L N) 1 2000) 1000 153 19 0 (codeOf Try.f153) (finK (E153_1 L N) 1000 Try.f153 (finC (.one i64) κ))) .ret (f153_1.T0_r z4) (f153_1.H0_r z4)
    = f153_1.p0_r' L N (fun a0 => κ (.tv i64 a0)) z4 := by kernel_rfl
theorem f153_1.p0_r_eq {R : Type} (L N : Nat) (κ : AV → Option R) (z4 : Int) :
    (contAt (E153_1 L N) (evCallI (E153_1 L N) 1 2000) 1000 153 19 0 (codeOf Try.f153) (finK (E153_1 L N) 1000 Try.f153 (finC (.one i64) κ))) .ret (f153_1.T0_r z4) (f153_1.H0_r z4)
    = f153_1.p0_r L N (fun a0 => κ (.tv i64 a0)) z4 := by
  rw [f153_1.p0_r_pre]
  unfold f153_1.p0_r
  rfl
theorem f153_1.b_pre {R : Type} (L N : Nat) (κ : AV → Option R) (x0 : (List Int)) :
    evBody (E153_1 L N) (evCallI (E153_1 L N) 1 2000) 1000 153 Try.f153 [(.tv (.sl i64) x0), (.fn 139 [])] [] [] (finC (.one i64) κ)
    = f153_1.b' L N (fun a0 => κ (.tv i64 a0)) (fun s0 s1 s2 => evLp (E153_1 L N) (evCallI (E153_1 L N) 1 2000) 1000 153 19 0 f153_1.c0 (contAt (E153_1 L N) (evCallI (E153_1 L N) 1 2000) 1000 153 19 0 (codeOf Try.f153) (finK (E153_1 L N) 1000 Try.f153 (finC (.one i64) κ))) L (f153_1.T0 s0 s1 s2) (f153_1.H0 s0 s1 s2)) x0 := by kernel_rfl
theorem f153_1.b_eq {R : Type} (L N : Nat) (κ : AV → Option R) (x0 : (List Int)) :
    evBody (E153_1 L N) (evCallI (E153_1 L N) 1 2000) 1000 153 Try.f153 [(.tv (.sl i64) x0), (.fn 139 [])] [] [] (finC (.one i64) κ)
    = f153_1.b L N (fun a0 => κ (.tv i64 a0)) x0 := by
  rw [f153_1.b_pre]
  unfold f153_1.b
  simp only [f153_1.l0_eq, f153_1.p0_e0_eq, f153_1.p0_r_eq]
theorem f153_1.s0'_nat {R R' : Type} (j : R → Option R') (L N : Nat) (k0_e0 : Option R) (k0_r : Int → Option R) (rec0 : (List Int) → Int → Int → Option R) (s0 : (List Int)) (s1 : Int) (s2 : Int) :
    f153_1.s0' L N (k0_e0.bind j) (fun a0 => (k0_r a0).bind j) (fun a0 a1 a2 => (rec0 a0 a1 a2).bind j) s0 s1 s2 = (f153_1.s0' L N k0_e0 k0_r rec0 s0 s1 s2).bind j := by
  unfold f153_1.s0'
  repeat' (first | (with_reducible refine cond_nat ?_ ?_) | (with_reducible refine bind_nat fun _ => ?_) | rfl)
theorem f153_1.s0_nat {R R' : Type} (j : R → Option R') (L N : Nat) (k0_e0 : Option R) (k0_r : Int → Option R) (rec0 : (List Int) → Int → Int → Option R) (s0 : (List Int)) (s1 : Int) (s2 : Int) :
    f153_1.s0 L N (k0_e0.bind j) (fun a0 => (k0_r a0).bind j) (fun a0 a1 a2 => (rec0 a0 a1 a2).bind j) s0 s1 s2 = (f153_1.s0 L N k0_e0 k0_r rec0 s0 s1 s2).bind j := by
  unfold f153_1.s0
  exact f153_1.s0'_nat ..
theorem f153_1.l0_nat {R R' : Type} (j : R → Option R') (L N : Nat) (k0_e0 : Option R) (k0_r : Int → Option R) : ∀ (n : Nat) (s0 : (List Int)) (s1 : Int) (s2 : Int),
    f153_1.l0 L N (k0_e0.bind j) (fun a0 => (k0_r a0).bind j) n s0 s1 s2 = (f153_1.l0 L N k0_e0 k0_r n s0 s1 s2).bind j := by
  intro n
  induction n with
  | zero => intros; rfl
  | succ n ih =>
    intro s0 s1 s2
    show f153_1.s0 L N (k0_e0.bind j) (fun a0 => (k0_r a0).bind j) (f153_1.l0 L N (k0_e0.bind j) (fun a0 => (k0_r a0).bind j) n) s0 s1 s2 = _
    rw [show f153_1.l0 L N (k0_e0.bind j) (fun a0 => (k0_r a0).bind j) n = (fun s0 s1 s2 => (f153_1.l0 L N k0_e0 k0_r n s0 s1 s2).bind j) from funext fun s0 => funext fun s1 => funext fun s2 => ih s0 s1 s2]
    exact f153_1.s0_nat ..
theorem f153_1.p0_e0'_nat {R R' : Type} (j : R → Option R') (L N : Nat) (k : Int → Option R) :
    f153_1.p0_e0' L N (fun a0 => (k a0).bind j) = (f153_1.p0_e0' L N k).bind j := by
  unfold f153_1.p0_e0'
  repeat' (first | (with_reducible refine cond_nat ?_ ?_) | (with_reducible refine bind_nat fun _ => ?_) | rfl)
theorem f153_1.p0_e0_nat {R R' : Type} (j : R → Option R') (L N : Nat) (k : Int → Option R) :
    f153_1.p0_e0 L N (fun a0 => (k a0).bind j) = (f153_1.p0_e0 L N k).bind j := by
  unfold f153_1.p0_e0
  exact f153_1.p0_e0'_nat ..
theorem f153_1.p0_r'_nat {R R' : Type} (j : R → Option R') (L N : Nat) (k : Int → Option R) (z4 : Int) :
    f153_1.p0_r' L N (fun a0 => (k a0).bind j) z4 = (f153_1.p0_r' L N k z4).bind j := by
  unfold f153_1.p0_r'
  repeat' (first | (with_reducible refine cond_nat ?_ ?_) | (with_reducible refine bind_nat fun _ => ?_) | rfl)
theorem f153_1.p0_r_nat {R R' : Type} (j : R → Option R') (L N : Nat) (k : Int → Option R) (z4 : Int) :
    f153_1.p0_r L N (fun a0 => (k a0).bind j) z4 = (f153_1.p0_r L N k z4).bind j := by
  unfold f153_1.p0_r
  exact f153_1.p0_r'_nat ..
theorem f153_1.b'_nat {R R' : Type} (j : R → Option R') (L N : Nat) (k : Int → Option R) (w0 : (List Int) → Int → Int → Option R) (x0 : (List Int)) :
    f153_1.b' L N (fun a0 => (k a0).bind j) (fun a0 a1 a2 => (w0 a0 a1 a2).bind j) x0 = (f153_1.b' L N k w0 x0).bind j := by
  unfold f153_1.b'
  repeat' (first | (with_reducible refine cond_nat ?_ ?_) | (with_reducible refine bind_nat fun _ => ?_) | rfl)
theorem f153_1.b_nat {R R' : Type} (j : R → Option R') (L N : Nat) (k : Int → Option R) (x0 : (List Int)) :
    f153_1.b L N (fun a0 => (k a0).bind j) x0 = (f153_1.b L N k x0).bind j := by
  unfold f153_1.b
  simp only [f153_1.l0_nat, f153_1.p0_e0_nat, f153_1.p0_r_nat]
  exact f153_1.b'_nat ..
theorem f153_1.ok (L N : Nat) (hΦ : TellsOk Try.prog ((Φ139 L N))) : EntOkO Try.prog 153 (f153_1.ent L N) := by
  intro args vw site h a ha
  unfold f153_1.ent at ha
  split at ha
  · rename_i d hd
    obtain rfl := Option.some.inj ha
    intro y hy hs
    refine call_rof (dep := 1000) (E := (E153_1 L N)) (rs := (.one i64)) (v := (.tv i64 y)) (sound_of hΦ) okP (callI_sound (sound_of hΦ) okP 1 2000) (f := Try.f153) rfl hs hd ?_ rfl site
    refine (f153_1.b_eq L N some d.1).trans ?_
    refine (f153_1.b_nat (fun y => (some (.tv i64 y) : Option AV)) L N some d.1).trans ?_
    rw [show f153_1.b L N some d.1 = some y from hy]
    rfl
  · cases ha
def Φ153_1 (L N : Nat) : Tells := (addO (Φ139 L N) 153 (f153_1.ent L N))
theorem Φ153_1_ok (L N : Nat) : TellsOk Try.prog (Φ153_1 L N) := addO_ok (Φ139_ok L N) (f153_1.ok L N (Φ139_ok L N))
def f138_1.b' {R : Type} (L N : Nat) (k : Bool → Option R) (x0 : (List Int)) : Option R :=
  (f153_1 L N x0).bind fun y0 =>
  k (decide (y0 ≥ (0 : Int)))
def f138_1.b {R : Type} (L N : Nat) (k : Bool → Option R) (x0 : (List Int)) : Option R :=
  f138_1.b' L N k x0
def f138_1 (L N : Nat) (x0 : (List Int)) : Option (Bool) := f138_1.b L N some x0
def f138_1.ent (L N : Nat) (args : List AV) (vw : View) (site : Nat) : Option Ans := match shD [(.dat (.sl i64)), (.fn 139 [])] vw args with
  | some d => some ⟨Bool, f138_1 L N d.1, fun y => ((.tv .bool y), [], [])⟩
  | none => none
noncomputable def E138_1 (L N : Nat) : Env := { P := Try.prog, ty := tyOf, Φ := (Φ153_1 L N), inl := inlT, live := lives, liveX := livesX, L := L, dp := none, prom := promT, heal := healT, ren := renT }
theorem f138_1.b_pre {R : Type} (L N : Nat) (κ : AV → Option R) (x0 : (List Int)) :
    evBody (E138_1 L N) (evCallI (E138_1 L N) 1 2000) 1000 138 Try.f138 [(.tv (.sl i64) x0), (.fn 139 [])] [] [] (finC (.one .bool) κ)
    = f138_1.b' L N (fun a0 => κ (.tv .bool a0)) x0 := by kernel_rfl
theorem f138_1.b_eq {R : Type} (L N : Nat) (κ : AV → Option R) (x0 : (List Int)) :
    evBody (E138_1 L N) (evCallI (E138_1 L N) 1 2000) 1000 138 Try.f138 [(.tv (.sl i64) x0), (.fn 139 [])] [] [] (finC (.one .bool) κ)
    = f138_1.b L N (fun a0 => κ (.tv .bool a0)) x0 := by
  rw [f138_1.b_pre]
  unfold f138_1.b
  rfl
theorem f138_1.b'_nat {R R' : Type} (j : R → Option R') (L N : Nat) (k : Bool → Option R) (x0 : (List Int)) :
    f138_1.b' L N (fun a0 => (k a0).bind j) x0 = (f138_1.b' L N k x0).bind j := by
  unfold f138_1.b'
  repeat' (first | (with_reducible refine cond_nat ?_ ?_) | (with_reducible refine bind_nat fun _ => ?_) | rfl)
theorem f138_1.b_nat {R R' : Type} (j : R → Option R') (L N : Nat) (k : Bool → Option R) (x0 : (List Int)) :
    f138_1.b L N (fun a0 => (k a0).bind j) x0 = (f138_1.b L N k x0).bind j := by
  unfold f138_1.b
  exact f138_1.b'_nat ..
theorem f138_1.ok (L N : Nat) (hΦ : TellsOk Try.prog ((Φ153_1 L N))) : EntOkO Try.prog 138 (f138_1.ent L N) := by
  intro args vw site h a ha
  unfold f138_1.ent at ha
  split at ha
  · rename_i d hd
    obtain rfl := Option.some.inj ha
    intro y hy hs
    refine call_rof (dep := 1000) (E := (E138_1 L N)) (rs := (.one .bool)) (v := (.tv .bool y)) (sound_of hΦ) okP (callI_sound (sound_of hΦ) okP 1 2000) (f := Try.f138) rfl hs hd ?_ rfl site
    refine (f138_1.b_eq L N some d.1).trans ?_
    refine (f138_1.b_nat (fun y => (some (.tv .bool y) : Option AV)) L N some d.1).trans ?_
    rw [show f138_1.b L N some d.1 = some y from hy]
    rfl
  · cases ha
def Φ138_1 (L N : Nat) : Tells := (addO (Φ153_1 L N) 138 (f138_1.ent L N))
theorem Φ138_1_ok (L N : Nat) : TellsOk Try.prog (Φ138_1 L N) := addO_ok (Φ153_1_ok L N) (f138_1.ok L N (Φ153_1_ok L N))
def f111.b' {R : Type} (L N : Nat) (k : Bool → Option R) (x0 : (List Int)) : Option R :=
  (f138_1 L N x0).bind fun y0 =>
  k (!y0)
def f111.b {R : Type} (L N : Nat) (k : Bool → Option R) (x0 : (List Int)) : Option R :=
  f111.b' L N k x0
def f111 (L N : Nat) (x0 : (List Int)) : Option (Bool) := f111.b L N some x0
def f111.ent (L N : Nat) (args : List AV) (vw : View) (site : Nat) : Ans := match roD [(.sl i64)] vw args with
  | some d => ⟨Bool, f111 L N d.1, fun y => ((.tv .bool y), [], [])⟩
  | none => Ans.no
noncomputable def E111 (L N : Nat) : Env := { P := Try.prog, ty := tyOf, Φ := (Φ138_1 L N), inl := inlT, live := lives, liveX := livesX, L := L, dp := none, prom := promT, heal := healT, ren := renT }
theorem f111.b_pre {R : Type} (L N : Nat) (κ : AV → Option R) (x0 : (List Int)) :
    evBody (E111 L N) (evCallI (E111 L N) 1 2000) 1000 111 Try.f111 [(.tv (.sl i64) x0)] [] [] (finC (.one .bool) κ)
    = f111.b' L N (fun a0 => κ (.tv .bool a0)) x0 := by kernel_rfl
theorem f111.b_eq {R : Type} (L N : Nat) (κ : AV → Option R) (x0 : (List Int)) :
    evBody (E111 L N) (evCallI (E111 L N) 1 2000) 1000 111 Try.f111 [(.tv (.sl i64) x0)] [] [] (finC (.one .bool) κ)
    = f111.b L N (fun a0 => κ (.tv .bool a0)) x0 := by
  rw [f111.b_pre]
  unfold f111.b
  rfl
theorem f111.b'_nat {R R' : Type} (j : R → Option R') (L N : Nat) (k : Bool → Option R) (x0 : (List Int)) :
    f111.b' L N (fun a0 => (k a0).bind j) x0 = (f111.b' L N k x0).bind j := by
  unfold f111.b'
  repeat' (first | (with_reducible refine cond_nat ?_ ?_) | (with_reducible refine bind_nat fun _ => ?_) | rfl)
theorem f111.b_nat {R R' : Type} (j : R → Option R') (L N : Nat) (k : Bool → Option R) (x0 : (List Int)) :
    f111.b L N (fun a0 => (k a0).bind j) x0 = (f111.b L N k x0).bind j := by
  unfold f111.b
  exact f111.b'_nat ..
theorem f111.ok (L N : Nat) (hΦ : TellsOk Try.prog ((Φ138_1 L N))) : EntOk Try.prog 111 (f111.ent L N) := by
  intro args vw site h
  unfold f111.ent
  split
  · rename_i d ha
    intro y hy hs
    refine call_ro (dep := 1000) (E := (E111 L N)) (rs := (.one .bool)) (v := (.tv .bool y)) (sound_of hΦ) okP (callI_sound (sound_of hΦ) okP 1 2000) (f := Try.f111) rfl hs ha ?_ rfl site
    refine (f111.b_eq L N some d.1).trans ?_
    refine ((f111.b_nat (fun y => (some (.tv .bool y) : Option AV)) L N some d.1)).trans ?_
    rw [show f111.b L N some d.1 = some y from hy]
    rfl
  · intro y hy
    cases hy
def Φ111 (L N : Nat) : Tells := (addT (Φ138_1 L N) 111 (f111.ent L N))
theorem Φ111_ok (L N : Nat) : TellsOk Try.prog (Φ111 L N) := addT_ok (Φ138_1_ok L N) (f111.ok L N (Φ138_1_ok L N))
def f78.b' {R : Type} (L N : Nat) (k : Bool → Option R) (x0 : (List Int)) : Option R :=
  bif (decide ((x0.length : Int) ≤ (20 : Int))) then
    (f111 L N x0).bind fun y0 =>
    k y0
  else k false
def f78.b {R : Type} (L N : Nat) (k : Bool → Option R) (x0 : (List Int)) : Option R :=
  f78.b' L N k x0
def f78 (L N : Nat) (x0 : (List Int)) : Option (Bool) := f78.b L N some x0
def f78.ent (L N : Nat) (args : List AV) (vw : View) (site : Nat) : Ans := match roD [(.sl i64)] vw args with
  | some d => ⟨Bool, f78 L N d.1, fun y => ((.tv .bool y), [], [])⟩
  | none => Ans.no
noncomputable def E78 (L N : Nat) : Env := { P := Try.prog, ty := tyOf, Φ := (Φ111 L N), inl := inlT, live := lives, liveX := livesX, L := L, dp := none, prom := promT, heal := healT, ren := renT }
theorem f78.b_pre {R : Type} (L N : Nat) (κ : AV → Option R) (x0 : (List Int)) :
    evBody (E78 L N) (evCallI (E78 L N) 1 2000) 1000 78 Try.f78 [(.tv (.sl i64) x0)] [] [] (finC (.one .bool) κ)
    = f78.b' L N (fun a0 => κ (.tv .bool a0)) x0 := by kernel_rfl
theorem f78.b_eq {R : Type} (L N : Nat) (κ : AV → Option R) (x0 : (List Int)) :
    evBody (E78 L N) (evCallI (E78 L N) 1 2000) 1000 78 Try.f78 [(.tv (.sl i64) x0)] [] [] (finC (.one .bool) κ)
    = f78.b L N (fun a0 => κ (.tv .bool a0)) x0 := by
  rw [f78.b_pre]
  unfold f78.b
  rfl
theorem f78.b'_nat {R R' : Type} (j : R → Option R') (L N : Nat) (k : Bool → Option R) (x0 : (List Int)) :
    f78.b' L N (fun a0 => (k a0).bind j) x0 = (f78.b' L N k x0).bind j := by
  unfold f78.b'
  repeat' (first | (with_reducible refine cond_nat ?_ ?_) | (with_reducible refine bind_nat fun _ => ?_) | rfl)
theorem f78.b_nat {R R' : Type} (j : R → Option R') (L N : Nat) (k : Bool → Option R) (x0 : (List Int)) :
    f78.b L N (fun a0 => (k a0).bind j) x0 = (f78.b L N k x0).bind j := by
  unfold f78.b
  exact f78.b'_nat ..
theorem f78.ok (L N : Nat) (hΦ : TellsOk Try.prog ((Φ111 L N))) : EntOk Try.prog 78 (f78.ent L N) := by
  intro args vw site h
  unfold f78.ent
  split
  · rename_i d ha
    intro y hy hs
    refine call_ro (dep := 1000) (E := (E78 L N)) (rs := (.one .bool)) (v := (.tv .bool y)) (sound_of hΦ) okP (callI_sound (sound_of hΦ) okP 1 2000) (f := Try.f78) rfl hs ha ?_ rfl site
    refine (f78.b_eq L N some d.1).trans ?_
    refine ((f78.b_nat (fun y => (some (.tv .bool y) : Option AV)) L N some d.1)).trans ?_
    rw [show f78.b L N some d.1 = some y from hy]
    rfl
  · intro y hy
    cases hy
def Φ78 (L N : Nat) : Tells := (addT (Φ111 L N) 78 (f78.ent L N))
theorem Φ78_ok (L N : Nat) : TellsOk Try.prog (Φ78 L N) := addT_ok (Φ111_ok L N) (f78.ok L N (Φ111_ok L N))
def f112.s0' {R : Type} (L N : Nat) (k0_e0 : (List (List Move)) → (List Bool) → (List Int) → Option R) (rec0 : (List Int) → Int → Int → (List (List Move)) → (List Bool) → (List Int) → Option R) (s0 : (List Int)) (s1 : Int) (s2 : Int) (s3 : (List (List Move))) (s4 : (List Bool)) (s5 : (List Int)) : Option R :=
  bif (decide (s2 < s1)) then
    bif (decide (0 ≤ s2) && decide (s2 < (s0.length : Int))) then
      bif (decide (0 ≤ (listAt s0 (0 : Int) s2.toNat)) && decide ((listAt s0 (0 : Int) s2.toNat) < (s4.length : Int))) then
        bif (!(listAt s4 false (listAt s0 (0 : Int) s2.toNat).toNat)) then
          bif (decide (0 ≤ (listAt s0 (0 : Int) s2.toNat)) && decide ((listAt s0 (0 : Int) s2.toNat) < (s4.length : Int))) then
            bif (decide (s5.length + ([(listAt s0 (0 : Int) s2.toNat)] : (List Int)).length ≤ lim)) then
              rec0 s0 s1 (wi (s2 + (1 : Int))) s3 (s4.set ((listAt s0 (0 : Int) s2.toNat).toNat) true) (s5 ++ ([(listAt s0 (0 : Int) s2.toNat)] : (List Int)))
            else none
          else none
        else rec0 s0 s1 (wi (s2 + (1 : Int))) s3 s4 s5
      else none
    else none
  else k0_e0 s3 s4 s5
def f112.s0 {R : Type} (L N : Nat) (k0_e0 : (List (List Move)) → (List Bool) → (List Int) → Option R) (rec0 : (List Int) → Int → Int → (List (List Move)) → (List Bool) → (List Int) → Option R) (s0 : (List Int)) (s1 : Int) (s2 : Int) (s3 : (List (List Move))) (s4 : (List Bool)) (s5 : (List Int)) : Option R :=
  f112.s0' L N k0_e0 rec0 s0 s1 s2 s3 s4 s5
def f112.l0 {R : Type} (L N : Nat) (k0_e0 : (List (List Move)) → (List Bool) → (List Int) → Option R) : Nat → (List Int) → Int → Int → (List (List Move)) → (List Bool) → (List Int) → Option R
  | 0, _, _, _, _, _, _ => none
  | n + 1, s0, s1, s2, s3, s4, s5 => f112.s0 L N k0_e0 (f112.l0 L N k0_e0 n) s0 s1 s2 s3 s4 s5
def f112.T0 (s0 : (List Int)) (s1 : Int) (s2 : Int) (s3 : (List (List Move))) (s4 : (List Bool)) (s5 : (List Int)) : T := mkT 79 [(2, (.ptr 1002 0)), (5, (.row 1015)), (6, (.row 1016)), (17, (.tv (.sl i64) s0)), (18, (.tv i64 s1)), (19, (.tv i64 s2))]
def f112.H0 (s0 : (List Int)) (s1 : Int) (s2 : Int) (s3 : (List (List Move))) (s4 : (List Bool)) (s5 : (List Int)) : H := [(1002, (.box [(.tv (.sl (.sl (.st 0))) s3)])), (1015, (.row 4 .bool s4)), (1016, (.row 3 i64 s5))]
def f112.T0_e0 (z6 : (List (List Move))) (z7 : (List Bool)) (z8 : (List Int)) : T := mkT 79 [(2, (.ptr 1002 0)), (5, (.row 1015)), (6, (.row 1016))]
def f112.H0_e0 (z6 : (List (List Move))) (z7 : (List Bool)) (z8 : (List Int)) : H := [(1002, (.box [(.tv (.sl (.sl (.st 0))) z6)])), (1015, (.row 4 .bool z7)), (1016, (.row 3 i64 z8))]
def f112.j0' {R : Type} (L N : Nat) (k2_e4 : Int → (List (List Move)) → (List Bool) → (List Int) → Option R) (rec2 : Int → (List Move) → Int → Int → (List (List Move)) → (List Bool) → (List Int) → Option R) (v31 : Int) (v32 : (List Move)) (v33 : Int) (v34 : Int) (v35 : Bool) (v36 : (List (List Move))) (v37 : Int) (v38 : Int) (v39 : (List Bool)) (v40 : (List Int)) : Option R :=
  bif v35 then
    bif (decide (0 ≤ v38) && decide (v38 < (v39.length : Int))) then
      bif (decide (v40.length + ([v38] : (List Int)).length ≤ lim)) then
        rec2 v31 v32 v33 (wi (v34 + (1 : Int))) v36 (v39.set v38.toNat true) (v40 ++ ([v38] : (List Int)))
      else none
    else none
  else rec2 v31 v32 v33 (wi (v34 + (1 : Int))) v36 v39 v40
def f112.s2' {R : Type} (L N : Nat) (k2_e4 : Int → (List (List Move)) → (List Bool) → (List Int) → Option R) (rec2 : Int → (List Move) → Int → Int → (List (List Move)) → (List Bool) → (List Int) → Option R) (s20 : Int) (s21 : (List Move)) (s22 : Int) (s23 : Int) (s24 : (List (List Move))) (s25 : (List Bool)) (s26 : (List Int)) : Option R :=
  bif (decide (s23 < s22)) then
    bif (decide (0 ≤ s23) && decide (s23 < (s21.length : Int))) then
      bif ((listAt s21 (Ty.dflt (.st 0)) s23.toNat).act == (0 : Int)) then
        bif (decide (0 ≤ (listAt s21 (Ty.dflt (.st 0)) s23.toNat).to) && decide ((listAt s21 (Ty.dflt (.st 0)) s23.toNat).to < (s25.length : Int))) then
          f112.j0' L N k2_e4 rec2 s20 s21 s22 s23 (!(listAt s25 false ((listAt s21 (Ty.dflt (.st 0)) s23.toNat).to).toNat)) s24 ((listAt s21 (Ty.dflt (.st 0)) s23.toNat).act) ((listAt s21 (Ty.dflt (.st 0)) s23.toNat).to) s25 s26
        else none
      else f112.j0' L N k2_e4 rec2 s20 s21 s22 s23 false s24 ((listAt s21 (Ty.dflt (.st 0)) s23.toNat).act) ((listAt s21 (Ty.dflt (.st 0)) s23.toNat).to) s25 s26
    else none
  else k2_e4 s20 s24 s25 s26
def f112.s2 {R : Type} (L N : Nat) (k2_e4 : Int → (List (List Move)) → (List Bool) → (List Int) → Option R) (rec2 : Int → (List Move) → Int → Int → (List (List Move)) → (List Bool) → (List Int) → Option R) (s20 : Int) (s21 : (List Move)) (s22 : Int) (s23 : Int) (s24 : (List (List Move))) (s25 : (List Bool)) (s26 : (List Int)) : Option R :=
  f112.s2' L N k2_e4 rec2 s20 s21 s22 s23 s24 s25 s26
def f112.l2 {R : Type} (L N : Nat) (k2_e4 : Int → (List (List Move)) → (List Bool) → (List Int) → Option R) : Nat → Int → (List Move) → Int → Int → (List (List Move)) → (List Bool) → (List Int) → Option R
  | 0, _, _, _, _, _, _, _ => none
  | n + 1, s20, s21, s22, s23, s24, s25, s26 => f112.s2 L N k2_e4 (f112.l2 L N k2_e4 n) s20 s21 s22 s23 s24 s25 s26
def f112.T2 (s20 : Int) (s21 : (List Move)) (s22 : Int) (s23 : Int) (s24 : (List (List Move))) (s25 : (List Bool)) (s26 : (List Int)) : T := mkT 79 [(2, (.ptr 1002 0)), (5, (.row 1015)), (6, (.row 1016)), (9, (.tv i64 s20)), (49, (.tv (.sl (.st 0)) s21)), (50, (.tv i64 s22)), (51, (.tv i64 s23))]
def f112.H2 (s20 : Int) (s21 : (List Move)) (s22 : Int) (s23 : Int) (s24 : (List (List Move))) (s25 : (List Bool)) (s26 : (List Int)) : H := [(1002, (.box [(.tv (.sl (.sl (.st 0))) s24)])), (1015, (.row 4 .bool s25)), (1016, (.row 3 i64 s26))]
def f112.T2_e4 (z27 : Int) (z28 : (List (List Move))) (z29 : (List Bool)) (z30 : (List Int)) : T := mkT 79 [(2, (.ptr 1002 0)), (5, (.row 1015)), (6, (.row 1016)), (9, (.tv i64 z27))]
def f112.H2_e4 (z27 : Int) (z28 : (List (List Move))) (z29 : (List Bool)) (z30 : (List Int)) : H := [(1002, (.box [(.tv (.sl (.sl (.st 0))) z28)])), (1015, (.row 4 .bool z29)), (1016, (.row 3 i64 z30))]
def f112.p2_e4' {R : Type} (L N : Nat) (k1_e2 : (List Int) → Option R) (rec1 : Int → (List (List Move)) → (List Bool) → (List Int) → Option R) (z27 : Int) (z28 : (List (List Move))) (z29 : (List Bool)) (z30 : (List Int)) : Option R :=
  rec1 (wi (z27 + (1 : Int))) z28 z29 z30
def f112.p2_e4 {R : Type} (L N : Nat) (k1_e2 : (List Int) → Option R) (rec1 : Int → (List (List Move)) → (List Bool) → (List Int) → Option R) (z27 : Int) (z28 : (List (List Move))) (z29 : (List Bool)) (z30 : (List Int)) : Option R :=
  f112.p2_e4' L N k1_e2 rec1 z27 z28 z29 z30
def f112.s1' {R : Type} (L N : Nat) (k1_e2 : (List Int) → Option R) (rec1 : Int → (List (List Move)) → (List Bool) → (List Int) → Option R) (w2 : Int → (List Move) → Int → Int → (List (List Move)) → (List Bool) → (List Int) → Option R) (s15 : Int) (s16 : (List (List Move))) (s17 : (List Bool)) (s18 : (List Int)) : Option R :=
  bif (decide (s15 < (s18.length : Int))) then
    bif (decide (0 ≤ s15) && decide (s15 < (s18.length : Int))) then
      bif (decide (0 ≤ (listAt s18 (0 : Int) s15.toNat)) && decide ((listAt s18 (0 : Int) s15.toNat) < (s16.length : Int))) then
        w2 s15 (listAt s16 [] (listAt s18 (0 : Int) s15.toNat).toNat) ((listAt s16 [] (listAt s18 (0 : Int) s15.toNat).toNat).length : Int) (0 : Int) s16 s17 s18
      else none
    else none
  else k1_e2 s18
def f112.s1 {R : Type} (L N : Nat) (k1_e2 : (List Int) → Option R) (rec1 : Int → (List (List Move)) → (List Bool) → (List Int) → Option R) (s15 : Int) (s16 : (List (List Move))) (s17 : (List Bool)) (s18 : (List Int)) : Option R :=
  f112.s1' L N k1_e2 rec1 (fun s20 s21 s22 s23 s24 s25 s26 => f112.l2 L N (fun z27 z28 z29 z30 => f112.p2_e4 L N k1_e2 rec1 z27 z28 z29 z30) L s20 s21 s22 s23 s24 s25 s26) s15 s16 s17 s18
def f112.l1 {R : Type} (L N : Nat) (k1_e2 : (List Int) → Option R) : Nat → Int → (List (List Move)) → (List Bool) → (List Int) → Option R
  | 0, _, _, _, _ => none
  | n + 1, s15, s16, s17, s18 => f112.s1 L N k1_e2 (f112.l1 L N k1_e2 n) s15 s16 s17 s18
def f112.T1 (s15 : Int) (s16 : (List (List Move))) (s17 : (List Bool)) (s18 : (List Int)) : T := mkT 79 [(2, (.ptr 1002 0)), (5, (.row 1015)), (6, (.row 1016)), (9, (.tv i64 s15))]
def f112.H1 (s15 : Int) (s16 : (List (List Move))) (s17 : (List Bool)) (s18 : (List Int)) : H := [(1002, (.box [(.tv (.sl (.sl (.st 0))) s16)])), (1015, (.row 4 .bool s17)), (1016, (.row 3 i64 s18))]
def f112.T1_e2 (z19 : (List Int)) : T := mkT 79 [(6, (.row 1016))]
def f112.H1_e2 (z19 : (List Int)) : H := [(1016, (.row 3 i64 z19))]
def f112.p1_e2' {R : Type} (L N : Nat) (k : (List Int) → Option R) (z19 : (List Int)) : Option R :=
  ((fsort z19)).bind fun y48 =>
  k (sortI z19)
def f112.p1_e2 {R : Type} (L N : Nat) (k : (List Int) → Option R) (z19 : (List Int)) : Option R :=
  f112.p1_e2' L N k z19
def f112.p0_e0' {R : Type} (L N : Nat) (k : (List Int) → Option R) (w1 : Int → (List (List Move)) → (List Bool) → (List Int) → Option R) (z6 : (List (List Move))) (z7 : (List Bool)) (z8 : (List Int)) : Option R :=
  w1 (0 : Int) z6 z7 z8
def f112.p0_e0 {R : Type} (L N : Nat) (k : (List Int) → Option R) (z6 : (List (List Move))) (z7 : (List Bool)) (z8 : (List Int)) : Option R :=
  f112.p0_e0' L N k (fun s15 s16 s17 s18 => f112.l1 L N (fun z19 => f112.p1_e2 L N k z19) L s15 s16 s17 s18) z6 z7 z8
def f112.b' {R : Type} (L N : Nat) (k : (List Int) → Option R) (w0 : (List Int) → Int → Int → (List (List Move)) → (List Bool) → (List Int) → Option R) (x0 : Graph) (x1 : (List Int)) : Option R :=
  bif (decide (0 ≤ (x0.moves.length : Int)) && decide ((x0.moves.length : Int) ≤ (lim : Int))) then
    w0 x1 (x1.length : Int) (0 : Int) x0.moves (List.replicate (x0.moves.length : Int).toNat false) ([] : (List Int))
  else none
def f112.b {R : Type} (L N : Nat) (k : (List Int) → Option R) (x0 : Graph) (x1 : (List Int)) : Option R :=
  f112.b' L N k (fun s0 s1 s2 s3 s4 s5 => f112.l0 L N (fun z6 z7 z8 => f112.p0_e0 L N k z6 z7 z8) L s0 s1 s2 s3 s4 s5) x0 x1
def f112 (L N : Nat) (x0 : Graph) (x1 : (List Int)) : Option ((List Int)) := f112.b L N some x0 x1
def f112.ent (L N : Nat) (args : List AV) (vw : View) (site : Nat) : Ans := match roD [(.st 2), (.sl i64)] vw args with
  | some d => ⟨(List Int), f112 L N d.1 d.2.1, fun y => (RN.av site .row (), [(site, some (mkO none 3 i64 y))], [])⟩
  | none => Ans.no
noncomputable def E112 (L N : Nat) : Env := { P := Try.prog, ty := tyOf, Φ := (Φ78 L N), inl := inlT, live := lives, liveX := livesX, L := L, dp := none, prom := promT, heal := healT, ren := renT }
noncomputable def f112.c0 : Code := loopAt 0 (codeOf Try.f112)
theorem f112.s0_pre {R : Type} (L N : Nat) (κ : Ex → T → H → Option R) (rec : T → H → Option R) (s0 : (List Int)) (s1 : Int) (s2 : Int) (s3 : (List (List Move))) (s4 : (List Bool)) (s5 : (List Int)) :
    evRd (E112 L N) (evCallI (E112 L N) 1 2000) 1000 112 79 0 f112.c0 κ rec (f112.T0 s0 s1 s2 s3 s4 s5) (f112.H0 s0 s1 s2 s3 s4 s5)
    = f112.s0' L N (fun z6 z7 z8 => κ (.exit 0) (f112.T0_e0 z6 z7 z8) (f112.H0_e0 z6 z7 z8)) (fun s0 s1 s2 s3 s4 s5 => rec (f112.T0 s0 s1 s2 s3 s4 s5) (f112.H0 s0 s1 s2 s3 s4 s5)) s0 s1 s2 s3 s4 s5 := by kernel_rfl
theorem f112.s0_eq {R : Type} (L N : Nat) (κ : Ex → T → H → Option R) (rec : T → H → Option R) (s0 : (List Int)) (s1 : Int) (s2 : Int) (s3 : (List (List Move))) (s4 : (List Bool)) (s5 : (List Int)) :
    evRd (E112 L N) (evCallI (E112 L N) 1 2000) 1000 112 79 0 f112.c0 κ rec (f112.T0 s0 s1 s2 s3 s4 s5) (f112.H0 s0 s1 s2 s3 s4 s5)
    = f112.s0 L N (fun z6 z7 z8 => κ (.exit 0) (f112.T0_e0 z6 z7 z8) (f112.H0_e0 z6 z7 z8)) (fun s0 s1 s2 s3 s4 s5 => rec (f112.T0 s0 s1 s2 s3 s4 s5) (f112.H0 s0 s1 s2 s3 s4 s5)) s0 s1 s2 s3 s4 s5 := by
  rw [f112.s0_pre]
  unfold f112.s0
  rfl
theorem f112.l0_eq {R : Type} (L N : Nat) (κ : Ex → T → H → Option R) : ∀ (n : Nat) (s0 : (List Int)) (s1 : Int) (s2 : Int) (s3 : (List (List Move))) (s4 : (List Bool)) (s5 : (List Int)),
    evLp (E112 L N) (evCallI (E112 L N) 1 2000) 1000 112 79 0 f112.c0 κ n (f112.T0 s0 s1 s2 s3 s4 s5) (f112.H0 s0 s1 s2 s3 s4 s5)
    = f112.l0 L N (fun z6 z7 z8 => κ (.exit 0) (f112.T0_e0 z6 z7 z8) (f112.H0_e0 z6 z7 z8)) n s0 s1 s2 s3 s4 s5 := by
  intro n
  induction n with
  | zero => intros; rfl
  | succ n ih =>
    intro s0 s1 s2 s3 s4 s5
    rw [evLp_succ, f112.s0_eq]
    simp only [ih]
    rfl
noncomputable def f112.c1 : Code := loopAt 2 (codeOf Try.f112)
noncomputable def f112.c2 : Code := loopAt 4 f112.c1
theorem f112.s2_pre {R : Type} (L N : Nat) (κ : Ex → T → H → Option R) (rec : T → H → Option R) (s20 : Int) (s21 : (List Move)) (s22 : Int) (s23 : Int) (s24 : (List (List Move))) (s25 : (List Bool)) (s26 : (List Int)) :
    evRd (E112 L N) (evCallI (E112 L N) 1 2000) 1000 112 79 4 f112.c2 κ rec (f112.T2 s20 s21 s22 s23 s24 s25 s26) (f112.H2 s20 s21 s22 s23 s24 s25 s26)
    = f112.s2' L N (fun z27 z28 z29 z30 => κ (.exit 4) (f112.T2_e4 z27 z28 z29 z30) (f112.H2_e4 z27 z28 z29 z30)) (fun s20 s21 s22 s23 s24 s25 s26 => rec (f112.T2 s20 s21 s22 s23 s24 s25 s26) (f112.H2 s20 s21 s22 s23 s24 s25 s26)) s20 s21 s22 s23 s24 s25 s26 := by kernel_rfl
theorem f112.s2_eq {R : Type} (L N : Nat) (κ : Ex → T → H → Option R) (rec : T → H → Option R) (s20 : Int) (s21 : (List Move)) (s22 : Int) (s23 : Int) (s24 : (List (List Move))) (s25 : (List Bool)) (s26 : (List Int)) :
    evRd (E112 L N) (evCallI (E112 L N) 1 2000) 1000 112 79 4 f112.c2 κ rec (f112.T2 s20 s21 s22 s23 s24 s25 s26) (f112.H2 s20 s21 s22 s23 s24 s25 s26)
    = f112.s2 L N (fun z27 z28 z29 z30 => κ (.exit 4) (f112.T2_e4 z27 z28 z29 z30) (f112.H2_e4 z27 z28 z29 z30)) (fun s20 s21 s22 s23 s24 s25 s26 => rec (f112.T2 s20 s21 s22 s23 s24 s25 s26) (f112.H2 s20 s21 s22 s23 s24 s25 s26)) s20 s21 s22 s23 s24 s25 s26 := by
  rw [f112.s2_pre]
  unfold f112.s2
  rfl
theorem f112.l2_eq {R : Type} (L N : Nat) (κ : Ex → T → H → Option R) : ∀ (n : Nat) (s20 : Int) (s21 : (List Move)) (s22 : Int) (s23 : Int) (s24 : (List (List Move))) (s25 : (List Bool)) (s26 : (List Int)),
    evLp (E112 L N) (evCallI (E112 L N) 1 2000) 1000 112 79 4 f112.c2 κ n (f112.T2 s20 s21 s22 s23 s24 s25 s26) (f112.H2 s20 s21 s22 s23 s24 s25 s26)
    = f112.l2 L N (fun z27 z28 z29 z30 => κ (.exit 4) (f112.T2_e4 z27 z28 z29 z30) (f112.H2_e4 z27 z28 z29 z30)) n s20 s21 s22 s23 s24 s25 s26 := by
  intro n
  induction n with
  | zero => intros; rfl
  | succ n ih =>
    intro s20 s21 s22 s23 s24 s25 s26
    rw [evLp_succ, f112.s2_eq]
    simp only [ih]
    rfl
theorem f112.p2_e4_pre {R : Type} (L N : Nat) (κ : Ex → T → H → Option R) (rec : T → H → Option R) (z27 : Int) (z28 : (List (List Move))) (z29 : (List Bool)) (z30 : (List Int)) :
    (contAt (E112 L N) (evCallI (E112 L N) 1 2000) 1000 112 79 4 f112.c1 (stepK (outK (keepT 79 ((E112 L N).liveX 112 2).1) (keepH 1000 ((E112 L N).liveX 112 2).2) κ) fun t h => rec (backK 1000 79 ((E112 L N).live 112 2).1 ((E112 L N).live 112 2).2 ((E112 L N).heal 112 2) ((E112 L N).ren 112 2) t h).1 (backK 1000 79 ((E112 L N).live 112 2).1 ((E112 L N).live 112 2).2 ((E112 L N).heal 112 2) ((E112 L N).ren 112 2) t h).2)) (.exit 4) (f112.T2_e4 z27 z28 z29 z30) (f112.H2_e4 z27 z28 z29 z30)
    = f112.p2_e4' L N (fun z19 => κ (.exit 2) (f112.T1_e2 z19) (f112.H1_e2 z19)) (fun s15 s16 s17 s18 => rec (f112.T1 s15 s16 s17 s18) (f112.H1 s15 s16 s17 s18)) z27 z28 z29 z30 := by kernel_rfl
theorem f112.p2_e4_eq {R : Type} (L N : Nat) (κ : Ex → T → H → Option R) (rec : T → H → Option R) (z27 : Int) (z28 : (List (List Move))) (z29 : (List Bool)) (z30 : (List Int)) :
    (contAt (E112 L N) (evCallI (E112 L N) 1 2000) 1000 112 79 4 f112.c1 (stepK (outK (keepT 79 ((E112 L N).liveX 112 2).1) (keepH 1000 ((E112 L N).liveX 112 2).2) κ) fun t h => rec (backK 1000 79 ((E112 L N).live 112 2).1 ((E112 L N).live 112 2).2 ((E112 L N).heal 112 2) ((E112 L N).ren 112 2) t h).1 (backK 1000 79 ((E112 L N).live 112 2).1 ((E112 L N).live 112 2).2 ((E112 L N).heal 112 2) ((E112 L N).ren 112 2) t h).2)) (.exit 4) (f112.T2_e4 z27 z28 z29 z30) (f112.H2_e4 z27 z28 z29 z30)
    = f112.p2_e4 L N (fun z19 => κ (.exit 2) (f112.T1_e2 z19) (f112.H1_e2 z19)) (fun s15 s16 s17 s18 => rec (f112.T1 s15 s16 s17 s18) (f112.H1 s15 s16 s17 s18)) z27 z28 z29 z30 := by
  rw [f112.p2_e4_pre]
  unfold f112.p2_e4
  rfl
theorem f112.s1_pre {R : Type} (L N : Nat) (κ : Ex → T → H → Option R) (rec : T → H → Option R) (s15 : Int) (s16 : (List (List Move))) (s17 : (List Bool)) (s18 : (List Int)) :
    evRd (E112 L N) (evCallI (E112 L N) 1 2000) 1000 112 79 2 f112.c1 κ rec (f112.T1 s15 s16 s17 s18) (f112.H1 s15 s16 s17 s18)
    = f112.s1' L N (fun z19 => κ (.exit 2) (f112.T1_e2 z19) (f112.H1_e2 z19)) (fun s15 s16 s17 s18 => rec (f112.T1 s15 s16 s17 s18) (f112.H1 s15 s16 s17 s18)) (fun s20 s21 s22 s23 s24 s25 s26 => evLp (E112 L N) (evCallI (E112 L N) 1 2000) 1000 112 79 4 f112.c2 (contAt (E112 L N) (evCallI (E112 L N) 1 2000) 1000 112 79 4 f112.c1 (stepK (outK (keepT 79 ((E112 L N).liveX 112 2).1) (keepH 1000 ((E112 L N).liveX 112 2).2) κ) fun t h => rec (backK 1000 79 ((E112 L N).live 112 2).1 ((E112 L N).live 112 2).2 ((E112 L N).heal 112 2) ((E112 L N).ren 112 2) t h).1 (backK 1000 79 ((E112 L N).live 112 2).1 ((E112 L N).live 112 2).2 ((E112 L N).heal 112 2) ((E112 L N).ren 112 2) t h).2)) L (f112.T2 s20 s21 s22 s23 s24 s25 s26) (f112.H2 s20 s21 s22 s23 s24 s25 s26)) s15 s16 s17 s18 := by kernel_rfl
theorem f112.s1_eq {R : Type} (L N : Nat) (κ : Ex → T → H → Option R) (rec : T → H → Option R) (s15 : Int) (s16 : (List (List Move))) (s17 : (List Bool)) (s18 : (List Int)) :
    evRd (E112 L N) (evCallI (E112 L N) 1 2000) 1000 112 79 2 f112.c1 κ rec (f112.T1 s15 s16 s17 s18) (f112.H1 s15 s16 s17 s18)
    = f112.s1 L N (fun z19 => κ (.exit 2) (f112.T1_e2 z19) (f112.H1_e2 z19)) (fun s15 s16 s17 s18 => rec (f112.T1 s15 s16 s17 s18) (f112.H1 s15 s16 s17 s18)) s15 s16 s17 s18 := by
  rw [f112.s1_pre]
  unfold f112.s1
  simp only [f112.l2_eq, f112.p2_e4_eq]
theorem f112.l1_eq {R : Type} (L N : Nat) (κ : Ex → T → H → Option R) : ∀ (n : Nat) (s15 : Int) (s16 : (List (List Move))) (s17 : (List Bool)) (s18 : (List Int)),
    evLp (E112 L N) (evCallI (E112 L N) 1 2000) 1000 112 79 2 f112.c1 κ n (f112.T1 s15 s16 s17 s18) (f112.H1 s15 s16 s17 s18)
    = f112.l1 L N (fun z19 => κ (.exit 2) (f112.T1_e2 z19) (f112.H1_e2 z19)) n s15 s16 s17 s18 := by
  intro n
  induction n with
  | zero => intros; rfl
  | succ n ih =>
    intro s15 s16 s17 s18
    rw [evLp_succ, f112.s1_eq]
    simp only [ih]
    rfl
theorem f112.p1_e2_pre {R : Type} (L N : Nat) (κ : RN.Den .row → List Int → Option R) (z19 : (List Int)) :
    (contAt (E112 L N) (evCallI (E112 L N) 1 2000) 1000 112 79 2 (codeOf Try.f112) (finK (E112 L N) 1000 Try.f112 (finN .row none 3 i64 κ))) (.exit 2) (f112.T1_e2 z19) (f112.H1_e2 z19)
    = f112.p1_e2' L N (fun a0 => κ () a0) z19 := by kernel_rfl
theorem f112.p1_e2_eq {R : Type} (L N : Nat) (κ : RN.Den .row → List Int → Option R) (z19 : (List Int)) :
    (contAt (E112 L N) (evCallI (E112 L N) 1 2000) 1000 112 79 2 (codeOf Try.f112) (finK (E112 L N) 1000 Try.f112 (finN .row none 3 i64 κ))) (.exit 2) (f112.T1_e2 z19) (f112.H1_e2 z19)
    = f112.p1_e2 L N (fun a0 => κ () a0) z19 := by
  rw [f112.p1_e2_pre]
  unfold f112.p1_e2
  rfl
theorem f112.p0_e0_pre {R : Type} (L N : Nat) (κ : RN.Den .row → List Int → Option R) (z6 : (List (List Move))) (z7 : (List Bool)) (z8 : (List Int)) :
    (contAt (E112 L N) (evCallI (E112 L N) 1 2000) 1000 112 79 0 (codeOf Try.f112) (finK (E112 L N) 1000 Try.f112 (finN .row none 3 i64 κ))) (.exit 0) (f112.T0_e0 z6 z7 z8) (f112.H0_e0 z6 z7 z8)
    = f112.p0_e0' L N (fun a0 => κ () a0) (fun s15 s16 s17 s18 => evLp (E112 L N) (evCallI (E112 L N) 1 2000) 1000 112 79 2 f112.c1 (contAt (E112 L N) (evCallI (E112 L N) 1 2000) 1000 112 79 2 (codeOf Try.f112) (finK (E112 L N) 1000 Try.f112 (finN .row none 3 i64 κ))) L (f112.T1 s15 s16 s17 s18) (f112.H1 s15 s16 s17 s18)) z6 z7 z8 := by kernel_rfl
theorem f112.p0_e0_eq {R : Type} (L N : Nat) (κ : RN.Den .row → List Int → Option R) (z6 : (List (List Move))) (z7 : (List Bool)) (z8 : (List Int)) :
    (contAt (E112 L N) (evCallI (E112 L N) 1 2000) 1000 112 79 0 (codeOf Try.f112) (finK (E112 L N) 1000 Try.f112 (finN .row none 3 i64 κ))) (.exit 0) (f112.T0_e0 z6 z7 z8) (f112.H0_e0 z6 z7 z8)
    = f112.p0_e0 L N (fun a0 => κ () a0) z6 z7 z8 := by
  rw [f112.p0_e0_pre]
  unfold f112.p0_e0
  simp only [f112.l1_eq, f112.p1_e2_eq]
theorem f112.b_pre {R : Type} (L N : Nat) (κ : RN.Den .row → List Int → Option R) (x0 : Graph) (x1 : (List Int)) :
    evBody (E112 L N) (evCallI (E112 L N) 1 2000) 1000 112 Try.f112 [(.tv (.st 2) x0), (.tv (.sl i64) x1)] [] [] (finN .row none 3 i64 κ)
    = f112.b' L N (fun a0 => κ () a0) (fun s0 s1 s2 s3 s4 s5 => evLp (E112 L N) (evCallI (E112 L N) 1 2000) 1000 112 79 0 f112.c0 (contAt (E112 L N) (evCallI (E112 L N) 1 2000) 1000 112 79 0 (codeOf Try.f112) (finK (E112 L N) 1000 Try.f112 (finN .row none 3 i64 κ))) L (f112.T0 s0 s1 s2 s3 s4 s5) (f112.H0 s0 s1 s2 s3 s4 s5)) x0 x1 := by kernel_rfl
theorem f112.b_eq {R : Type} (L N : Nat) (κ : RN.Den .row → List Int → Option R) (x0 : Graph) (x1 : (List Int)) :
    evBody (E112 L N) (evCallI (E112 L N) 1 2000) 1000 112 Try.f112 [(.tv (.st 2) x0), (.tv (.sl i64) x1)] [] [] (finN .row none 3 i64 κ)
    = f112.b L N (fun a0 => κ () a0) x0 x1 := by
  rw [f112.b_pre]
  unfold f112.b
  simp only [f112.l0_eq, f112.p0_e0_eq]
theorem f112.s0'_nat {R R' : Type} (j : R → Option R') (L N : Nat) (k0_e0 : (List (List Move)) → (List Bool) → (List Int) → Option R) (rec0 : (List Int) → Int → Int → (List (List Move)) → (List Bool) → (List Int) → Option R) (s0 : (List Int)) (s1 : Int) (s2 : Int) (s3 : (List (List Move))) (s4 : (List Bool)) (s5 : (List Int)) :
    f112.s0' L N (fun a0 a1 a2 => (k0_e0 a0 a1 a2).bind j) (fun a0 a1 a2 a3 a4 a5 => (rec0 a0 a1 a2 a3 a4 a5).bind j) s0 s1 s2 s3 s4 s5 = (f112.s0' L N k0_e0 rec0 s0 s1 s2 s3 s4 s5).bind j := by
  unfold f112.s0'
  repeat' (first | (with_reducible refine cond_nat ?_ ?_) | (with_reducible refine bind_nat fun _ => ?_) | rfl)
theorem f112.s0_nat {R R' : Type} (j : R → Option R') (L N : Nat) (k0_e0 : (List (List Move)) → (List Bool) → (List Int) → Option R) (rec0 : (List Int) → Int → Int → (List (List Move)) → (List Bool) → (List Int) → Option R) (s0 : (List Int)) (s1 : Int) (s2 : Int) (s3 : (List (List Move))) (s4 : (List Bool)) (s5 : (List Int)) :
    f112.s0 L N (fun a0 a1 a2 => (k0_e0 a0 a1 a2).bind j) (fun a0 a1 a2 a3 a4 a5 => (rec0 a0 a1 a2 a3 a4 a5).bind j) s0 s1 s2 s3 s4 s5 = (f112.s0 L N k0_e0 rec0 s0 s1 s2 s3 s4 s5).bind j := by
  unfold f112.s0
  exact f112.s0'_nat ..
theorem f112.l0_nat {R R' : Type} (j : R → Option R') (L N : Nat) (k0_e0 : (List (List Move)) → (List Bool) → (List Int) → Option R) : ∀ (n : Nat) (s0 : (List Int)) (s1 : Int) (s2 : Int) (s3 : (List (List Move))) (s4 : (List Bool)) (s5 : (List Int)),
    f112.l0 L N (fun a0 a1 a2 => (k0_e0 a0 a1 a2).bind j) n s0 s1 s2 s3 s4 s5 = (f112.l0 L N k0_e0 n s0 s1 s2 s3 s4 s5).bind j := by
  intro n
  induction n with
  | zero => intros; rfl
  | succ n ih =>
    intro s0 s1 s2 s3 s4 s5
    show f112.s0 L N (fun a0 a1 a2 => (k0_e0 a0 a1 a2).bind j) (f112.l0 L N (fun a0 a1 a2 => (k0_e0 a0 a1 a2).bind j) n) s0 s1 s2 s3 s4 s5 = _
    rw [show f112.l0 L N (fun a0 a1 a2 => (k0_e0 a0 a1 a2).bind j) n = (fun s0 s1 s2 s3 s4 s5 => (f112.l0 L N k0_e0 n s0 s1 s2 s3 s4 s5).bind j) from funext fun s0 => funext fun s1 => funext fun s2 => funext fun s3 => funext fun s4 => funext fun s5 => ih s0 s1 s2 s3 s4 s5]
    exact f112.s0_nat ..
theorem f112.j0'_nat {R R' : Type} (j : R → Option R') (L N : Nat) (k2_e4 : Int → (List (List Move)) → (List Bool) → (List Int) → Option R) (rec2 : Int → (List Move) → Int → Int → (List (List Move)) → (List Bool) → (List Int) → Option R) (v31 : Int) (v32 : (List Move)) (v33 : Int) (v34 : Int) (v35 : Bool) (v36 : (List (List Move))) (v37 : Int) (v38 : Int) (v39 : (List Bool)) (v40 : (List Int)) :
    f112.j0' L N (fun a0 a1 a2 a3 => (k2_e4 a0 a1 a2 a3).bind j) (fun a0 a1 a2 a3 a4 a5 a6 => (rec2 a0 a1 a2 a3 a4 a5 a6).bind j) v31 v32 v33 v34 v35 v36 v37 v38 v39 v40 = (f112.j0' L N k2_e4 rec2 v31 v32 v33 v34 v35 v36 v37 v38 v39 v40).bind j := by
  unfold f112.j0'
  repeat' (first | (with_reducible refine cond_nat ?_ ?_) | (with_reducible refine bind_nat fun _ => ?_) | rfl)
theorem f112.s2'_nat {R R' : Type} (j : R → Option R') (L N : Nat) (k2_e4 : Int → (List (List Move)) → (List Bool) → (List Int) → Option R) (rec2 : Int → (List Move) → Int → Int → (List (List Move)) → (List Bool) → (List Int) → Option R) (s20 : Int) (s21 : (List Move)) (s22 : Int) (s23 : Int) (s24 : (List (List Move))) (s25 : (List Bool)) (s26 : (List Int)) :
    f112.s2' L N (fun a0 a1 a2 a3 => (k2_e4 a0 a1 a2 a3).bind j) (fun a0 a1 a2 a3 a4 a5 a6 => (rec2 a0 a1 a2 a3 a4 a5 a6).bind j) s20 s21 s22 s23 s24 s25 s26 = (f112.s2' L N k2_e4 rec2 s20 s21 s22 s23 s24 s25 s26).bind j := by
  unfold f112.s2'
  repeat' (first | (with_reducible refine cond_nat ?_ ?_) | (with_reducible refine bind_nat fun _ => ?_) | exact f112.j0'_nat .. | rfl)
theorem f112.s2_nat {R R' : Type} (j : R → Option R') (L N : Nat) (k2_e4 : Int → (List (List Move)) → (List Bool) → (List Int) → Option R) (rec2 : Int → (List Move) → Int → Int → (List (List Move)) → (List Bool) → (List Int) → Option R) (s20 : Int) (s21 : (List Move)) (s22 : Int) (s23 : Int) (s24 : (List (List Move))) (s25 : (List Bool)) (s26 : (List Int)) :
    f112.s2 L N (fun a0 a1 a2 a3 => (k2_e4 a0 a1 a2 a3).bind j) (fun a0 a1 a2 a3 a4 a5 a6 => (rec2 a0 a1 a2 a3 a4 a5 a6).bind j) s20 s21 s22 s23 s24 s25 s26 = (f112.s2 L N k2_e4 rec2 s20 s21 s22 s23 s24 s25 s26).bind j := by
  unfold f112.s2
  exact f112.s2'_nat ..
theorem f112.l2_nat {R R' : Type} (j : R → Option R') (L N : Nat) (k2_e4 : Int → (List (List Move)) → (List Bool) → (List Int) → Option R) : ∀ (n : Nat) (s20 : Int) (s21 : (List Move)) (s22 : Int) (s23 : Int) (s24 : (List (List Move))) (s25 : (List Bool)) (s26 : (List Int)),
    f112.l2 L N (fun a0 a1 a2 a3 => (k2_e4 a0 a1 a2 a3).bind j) n s20 s21 s22 s23 s24 s25 s26 = (f112.l2 L N k2_e4 n s20 s21 s22 s23 s24 s25 s26).bind j := by
  intro n
  induction n with
  | zero => intros; rfl
  | succ n ih =>
    intro s20 s21 s22 s23 s24 s25 s26
    show f112.s2 L N (fun a0 a1 a2 a3 => (k2_e4 a0 a1 a2 a3).bind j) (f112.l2 L N (fun a0 a1 a2 a3 => (k2_e4 a0 a1 a2 a3).bind j) n) s20 s21 s22 s23 s24 s25 s26 = _
    rw [show f112.l2 L N (fun a0 a1 a2 a3 => (k2_e4 a0 a1 a2 a3).bind j) n = (fun s20 s21 s22 s23 s24 s25 s26 => (f112.l2 L N k2_e4 n s20 s21 s22 s23 s24 s25 s26).bind j) from funext fun s20 => funext fun s21 => funext fun s22 => funext fun s23 => funext fun s24 => funext fun s25 => funext fun s26 => ih s20 s21 s22 s23 s24 s25 s26]
    exact f112.s2_nat ..
theorem f112.p2_e4'_nat {R R' : Type} (j : R → Option R') (L N : Nat) (k1_e2 : (List Int) → Option R) (rec1 : Int → (List (List Move)) → (List Bool) → (List Int) → Option R) (z27 : Int) (z28 : (List (List Move))) (z29 : (List Bool)) (z30 : (List Int)) :
    f112.p2_e4' L N (fun a0 => (k1_e2 a0).bind j) (fun a0 a1 a2 a3 => (rec1 a0 a1 a2 a3).bind j) z27 z28 z29 z30 = (f112.p2_e4' L N k1_e2 rec1 z27 z28 z29 z30).bind j := by
  unfold f112.p2_e4'
  repeat' (first | (with_reducible refine cond_nat ?_ ?_) | (with_reducible refine bind_nat fun _ => ?_) | rfl)
theorem f112.p2_e4_nat {R R' : Type} (j : R → Option R') (L N : Nat) (k1_e2 : (List Int) → Option R) (rec1 : Int → (List (List Move)) → (List Bool) → (List Int) → Option R) (z27 : Int) (z28 : (List (List Move))) (z29 : (List Bool)) (z30 : (List Int)) :
    f112.p2_e4 L N (fun a0 => (k1_e2 a0).bind j) (fun a0 a1 a2 a3 => (rec1 a0 a1 a2 a3).bind j) z27 z28 z29 z30 = (f112.p2_e4 L N k1_e2 rec1 z27 z28 z29 z30).bind j := by
  unfold f112.p2_e4
  exact f112.p2_e4'_nat ..
theorem f112.s1'_nat {R R' : Type} (j : R → Option R') (L N : Nat) (k1_e2 : (List Int) → Option R) (rec1 : Int → (List (List Move)) → (List Bool) → (List Int) → Option R) (w2 : Int → (List Move) → Int → Int → (List (List Move)) → (List Bool) → (List Int) → Option R) (s15 : Int) (s16 : (List (List Move))) (s17 : (List Bool)) (s18 : (List Int)) :
    f112.s1' L N (fun a0 => (k1_e2 a0).bind j) (fun a0 a1 a2 a3 => (rec1 a0 a1 a2 a3).bind j) (fun a0 a1 a2 a3 a4 a5 a6 => (w2 a0 a1 a2 a3 a4 a5 a6).bind j) s15 s16 s17 s18 = (f112.s1' L N k1_e2 rec1 w2 s15 s16 s17 s18).bind j := by
  unfold f112.s1'
  repeat' (first | (with_reducible refine cond_nat ?_ ?_) | (with_reducible refine bind_nat fun _ => ?_) | rfl)
theorem f112.s1_nat {R R' : Type} (j : R → Option R') (L N : Nat) (k1_e2 : (List Int) → Option R) (rec1 : Int → (List (List Move)) → (List Bool) → (List Int) → Option R) (s15 : Int) (s16 : (List (List Move))) (s17 : (List Bool)) (s18 : (List Int)) :
    f112.s1 L N (fun a0 => (k1_e2 a0).bind j) (fun a0 a1 a2 a3 => (rec1 a0 a1 a2 a3).bind j) s15 s16 s17 s18 = (f112.s1 L N k1_e2 rec1 s15 s16 s17 s18).bind j := by
  unfold f112.s1
  simp only [f112.l2_nat, f112.p2_e4_nat]
  exact f112.s1'_nat ..
theorem f112.l1_nat {R R' : Type} (j : R → Option R') (L N : Nat) (k1_e2 : (List Int) → Option R) : ∀ (n : Nat) (s15 : Int) (s16 : (List (List Move))) (s17 : (List Bool)) (s18 : (List Int)),
    f112.l1 L N (fun a0 => (k1_e2 a0).bind j) n s15 s16 s17 s18 = (f112.l1 L N k1_e2 n s15 s16 s17 s18).bind j := by
  intro n
  induction n with
  | zero => intros; rfl
  | succ n ih =>
    intro s15 s16 s17 s18
    show f112.s1 L N (fun a0 => (k1_e2 a0).bind j) (f112.l1 L N (fun a0 => (k1_e2 a0).bind j) n) s15 s16 s17 s18 = _
    rw [show f112.l1 L N (fun a0 => (k1_e2 a0).bind j) n = (fun s15 s16 s17 s18 => (f112.l1 L N k1_e2 n s15 s16 s17 s18).bind j) from funext fun s15 => funext fun s16 => funext fun s17 => funext fun s18 => ih s15 s16 s17 s18]
    exact f112.s1_nat ..
theorem f112.p1_e2'_nat {R R' : Type} (j : R → Option R') (L N : Nat) (k : (List Int) → Option R) (z19 : (List Int)) :
    f112.p1_e2' L N (fun a0 => (k a0).bind j) z19 = (f112.p1_e2' L N k z19).bind j := by
  unfold f112.p1_e2'
  repeat' (first | (with_reducible refine cond_nat ?_ ?_) | (with_reducible refine bind_nat fun _ => ?_) | rfl)
theorem f112.p1_e2_nat {R R' : Type} (j : R → Option R') (L N : Nat) (k : (List Int) → Option R) (z19 : (List Int)) :
    f112.p1_e2 L N (fun a0 => (k a0).bind j) z19 = (f112.p1_e2 L N k z19).bind j := by
  unfold f112.p1_e2
  exact f112.p1_e2'_nat ..
theorem f112.p0_e0'_nat {R R' : Type} (j : R → Option R') (L N : Nat) (k : (List Int) → Option R) (w1 : Int → (List (List Move)) → (List Bool) → (List Int) → Option R) (z6 : (List (List Move))) (z7 : (List Bool)) (z8 : (List Int)) :
    f112.p0_e0' L N (fun a0 => (k a0).bind j) (fun a0 a1 a2 a3 => (w1 a0 a1 a2 a3).bind j) z6 z7 z8 = (f112.p0_e0' L N k w1 z6 z7 z8).bind j := by
  unfold f112.p0_e0'
  repeat' (first | (with_reducible refine cond_nat ?_ ?_) | (with_reducible refine bind_nat fun _ => ?_) | rfl)
theorem f112.p0_e0_nat {R R' : Type} (j : R → Option R') (L N : Nat) (k : (List Int) → Option R) (z6 : (List (List Move))) (z7 : (List Bool)) (z8 : (List Int)) :
    f112.p0_e0 L N (fun a0 => (k a0).bind j) z6 z7 z8 = (f112.p0_e0 L N k z6 z7 z8).bind j := by
  unfold f112.p0_e0
  simp only [f112.l1_nat, f112.p1_e2_nat]
  exact f112.p0_e0'_nat ..
theorem f112.b'_nat {R R' : Type} (j : R → Option R') (L N : Nat) (k : (List Int) → Option R) (w0 : (List Int) → Int → Int → (List (List Move)) → (List Bool) → (List Int) → Option R) (x0 : Graph) (x1 : (List Int)) :
    f112.b' L N (fun a0 => (k a0).bind j) (fun a0 a1 a2 a3 a4 a5 => (w0 a0 a1 a2 a3 a4 a5).bind j) x0 x1 = (f112.b' L N k w0 x0 x1).bind j := by
  unfold f112.b'
  repeat' (first | (with_reducible refine cond_nat ?_ ?_) | (with_reducible refine bind_nat fun _ => ?_) | rfl)
theorem f112.b_nat {R R' : Type} (j : R → Option R') (L N : Nat) (k : (List Int) → Option R) (x0 : Graph) (x1 : (List Int)) :
    f112.b L N (fun a0 => (k a0).bind j) x0 x1 = (f112.b L N k x0 x1).bind j := by
  unfold f112.b
  simp only [f112.l0_nat, f112.p0_e0_nat]
  exact f112.b'_nat ..
theorem f112.ok (L N : Nat) (hΦ : TellsOk Try.prog ((Φ78 L N))) : EntOk Try.prog 112 (f112.ent L N) := by
  intro args vw site h
  unfold f112.ent
  split
  · rename_i d ha
    intro y hy hs
    refine call_ron (dep := 1000) (E := (E112 L N)) (ts := [(.st 2), (.sl i64)]) (rn := .row) (q := none) (el := 3) (ty := i64) (d1 := ()) (xs := y) (sound_of hΦ) okP (callI_sound (sound_of hΦ) okP 1 2000) (f := Try.f112) rfl hs ha ?_ rfl site
    refine (f112.b_eq L N (fun d xs => some (d, xs)) d.1 d.2.1).trans ?_
    refine ((f112.b_nat (fun y => (some ((), y) : Option (RN.Den .row × List Int))) L N some d.1 d.2.1)).trans ?_
    rw [show f112.b L N some d.1 d.2.1 = some y from hy]
    rfl
  · intro y hy
    cases hy
def Φ112 (L N : Nat) : Tells := (addT (Φ78 L N) 112 (f112.ent L N))
theorem Φ112_ok (L N : Nat) : TellsOk Try.prog (Φ112 L N) := addT_ok (Φ78_ok L N) (f112.ok L N (Φ78_ok L N))
def f113.s1' {R : Type} (L N : Nat) (k1_e2 : Int → (List Int) → Int → Int → (List (List Move)) → (List Int) → Option R) (rec1 : Int → (List Int) → Int → Int → (List Move) → Int → Int → (List (List Move)) → (List Int) → Option R) (s8 : Int) (s9 : (List Int)) (s10 : Int) (s11 : Int) (s12 : (List Move)) (s13 : Int) (s14 : Int) (s15 : (List (List Move))) (s16 : (List Int)) : Option R :=
  bif (decide (s14 < s13)) then
    bif (decide (0 ≤ s14) && decide (s14 < (s12.length : Int))) then
      bif ((listAt s12 (Ty.dflt (.st 0)) s14.toNat).act == s8) then
        bif (decide (s16.length + ([(listAt s12 (Ty.dflt (.st 0)) s14.toNat).to] : (List Int)).length ≤ lim)) then
          rec1 s8 s9 s10 s11 s12 s13 (wi (s14 + (1 : Int))) s15 (s16 ++ ([(listAt s12 (Ty.dflt (.st 0)) s14.toNat).to] : (List Int)))
        else none
      else rec1 s8 s9 s10 s11 s12 s13 (wi (s14 + (1 : Int))) s15 s16
    else none
  else k1_e2 s8 s9 s10 s11 s15 s16
def f113.s1 {R : Type} (L N : Nat) (k1_e2 : Int → (List Int) → Int → Int → (List (List Move)) → (List Int) → Option R) (rec1 : Int → (List Int) → Int → Int → (List Move) → Int → Int → (List (List Move)) → (List Int) → Option R) (s8 : Int) (s9 : (List Int)) (s10 : Int) (s11 : Int) (s12 : (List Move)) (s13 : Int) (s14 : Int) (s15 : (List (List Move))) (s16 : (List Int)) : Option R :=
  f113.s1' L N k1_e2 rec1 s8 s9 s10 s11 s12 s13 s14 s15 s16
def f113.l1 {R : Type} (L N : Nat) (k1_e2 : Int → (List Int) → Int → Int → (List (List Move)) → (List Int) → Option R) : Nat → Int → (List Int) → Int → Int → (List Move) → Int → Int → (List (List Move)) → (List Int) → Option R
  | 0, _, _, _, _, _, _, _, _, _ => none
  | n + 1, s8, s9, s10, s11, s12, s13, s14, s15, s16 => f113.s1 L N k1_e2 (f113.l1 L N k1_e2 n) s8 s9 s10 s11 s12 s13 s14 s15 s16
def f113.T1 (s8 : Int) (s9 : (List Int)) (s10 : Int) (s11 : Int) (s12 : (List Move)) (s13 : Int) (s14 : Int) (s15 : (List (List Move))) (s16 : (List Int)) : T := mkT 43 [(2, (.tv i64 s8)), (3, (.ptr 1003 0)), (7, (.row 1012)), (13, (.tv (.sl i64) s9)), (14, (.tv i64 s10)), (15, (.tv i64 s11)), (23, (.tv (.sl (.st 0)) s12)), (24, (.tv i64 s13)), (25, (.tv i64 s14))]
def f113.H1 (s8 : Int) (s9 : (List Int)) (s10 : Int) (s11 : Int) (s12 : (List Move)) (s13 : Int) (s14 : Int) (s15 : (List (List Move))) (s16 : (List Int)) : H := [(1003, (.box [(.tv (.sl (.sl (.st 0))) s15)])), (1012, (.row 3 i64 s16))]
def f113.T1_e2 (z17 : Int) (z18 : (List Int)) (z19 : Int) (z20 : Int) (z21 : (List (List Move))) (z22 : (List Int)) : T := mkT 43 [(2, (.tv i64 z17)), (3, (.ptr 1003 0)), (7, (.row 1012)), (13, (.tv (.sl i64) z18)), (14, (.tv i64 z19)), (15, (.tv i64 z20))]
def f113.H1_e2 (z17 : Int) (z18 : (List Int)) (z19 : Int) (z20 : Int) (z21 : (List (List Move))) (z22 : (List Int)) : H := [(1003, (.box [(.tv (.sl (.sl (.st 0))) z21)])), (1012, (.row 3 i64 z22))]
def f113.p1_e2' {R : Type} (L N : Nat) (k0_e0 : (List (List Move)) → (List Int) → Option R) (rec0 : Int → (List Int) → Int → Int → (List (List Move)) → (List Int) → Option R) (z17 : Int) (z18 : (List Int)) (z19 : Int) (z20 : Int) (z21 : (List (List Move))) (z22 : (List Int)) : Option R :=
  rec0 z17 z18 z19 (wi (z20 + (1 : Int))) z21 z22
def f113.p1_e2 {R : Type} (L N : Nat) (k0_e0 : (List (List Move)) → (List Int) → Option R) (rec0 : Int → (List Int) → Int → Int → (List (List Move)) → (List Int) → Option R) (z17 : Int) (z18 : (List Int)) (z19 : Int) (z20 : Int) (z21 : (List (List Move))) (z22 : (List Int)) : Option R :=
  f113.p1_e2' L N k0_e0 rec0 z17 z18 z19 z20 z21 z22
def f113.s0' {R : Type} (L N : Nat) (k0_e0 : (List (List Move)) → (List Int) → Option R) (rec0 : Int → (List Int) → Int → Int → (List (List Move)) → (List Int) → Option R) (w1 : Int → (List Int) → Int → Int → (List Move) → Int → Int → (List (List Move)) → (List Int) → Option R) (s0 : Int) (s1 : (List Int)) (s2 : Int) (s3 : Int) (s4 : (List (List Move))) (s5 : (List Int)) : Option R :=
  bif (decide (s3 < s2)) then
    bif (decide (0 ≤ s3) && decide (s3 < (s1.length : Int))) then
      bif (decide (0 ≤ (listAt s1 (0 : Int) s3.toNat)) && decide ((listAt s1 (0 : Int) s3.toNat) < (s4.length : Int))) then
        w1 s0 s1 s2 s3 (listAt s4 [] (listAt s1 (0 : Int) s3.toNat).toNat) ((listAt s4 [] (listAt s1 (0 : Int) s3.toNat).toNat).length : Int) (0 : Int) s4 s5
      else none
    else none
  else k0_e0 s4 s5
def f113.s0 {R : Type} (L N : Nat) (k0_e0 : (List (List Move)) → (List Int) → Option R) (rec0 : Int → (List Int) → Int → Int → (List (List Move)) → (List Int) → Option R) (s0 : Int) (s1 : (List Int)) (s2 : Int) (s3 : Int) (s4 : (List (List Move))) (s5 : (List Int)) : Option R :=
  f113.s0' L N k0_e0 rec0 (fun s8 s9 s10 s11 s12 s13 s14 s15 s16 => f113.l1 L N (fun z17 z18 z19 z20 z21 z22 => f113.p1_e2 L N k0_e0 rec0 z17 z18 z19 z20 z21 z22) L s8 s9 s10 s11 s12 s13 s14 s15 s16) s0 s1 s2 s3 s4 s5
def f113.l0 {R : Type} (L N : Nat) (k0_e0 : (List (List Move)) → (List Int) → Option R) : Nat → Int → (List Int) → Int → Int → (List (List Move)) → (List Int) → Option R
  | 0, _, _, _, _, _, _ => none
  | n + 1, s0, s1, s2, s3, s4, s5 => f113.s0 L N k0_e0 (f113.l0 L N k0_e0 n) s0 s1 s2 s3 s4 s5
def f113.T0 (s0 : Int) (s1 : (List Int)) (s2 : Int) (s3 : Int) (s4 : (List (List Move))) (s5 : (List Int)) : T := mkT 43 [(2, (.tv i64 s0)), (3, (.ptr 1003 0)), (7, (.row 1012)), (13, (.tv (.sl i64) s1)), (14, (.tv i64 s2)), (15, (.tv i64 s3))]
def f113.H0 (s0 : Int) (s1 : (List Int)) (s2 : Int) (s3 : Int) (s4 : (List (List Move))) (s5 : (List Int)) : H := [(1003, (.box [(.tv (.sl (.sl (.st 0))) s4)])), (1012, (.row 3 i64 s5))]
def f113.T0_e0 (z6 : (List (List Move))) (z7 : (List Int)) : T := mkT 43 [(3, (.ptr 1003 0)), (7, (.row 1012))]
def f113.H0_e0 (z6 : (List (List Move))) (z7 : (List Int)) : H := [(1003, (.box [(.tv (.sl (.sl (.st 0))) z6)])), (1012, (.row 3 i64 z7))]
def f113.p0_e0' {R : Type} (L N : Nat) (k : (List Int) → Option R) (z6 : (List (List Move))) (z7 : (List Int)) : Option R :=
  (f112 L N (Graph.mk z6) z7).bind fun y32 =>
  k y32
def f113.p0_e0 {R : Type} (L N : Nat) (k : (List Int) → Option R) (z6 : (List (List Move))) (z7 : (List Int)) : Option R :=
  f113.p0_e0' L N k z6 z7
def f113.b' {R : Type} (L N : Nat) (k : (List Int) → Option R) (w0 : Int → (List Int) → Int → Int → (List (List Move)) → (List Int) → Option R) (x0 : Graph) (x1 : (List Int)) (x2 : Int) : Option R :=
  w0 x2 x1 (x1.length : Int) (0 : Int) x0.moves ([] : (List Int))
def f113.b {R : Type} (L N : Nat) (k : (List Int) → Option R) (x0 : Graph) (x1 : (List Int)) (x2 : Int) : Option R :=
  f113.b' L N k (fun s0 s1 s2 s3 s4 s5 => f113.l0 L N (fun z6 z7 => f113.p0_e0 L N k z6 z7) L s0 s1 s2 s3 s4 s5) x0 x1 x2
def f113 (L N : Nat) (x0 : Graph) (x1 : (List Int)) (x2 : Int) : Option ((List Int)) := f113.b L N some x0 x1 x2
def f113.ent (L N : Nat) (args : List AV) (vw : View) (site : Nat) : Ans := match roD [(.st 2), (.sl i64), i64] vw args with
  | some d => ⟨(List Int), f113 L N d.1 d.2.1 d.2.2.1, fun y => (RN.av site .row (), [(site, some (mkO none 3 i64 y))], [])⟩
  | none => Ans.no
noncomputable def E113 (L N : Nat) : Env := { P := Try.prog, ty := tyOf, Φ := (Φ112 L N), inl := inlT, live := lives, liveX := livesX, L := L, dp := none, prom := promT, heal := healT, ren := renT }
noncomputable def f113.c0 : Code := loopAt 0 (codeOf Try.f113)
noncomputable def f113.c1 : Code := loopAt 2 f113.c0
theorem f113.s1_pre {R : Type} (L N : Nat) (κ : Ex → T → H → Option R) (rec : T → H → Option R) (s8 : Int) (s9 : (List Int)) (s10 : Int) (s11 : Int) (s12 : (List Move)) (s13 : Int) (s14 : Int) (s15 : (List (List Move))) (s16 : (List Int)) :
    evRd (E113 L N) (evCallI (E113 L N) 1 2000) 1000 113 43 2 f113.c1 κ rec (f113.T1 s8 s9 s10 s11 s12 s13 s14 s15 s16) (f113.H1 s8 s9 s10 s11 s12 s13 s14 s15 s16)
    = f113.s1' L N (fun z17 z18 z19 z20 z21 z22 => κ (.exit 2) (f113.T1_e2 z17 z18 z19 z20 z21 z22) (f113.H1_e2 z17 z18 z19 z20 z21 z22)) (fun s8 s9 s10 s11 s12 s13 s14 s15 s16 => rec (f113.T1 s8 s9 s10 s11 s12 s13 s14 s15 s16) (f113.H1 s8 s9 s10 s11 s12 s13 s14 s15 s16)) s8 s9 s10 s11 s12 s13 s14 s15 s16 := by kernel_rfl
theorem f113.s1_eq {R : Type} (L N : Nat) (κ : Ex → T → H → Option R) (rec : T → H → Option R) (s8 : Int) (s9 : (List Int)) (s10 : Int) (s11 : Int) (s12 : (List Move)) (s13 : Int) (s14 : Int) (s15 : (List (List Move))) (s16 : (List Int)) :
    evRd (E113 L N) (evCallI (E113 L N) 1 2000) 1000 113 43 2 f113.c1 κ rec (f113.T1 s8 s9 s10 s11 s12 s13 s14 s15 s16) (f113.H1 s8 s9 s10 s11 s12 s13 s14 s15 s16)
    = f113.s1 L N (fun z17 z18 z19 z20 z21 z22 => κ (.exit 2) (f113.T1_e2 z17 z18 z19 z20 z21 z22) (f113.H1_e2 z17 z18 z19 z20 z21 z22)) (fun s8 s9 s10 s11 s12 s13 s14 s15 s16 => rec (f113.T1 s8 s9 s10 s11 s12 s13 s14 s15 s16) (f113.H1 s8 s9 s10 s11 s12 s13 s14 s15 s16)) s8 s9 s10 s11 s12 s13 s14 s15 s16 := by
  rw [f113.s1_pre]
  unfold f113.s1
  rfl
theorem f113.l1_eq {R : Type} (L N : Nat) (κ : Ex → T → H → Option R) : ∀ (n : Nat) (s8 : Int) (s9 : (List Int)) (s10 : Int) (s11 : Int) (s12 : (List Move)) (s13 : Int) (s14 : Int) (s15 : (List (List Move))) (s16 : (List Int)),
    evLp (E113 L N) (evCallI (E113 L N) 1 2000) 1000 113 43 2 f113.c1 κ n (f113.T1 s8 s9 s10 s11 s12 s13 s14 s15 s16) (f113.H1 s8 s9 s10 s11 s12 s13 s14 s15 s16)
    = f113.l1 L N (fun z17 z18 z19 z20 z21 z22 => κ (.exit 2) (f113.T1_e2 z17 z18 z19 z20 z21 z22) (f113.H1_e2 z17 z18 z19 z20 z21 z22)) n s8 s9 s10 s11 s12 s13 s14 s15 s16 := by
  intro n
  induction n with
  | zero => intros; rfl
  | succ n ih =>
    intro s8 s9 s10 s11 s12 s13 s14 s15 s16
    rw [evLp_succ, f113.s1_eq]
    simp only [ih]
    rfl
theorem f113.p1_e2_pre {R : Type} (L N : Nat) (κ : Ex → T → H → Option R) (rec : T → H → Option R) (z17 : Int) (z18 : (List Int)) (z19 : Int) (z20 : Int) (z21 : (List (List Move))) (z22 : (List Int)) :
    (contAt (E113 L N) (evCallI (E113 L N) 1 2000) 1000 113 43 2 f113.c0 (stepK (outK (keepT 43 ((E113 L N).liveX 113 0).1) (keepH 1000 ((E113 L N).liveX 113 0).2) κ) fun t h => rec (backK 1000 43 ((E113 L N).live 113 0).1 ((E113 L N).live 113 0).2 ((E113 L N).heal 113 0) ((E113 L N).ren 113 0) t h).1 (backK 1000 43 ((E113 L N).live 113 0).1 ((E113 L N).live 113 0).2 ((E113 L N).heal 113 0) ((E113 L N).ren 113 0) t h).2)) (.exit 2) (f113.T1_e2 z17 z18 z19 z20 z21 z22) (f113.H1_e2 z17 z18 z19 z20 z21 z22)
    = f113.p1_e2' L N (fun z6 z7 => κ (.exit 0) (f113.T0_e0 z6 z7) (f113.H0_e0 z6 z7)) (fun s0 s1 s2 s3 s4 s5 => rec (f113.T0 s0 s1 s2 s3 s4 s5) (f113.H0 s0 s1 s2 s3 s4 s5)) z17 z18 z19 z20 z21 z22 := by kernel_rfl
theorem f113.p1_e2_eq {R : Type} (L N : Nat) (κ : Ex → T → H → Option R) (rec : T → H → Option R) (z17 : Int) (z18 : (List Int)) (z19 : Int) (z20 : Int) (z21 : (List (List Move))) (z22 : (List Int)) :
    (contAt (E113 L N) (evCallI (E113 L N) 1 2000) 1000 113 43 2 f113.c0 (stepK (outK (keepT 43 ((E113 L N).liveX 113 0).1) (keepH 1000 ((E113 L N).liveX 113 0).2) κ) fun t h => rec (backK 1000 43 ((E113 L N).live 113 0).1 ((E113 L N).live 113 0).2 ((E113 L N).heal 113 0) ((E113 L N).ren 113 0) t h).1 (backK 1000 43 ((E113 L N).live 113 0).1 ((E113 L N).live 113 0).2 ((E113 L N).heal 113 0) ((E113 L N).ren 113 0) t h).2)) (.exit 2) (f113.T1_e2 z17 z18 z19 z20 z21 z22) (f113.H1_e2 z17 z18 z19 z20 z21 z22)
    = f113.p1_e2 L N (fun z6 z7 => κ (.exit 0) (f113.T0_e0 z6 z7) (f113.H0_e0 z6 z7)) (fun s0 s1 s2 s3 s4 s5 => rec (f113.T0 s0 s1 s2 s3 s4 s5) (f113.H0 s0 s1 s2 s3 s4 s5)) z17 z18 z19 z20 z21 z22 := by
  rw [f113.p1_e2_pre]
  unfold f113.p1_e2
  rfl
theorem f113.s0_pre {R : Type} (L N : Nat) (κ : Ex → T → H → Option R) (rec : T → H → Option R) (s0 : Int) (s1 : (List Int)) (s2 : Int) (s3 : Int) (s4 : (List (List Move))) (s5 : (List Int)) :
    evRd (E113 L N) (evCallI (E113 L N) 1 2000) 1000 113 43 0 f113.c0 κ rec (f113.T0 s0 s1 s2 s3 s4 s5) (f113.H0 s0 s1 s2 s3 s4 s5)
    = f113.s0' L N (fun z6 z7 => κ (.exit 0) (f113.T0_e0 z6 z7) (f113.H0_e0 z6 z7)) (fun s0 s1 s2 s3 s4 s5 => rec (f113.T0 s0 s1 s2 s3 s4 s5) (f113.H0 s0 s1 s2 s3 s4 s5)) (fun s8 s9 s10 s11 s12 s13 s14 s15 s16 => evLp (E113 L N) (evCallI (E113 L N) 1 2000) 1000 113 43 2 f113.c1 (contAt (E113 L N) (evCallI (E113 L N) 1 2000) 1000 113 43 2 f113.c0 (stepK (outK (keepT 43 ((E113 L N).liveX 113 0).1) (keepH 1000 ((E113 L N).liveX 113 0).2) κ) fun t h => rec (backK 1000 43 ((E113 L N).live 113 0).1 ((E113 L N).live 113 0).2 ((E113 L N).heal 113 0) ((E113 L N).ren 113 0) t h).1 (backK 1000 43 ((E113 L N).live 113 0).1 ((E113 L N).live 113 0).2 ((E113 L N).heal 113 0) ((E113 L N).ren 113 0) t h).2)) L (f113.T1 s8 s9 s10 s11 s12 s13 s14 s15 s16) (f113.H1 s8 s9 s10 s11 s12 s13 s14 s15 s16)) s0 s1 s2 s3 s4 s5 := by kernel_rfl
theorem f113.s0_eq {R : Type} (L N : Nat) (κ : Ex → T → H → Option R) (rec : T → H → Option R) (s0 : Int) (s1 : (List Int)) (s2 : Int) (s3 : Int) (s4 : (List (List Move))) (s5 : (List Int)) :
    evRd (E113 L N) (evCallI (E113 L N) 1 2000) 1000 113 43 0 f113.c0 κ rec (f113.T0 s0 s1 s2 s3 s4 s5) (f113.H0 s0 s1 s2 s3 s4 s5)
    = f113.s0 L N (fun z6 z7 => κ (.exit 0) (f113.T0_e0 z6 z7) (f113.H0_e0 z6 z7)) (fun s0 s1 s2 s3 s4 s5 => rec (f113.T0 s0 s1 s2 s3 s4 s5) (f113.H0 s0 s1 s2 s3 s4 s5)) s0 s1 s2 s3 s4 s5 := by
  rw [f113.s0_pre]
  unfold f113.s0
  simp only [f113.l1_eq, f113.p1_e2_eq]
theorem f113.l0_eq {R : Type} (L N : Nat) (κ : Ex → T → H → Option R) : ∀ (n : Nat) (s0 : Int) (s1 : (List Int)) (s2 : Int) (s3 : Int) (s4 : (List (List Move))) (s5 : (List Int)),
    evLp (E113 L N) (evCallI (E113 L N) 1 2000) 1000 113 43 0 f113.c0 κ n (f113.T0 s0 s1 s2 s3 s4 s5) (f113.H0 s0 s1 s2 s3 s4 s5)
    = f113.l0 L N (fun z6 z7 => κ (.exit 0) (f113.T0_e0 z6 z7) (f113.H0_e0 z6 z7)) n s0 s1 s2 s3 s4 s5 := by
  intro n
  induction n with
  | zero => intros; rfl
  | succ n ih =>
    intro s0 s1 s2 s3 s4 s5
    rw [evLp_succ, f113.s0_eq]
    simp only [ih]
    rfl
theorem f113.p0_e0_pre {R : Type} (L N : Nat) (κ : RN.Den .row → List Int → Option R) (z6 : (List (List Move))) (z7 : (List Int)) :
    (contAt (E113 L N) (evCallI (E113 L N) 1 2000) 1000 113 43 0 (codeOf Try.f113) (finK (E113 L N) 1000 Try.f113 (finN .row none 3 i64 κ))) (.exit 0) (f113.T0_e0 z6 z7) (f113.H0_e0 z6 z7)
    = f113.p0_e0' L N (fun a0 => κ () a0) z6 z7 := by kernel_rfl
theorem f113.p0_e0_eq {R : Type} (L N : Nat) (κ : RN.Den .row → List Int → Option R) (z6 : (List (List Move))) (z7 : (List Int)) :
    (contAt (E113 L N) (evCallI (E113 L N) 1 2000) 1000 113 43 0 (codeOf Try.f113) (finK (E113 L N) 1000 Try.f113 (finN .row none 3 i64 κ))) (.exit 0) (f113.T0_e0 z6 z7) (f113.H0_e0 z6 z7)
    = f113.p0_e0 L N (fun a0 => κ () a0) z6 z7 := by
  rw [f113.p0_e0_pre]
  unfold f113.p0_e0
  rfl
theorem f113.b_pre {R : Type} (L N : Nat) (κ : RN.Den .row → List Int → Option R) (x0 : Graph) (x1 : (List Int)) (x2 : Int) :
    evBody (E113 L N) (evCallI (E113 L N) 1 2000) 1000 113 Try.f113 [(.tv (.st 2) x0), (.tv (.sl i64) x1), (.tv i64 x2)] [] [] (finN .row none 3 i64 κ)
    = f113.b' L N (fun a0 => κ () a0) (fun s0 s1 s2 s3 s4 s5 => evLp (E113 L N) (evCallI (E113 L N) 1 2000) 1000 113 43 0 f113.c0 (contAt (E113 L N) (evCallI (E113 L N) 1 2000) 1000 113 43 0 (codeOf Try.f113) (finK (E113 L N) 1000 Try.f113 (finN .row none 3 i64 κ))) L (f113.T0 s0 s1 s2 s3 s4 s5) (f113.H0 s0 s1 s2 s3 s4 s5)) x0 x1 x2 := by kernel_rfl
theorem f113.b_eq {R : Type} (L N : Nat) (κ : RN.Den .row → List Int → Option R) (x0 : Graph) (x1 : (List Int)) (x2 : Int) :
    evBody (E113 L N) (evCallI (E113 L N) 1 2000) 1000 113 Try.f113 [(.tv (.st 2) x0), (.tv (.sl i64) x1), (.tv i64 x2)] [] [] (finN .row none 3 i64 κ)
    = f113.b L N (fun a0 => κ () a0) x0 x1 x2 := by
  rw [f113.b_pre]
  unfold f113.b
  simp only [f113.l0_eq, f113.p0_e0_eq]
theorem f113.s1'_nat {R R' : Type} (j : R → Option R') (L N : Nat) (k1_e2 : Int → (List Int) → Int → Int → (List (List Move)) → (List Int) → Option R) (rec1 : Int → (List Int) → Int → Int → (List Move) → Int → Int → (List (List Move)) → (List Int) → Option R) (s8 : Int) (s9 : (List Int)) (s10 : Int) (s11 : Int) (s12 : (List Move)) (s13 : Int) (s14 : Int) (s15 : (List (List Move))) (s16 : (List Int)) :
    f113.s1' L N (fun a0 a1 a2 a3 a4 a5 => (k1_e2 a0 a1 a2 a3 a4 a5).bind j) (fun a0 a1 a2 a3 a4 a5 a6 a7 a8 => (rec1 a0 a1 a2 a3 a4 a5 a6 a7 a8).bind j) s8 s9 s10 s11 s12 s13 s14 s15 s16 = (f113.s1' L N k1_e2 rec1 s8 s9 s10 s11 s12 s13 s14 s15 s16).bind j := by
  unfold f113.s1'
  repeat' (first | (with_reducible refine cond_nat ?_ ?_) | (with_reducible refine bind_nat fun _ => ?_) | rfl)
theorem f113.s1_nat {R R' : Type} (j : R → Option R') (L N : Nat) (k1_e2 : Int → (List Int) → Int → Int → (List (List Move)) → (List Int) → Option R) (rec1 : Int → (List Int) → Int → Int → (List Move) → Int → Int → (List (List Move)) → (List Int) → Option R) (s8 : Int) (s9 : (List Int)) (s10 : Int) (s11 : Int) (s12 : (List Move)) (s13 : Int) (s14 : Int) (s15 : (List (List Move))) (s16 : (List Int)) :
    f113.s1 L N (fun a0 a1 a2 a3 a4 a5 => (k1_e2 a0 a1 a2 a3 a4 a5).bind j) (fun a0 a1 a2 a3 a4 a5 a6 a7 a8 => (rec1 a0 a1 a2 a3 a4 a5 a6 a7 a8).bind j) s8 s9 s10 s11 s12 s13 s14 s15 s16 = (f113.s1 L N k1_e2 rec1 s8 s9 s10 s11 s12 s13 s14 s15 s16).bind j := by
  unfold f113.s1
  exact f113.s1'_nat ..
theorem f113.l1_nat {R R' : Type} (j : R → Option R') (L N : Nat) (k1_e2 : Int → (List Int) → Int → Int → (List (List Move)) → (List Int) → Option R) : ∀ (n : Nat) (s8 : Int) (s9 : (List Int)) (s10 : Int) (s11 : Int) (s12 : (List Move)) (s13 : Int) (s14 : Int) (s15 : (List (List Move))) (s16 : (List Int)),
    f113.l1 L N (fun a0 a1 a2 a3 a4 a5 => (k1_e2 a0 a1 a2 a3 a4 a5).bind j) n s8 s9 s10 s11 s12 s13 s14 s15 s16 = (f113.l1 L N k1_e2 n s8 s9 s10 s11 s12 s13 s14 s15 s16).bind j := by
  intro n
  induction n with
  | zero => intros; rfl
  | succ n ih =>
    intro s8 s9 s10 s11 s12 s13 s14 s15 s16
    show f113.s1 L N (fun a0 a1 a2 a3 a4 a5 => (k1_e2 a0 a1 a2 a3 a4 a5).bind j) (f113.l1 L N (fun a0 a1 a2 a3 a4 a5 => (k1_e2 a0 a1 a2 a3 a4 a5).bind j) n) s8 s9 s10 s11 s12 s13 s14 s15 s16 = _
    rw [show f113.l1 L N (fun a0 a1 a2 a3 a4 a5 => (k1_e2 a0 a1 a2 a3 a4 a5).bind j) n = (fun s8 s9 s10 s11 s12 s13 s14 s15 s16 => (f113.l1 L N k1_e2 n s8 s9 s10 s11 s12 s13 s14 s15 s16).bind j) from funext fun s8 => funext fun s9 => funext fun s10 => funext fun s11 => funext fun s12 => funext fun s13 => funext fun s14 => funext fun s15 => funext fun s16 => ih s8 s9 s10 s11 s12 s13 s14 s15 s16]
    exact f113.s1_nat ..
theorem f113.p1_e2'_nat {R R' : Type} (j : R → Option R') (L N : Nat) (k0_e0 : (List (List Move)) → (List Int) → Option R) (rec0 : Int → (List Int) → Int → Int → (List (List Move)) → (List Int) → Option R) (z17 : Int) (z18 : (List Int)) (z19 : Int) (z20 : Int) (z21 : (List (List Move))) (z22 : (List Int)) :
    f113.p1_e2' L N (fun a0 a1 => (k0_e0 a0 a1).bind j) (fun a0 a1 a2 a3 a4 a5 => (rec0 a0 a1 a2 a3 a4 a5).bind j) z17 z18 z19 z20 z21 z22 = (f113.p1_e2' L N k0_e0 rec0 z17 z18 z19 z20 z21 z22).bind j := by
  unfold f113.p1_e2'
  repeat' (first | (with_reducible refine cond_nat ?_ ?_) | (with_reducible refine bind_nat fun _ => ?_) | rfl)
theorem f113.p1_e2_nat {R R' : Type} (j : R → Option R') (L N : Nat) (k0_e0 : (List (List Move)) → (List Int) → Option R) (rec0 : Int → (List Int) → Int → Int → (List (List Move)) → (List Int) → Option R) (z17 : Int) (z18 : (List Int)) (z19 : Int) (z20 : Int) (z21 : (List (List Move))) (z22 : (List Int)) :
    f113.p1_e2 L N (fun a0 a1 => (k0_e0 a0 a1).bind j) (fun a0 a1 a2 a3 a4 a5 => (rec0 a0 a1 a2 a3 a4 a5).bind j) z17 z18 z19 z20 z21 z22 = (f113.p1_e2 L N k0_e0 rec0 z17 z18 z19 z20 z21 z22).bind j := by
  unfold f113.p1_e2
  exact f113.p1_e2'_nat ..
theorem f113.s0'_nat {R R' : Type} (j : R → Option R') (L N : Nat) (k0_e0 : (List (List Move)) → (List Int) → Option R) (rec0 : Int → (List Int) → Int → Int → (List (List Move)) → (List Int) → Option R) (w1 : Int → (List Int) → Int → Int → (List Move) → Int → Int → (List (List Move)) → (List Int) → Option R) (s0 : Int) (s1 : (List Int)) (s2 : Int) (s3 : Int) (s4 : (List (List Move))) (s5 : (List Int)) :
    f113.s0' L N (fun a0 a1 => (k0_e0 a0 a1).bind j) (fun a0 a1 a2 a3 a4 a5 => (rec0 a0 a1 a2 a3 a4 a5).bind j) (fun a0 a1 a2 a3 a4 a5 a6 a7 a8 => (w1 a0 a1 a2 a3 a4 a5 a6 a7 a8).bind j) s0 s1 s2 s3 s4 s5 = (f113.s0' L N k0_e0 rec0 w1 s0 s1 s2 s3 s4 s5).bind j := by
  unfold f113.s0'
  repeat' (first | (with_reducible refine cond_nat ?_ ?_) | (with_reducible refine bind_nat fun _ => ?_) | rfl)
theorem f113.s0_nat {R R' : Type} (j : R → Option R') (L N : Nat) (k0_e0 : (List (List Move)) → (List Int) → Option R) (rec0 : Int → (List Int) → Int → Int → (List (List Move)) → (List Int) → Option R) (s0 : Int) (s1 : (List Int)) (s2 : Int) (s3 : Int) (s4 : (List (List Move))) (s5 : (List Int)) :
    f113.s0 L N (fun a0 a1 => (k0_e0 a0 a1).bind j) (fun a0 a1 a2 a3 a4 a5 => (rec0 a0 a1 a2 a3 a4 a5).bind j) s0 s1 s2 s3 s4 s5 = (f113.s0 L N k0_e0 rec0 s0 s1 s2 s3 s4 s5).bind j := by
  unfold f113.s0
  simp only [f113.l1_nat, f113.p1_e2_nat]
  exact f113.s0'_nat ..
theorem f113.l0_nat {R R' : Type} (j : R → Option R') (L N : Nat) (k0_e0 : (List (List Move)) → (List Int) → Option R) : ∀ (n : Nat) (s0 : Int) (s1 : (List Int)) (s2 : Int) (s3 : Int) (s4 : (List (List Move))) (s5 : (List Int)),
    f113.l0 L N (fun a0 a1 => (k0_e0 a0 a1).bind j) n s0 s1 s2 s3 s4 s5 = (f113.l0 L N k0_e0 n s0 s1 s2 s3 s4 s5).bind j := by
  intro n
  induction n with
  | zero => intros; rfl
  | succ n ih =>
    intro s0 s1 s2 s3 s4 s5
    show f113.s0 L N (fun a0 a1 => (k0_e0 a0 a1).bind j) (f113.l0 L N (fun a0 a1 => (k0_e0 a0 a1).bind j) n) s0 s1 s2 s3 s4 s5 = _
    rw [show f113.l0 L N (fun a0 a1 => (k0_e0 a0 a1).bind j) n = (fun s0 s1 s2 s3 s4 s5 => (f113.l0 L N k0_e0 n s0 s1 s2 s3 s4 s5).bind j) from funext fun s0 => funext fun s1 => funext fun s2 => funext fun s3 => funext fun s4 => funext fun s5 => ih s0 s1 s2 s3 s4 s5]
    exact f113.s0_nat ..
theorem f113.p0_e0'_nat {R R' : Type} (j : R → Option R') (L N : Nat) (k : (List Int) → Option R) (z6 : (List (List Move))) (z7 : (List Int)) :
    f113.p0_e0' L N (fun a0 => (k a0).bind j) z6 z7 = (f113.p0_e0' L N k z6 z7).bind j := by
  unfold f113.p0_e0'
  repeat' (first | (with_reducible refine cond_nat ?_ ?_) | (with_reducible refine bind_nat fun _ => ?_) | rfl)
theorem f113.p0_e0_nat {R R' : Type} (j : R → Option R') (L N : Nat) (k : (List Int) → Option R) (z6 : (List (List Move))) (z7 : (List Int)) :
    f113.p0_e0 L N (fun a0 => (k a0).bind j) z6 z7 = (f113.p0_e0 L N k z6 z7).bind j := by
  unfold f113.p0_e0
  exact f113.p0_e0'_nat ..
theorem f113.b'_nat {R R' : Type} (j : R → Option R') (L N : Nat) (k : (List Int) → Option R) (w0 : Int → (List Int) → Int → Int → (List (List Move)) → (List Int) → Option R) (x0 : Graph) (x1 : (List Int)) (x2 : Int) :
    f113.b' L N (fun a0 => (k a0).bind j) (fun a0 a1 a2 a3 a4 a5 => (w0 a0 a1 a2 a3 a4 a5).bind j) x0 x1 x2 = (f113.b' L N k w0 x0 x1 x2).bind j := by
  unfold f113.b'
  repeat' (first | (with_reducible refine cond_nat ?_ ?_) | (with_reducible refine bind_nat fun _ => ?_) | rfl)
theorem f113.b_nat {R R' : Type} (j : R → Option R') (L N : Nat) (k : (List Int) → Option R) (x0 : Graph) (x1 : (List Int)) (x2 : Int) :
    f113.b L N (fun a0 => (k a0).bind j) x0 x1 x2 = (f113.b L N k x0 x1 x2).bind j := by
  unfold f113.b
  simp only [f113.l0_nat, f113.p0_e0_nat]
  exact f113.b'_nat ..
theorem f113.ok (L N : Nat) (hΦ : TellsOk Try.prog ((Φ112 L N))) : EntOk Try.prog 113 (f113.ent L N) := by
  intro args vw site h
  unfold f113.ent
  split
  · rename_i d ha
    intro y hy hs
    refine call_ron (dep := 1000) (E := (E113 L N)) (ts := [(.st 2), (.sl i64), i64]) (rn := .row) (q := none) (el := 3) (ty := i64) (d1 := ()) (xs := y) (sound_of hΦ) okP (callI_sound (sound_of hΦ) okP 1 2000) (f := Try.f113) rfl hs ha ?_ rfl site
    refine (f113.b_eq L N (fun d xs => some (d, xs)) d.1 d.2.1 d.2.2.1).trans ?_
    refine ((f113.b_nat (fun y => (some ((), y) : Option (RN.Den .row × List Int))) L N some d.1 d.2.1 d.2.2.1)).trans ?_
    rw [show f113.b L N some d.1 d.2.1 d.2.2.1 = some y from hy]
    rfl
  · intro y hy
    cases hy
def Φ113 (L N : Nat) : Tells := (addT (Φ112 L N) 113 (f113.ent L N))
theorem Φ113_ok (L N : Nat) : TellsOk Try.prog (Φ113 L N) := addT_ok (Φ112_ok L N) (f113.ok L N (Φ112_ok L N))
def f79.s0' {R : Type} (L N : Nat) (k0_e0 : (List Int) → Option R) (rec0 : (List Int) → Int → Int → (List (List Move)) → (List Int) → Option R) (s1 : (List Int)) (s2 : Int) (s3 : Int) (s4 : (List (List Move))) (s5 : (List Int)) : Option R :=
  bif (decide (s3 < s2)) then
    bif (decide (0 ≤ s3) && decide (s3 < (s1.length : Int))) then
      (f113 L N (Graph.mk s4) s5 (listAt s1 (0 : Int) s3.toNat)).bind fun y7 =>
      rec0 s1 s2 (wi (s3 + (1 : Int))) s4 y7
    else none
  else k0_e0 s5
def f79.s0 {R : Type} (L N : Nat) (k0_e0 : (List Int) → Option R) (rec0 : (List Int) → Int → Int → (List (List Move)) → (List Int) → Option R) (s1 : (List Int)) (s2 : Int) (s3 : Int) (s4 : (List (List Move))) (s5 : (List Int)) : Option R :=
  f79.s0' L N k0_e0 rec0 s1 s2 s3 s4 s5
def f79.l0 {R : Type} (L N : Nat) (k0_e0 : (List Int) → Option R) : Nat → (List Int) → Int → Int → (List (List Move)) → (List Int) → Option R
  | 0, _, _, _, _, _ => none
  | n + 1, s1, s2, s3, s4, s5 => f79.s0 L N k0_e0 (f79.l0 L N k0_e0 n) s1 s2 s3 s4 s5
def f79.T0 (s1 : (List Int)) (s2 : Int) (s3 : Int) (s4 : (List (List Move))) (s5 : (List Int)) : T := mkT 23 [(2, (.ptr 1002 0)), (5, (.row 1010)), (11, (.tv (.sl i64) s1)), (12, (.tv i64 s2)), (13, (.tv i64 s3))]
def f79.H0 (s1 : (List Int)) (s2 : Int) (s3 : Int) (s4 : (List (List Move))) (s5 : (List Int)) : H := [(1002, (.box [(.tv (.sl (.sl (.st 0))) s4)])), (1010, (.row 3 i64 s5))]
def f79.T0_e0 (z6 : (List Int)) : T := mkT 23 [(5, (.row 1010))]
def f79.H0_e0 (z6 : (List Int)) : H := [(1010, (.row 3 i64 z6))]
def f79.p0_e0' {R : Type} (L N : Nat) (k : (List Int) → Option R) (z6 : (List Int)) : Option R :=
  k z6
def f79.p0_e0 {R : Type} (L N : Nat) (k : (List Int) → Option R) (z6 : (List Int)) : Option R :=
  f79.p0_e0' L N k z6
def f79.b' {R : Type} (L N : Nat) (k : (List Int) → Option R) (w0 : (List Int) → Int → Int → (List (List Move)) → (List Int) → Option R) (x0 : Graph) (x1 : (List Int)) : Option R :=
  (f112 L N (Graph.mk x0.moves) ([(0 : Int)] : (List Int))).bind fun y0 =>
  w0 x1 (x1.length : Int) (0 : Int) x0.moves y0
def f79.b {R : Type} (L N : Nat) (k : (List Int) → Option R) (x0 : Graph) (x1 : (List Int)) : Option R :=
  f79.b' L N k (fun s1 s2 s3 s4 s5 => f79.l0 L N (fun z6 => f79.p0_e0 L N k z6) L s1 s2 s3 s4 s5) x0 x1
def f79 (L N : Nat) (x0 : Graph) (x1 : (List Int)) : Option ((List Int)) := f79.b L N some x0 x1
def f79.ent (L N : Nat) (args : List AV) (vw : View) (site : Nat) : Ans := match roD [(.st 2), (.sl i64)] vw args with
  | some d => ⟨(List Int), f79 L N d.1 d.2.1, fun y => (RN.av site .row (), [(site, some (mkO none 3 i64 y))], [])⟩
  | none => Ans.no
noncomputable def E79 (L N : Nat) : Env := { P := Try.prog, ty := tyOf, Φ := (Φ113 L N), inl := inlT, live := lives, liveX := livesX, L := L, dp := none, prom := promT, heal := healT, ren := renT }
noncomputable def f79.c0 : Code := loopAt 0 (codeOf Try.f79)
theorem f79.s0_pre {R : Type} (L N : Nat) (κ : Ex → T → H → Option R) (rec : T → H → Option R) (s1 : (List Int)) (s2 : Int) (s3 : Int) (s4 : (List (List Move))) (s5 : (List Int)) :
    evRd (E79 L N) (evCallI (E79 L N) 1 2000) 1000 79 23 0 f79.c0 κ rec (f79.T0 s1 s2 s3 s4 s5) (f79.H0 s1 s2 s3 s4 s5)
    = f79.s0' L N (fun z6 => κ (.exit 0) (f79.T0_e0 z6) (f79.H0_e0 z6)) (fun s1 s2 s3 s4 s5 => rec (f79.T0 s1 s2 s3 s4 s5) (f79.H0 s1 s2 s3 s4 s5)) s1 s2 s3 s4 s5 := by kernel_rfl
theorem f79.s0_eq {R : Type} (L N : Nat) (κ : Ex → T → H → Option R) (rec : T → H → Option R) (s1 : (List Int)) (s2 : Int) (s3 : Int) (s4 : (List (List Move))) (s5 : (List Int)) :
    evRd (E79 L N) (evCallI (E79 L N) 1 2000) 1000 79 23 0 f79.c0 κ rec (f79.T0 s1 s2 s3 s4 s5) (f79.H0 s1 s2 s3 s4 s5)
    = f79.s0 L N (fun z6 => κ (.exit 0) (f79.T0_e0 z6) (f79.H0_e0 z6)) (fun s1 s2 s3 s4 s5 => rec (f79.T0 s1 s2 s3 s4 s5) (f79.H0 s1 s2 s3 s4 s5)) s1 s2 s3 s4 s5 := by
  rw [f79.s0_pre]
  unfold f79.s0
  rfl
theorem f79.l0_eq {R : Type} (L N : Nat) (κ : Ex → T → H → Option R) : ∀ (n : Nat) (s1 : (List Int)) (s2 : Int) (s3 : Int) (s4 : (List (List Move))) (s5 : (List Int)),
    evLp (E79 L N) (evCallI (E79 L N) 1 2000) 1000 79 23 0 f79.c0 κ n (f79.T0 s1 s2 s3 s4 s5) (f79.H0 s1 s2 s3 s4 s5)
    = f79.l0 L N (fun z6 => κ (.exit 0) (f79.T0_e0 z6) (f79.H0_e0 z6)) n s1 s2 s3 s4 s5 := by
  intro n
  induction n with
  | zero => intros; rfl
  | succ n ih =>
    intro s1 s2 s3 s4 s5
    rw [evLp_succ, f79.s0_eq]
    simp only [ih]
    rfl
theorem f79.p0_e0_pre {R : Type} (L N : Nat) (κ : RN.Den .row → List Int → Option R) (z6 : (List Int)) :
    (contAt (E79 L N) (evCallI (E79 L N) 1 2000) 1000 79 23 0 (codeOf Try.f79) (finK (E79 L N) 1000 Try.f79 (finN .row none 3 i64 κ))) (.exit 0) (f79.T0_e0 z6) (f79.H0_e0 z6)
    = f79.p0_e0' L N (fun a0 => κ () a0) z6 := by kernel_rfl
theorem f79.p0_e0_eq {R : Type} (L N : Nat) (κ : RN.Den .row → List Int → Option R) (z6 : (List Int)) :
    (contAt (E79 L N) (evCallI (E79 L N) 1 2000) 1000 79 23 0 (codeOf Try.f79) (finK (E79 L N) 1000 Try.f79 (finN .row none 3 i64 κ))) (.exit 0) (f79.T0_e0 z6) (f79.H0_e0 z6)
    = f79.p0_e0 L N (fun a0 => κ () a0) z6 := by
  rw [f79.p0_e0_pre]
  unfold f79.p0_e0
  rfl
theorem f79.b_pre {R : Type} (L N : Nat) (κ : RN.Den .row → List Int → Option R) (x0 : Graph) (x1 : (List Int)) :
    evBody (E79 L N) (evCallI (E79 L N) 1 2000) 1000 79 Try.f79 [(.tv (.st 2) x0), (.tv (.sl i64) x1)] [] [] (finN .row none 3 i64 κ)
    = f79.b' L N (fun a0 => κ () a0) (fun s1 s2 s3 s4 s5 => evLp (E79 L N) (evCallI (E79 L N) 1 2000) 1000 79 23 0 f79.c0 (contAt (E79 L N) (evCallI (E79 L N) 1 2000) 1000 79 23 0 (codeOf Try.f79) (finK (E79 L N) 1000 Try.f79 (finN .row none 3 i64 κ))) L (f79.T0 s1 s2 s3 s4 s5) (f79.H0 s1 s2 s3 s4 s5)) x0 x1 := by kernel_rfl
theorem f79.b_eq {R : Type} (L N : Nat) (κ : RN.Den .row → List Int → Option R) (x0 : Graph) (x1 : (List Int)) :
    evBody (E79 L N) (evCallI (E79 L N) 1 2000) 1000 79 Try.f79 [(.tv (.st 2) x0), (.tv (.sl i64) x1)] [] [] (finN .row none 3 i64 κ)
    = f79.b L N (fun a0 => κ () a0) x0 x1 := by
  rw [f79.b_pre]
  unfold f79.b
  simp only [f79.l0_eq, f79.p0_e0_eq]
theorem f79.s0'_nat {R R' : Type} (j : R → Option R') (L N : Nat) (k0_e0 : (List Int) → Option R) (rec0 : (List Int) → Int → Int → (List (List Move)) → (List Int) → Option R) (s1 : (List Int)) (s2 : Int) (s3 : Int) (s4 : (List (List Move))) (s5 : (List Int)) :
    f79.s0' L N (fun a0 => (k0_e0 a0).bind j) (fun a0 a1 a2 a3 a4 => (rec0 a0 a1 a2 a3 a4).bind j) s1 s2 s3 s4 s5 = (f79.s0' L N k0_e0 rec0 s1 s2 s3 s4 s5).bind j := by
  unfold f79.s0'
  repeat' (first | (with_reducible refine cond_nat ?_ ?_) | (with_reducible refine bind_nat fun _ => ?_) | rfl)
theorem f79.s0_nat {R R' : Type} (j : R → Option R') (L N : Nat) (k0_e0 : (List Int) → Option R) (rec0 : (List Int) → Int → Int → (List (List Move)) → (List Int) → Option R) (s1 : (List Int)) (s2 : Int) (s3 : Int) (s4 : (List (List Move))) (s5 : (List Int)) :
    f79.s0 L N (fun a0 => (k0_e0 a0).bind j) (fun a0 a1 a2 a3 a4 => (rec0 a0 a1 a2 a3 a4).bind j) s1 s2 s3 s4 s5 = (f79.s0 L N k0_e0 rec0 s1 s2 s3 s4 s5).bind j := by
  unfold f79.s0
  exact f79.s0'_nat ..
theorem f79.l0_nat {R R' : Type} (j : R → Option R') (L N : Nat) (k0_e0 : (List Int) → Option R) : ∀ (n : Nat) (s1 : (List Int)) (s2 : Int) (s3 : Int) (s4 : (List (List Move))) (s5 : (List Int)),
    f79.l0 L N (fun a0 => (k0_e0 a0).bind j) n s1 s2 s3 s4 s5 = (f79.l0 L N k0_e0 n s1 s2 s3 s4 s5).bind j := by
  intro n
  induction n with
  | zero => intros; rfl
  | succ n ih =>
    intro s1 s2 s3 s4 s5
    show f79.s0 L N (fun a0 => (k0_e0 a0).bind j) (f79.l0 L N (fun a0 => (k0_e0 a0).bind j) n) s1 s2 s3 s4 s5 = _
    rw [show f79.l0 L N (fun a0 => (k0_e0 a0).bind j) n = (fun s1 s2 s3 s4 s5 => (f79.l0 L N k0_e0 n s1 s2 s3 s4 s5).bind j) from funext fun s1 => funext fun s2 => funext fun s3 => funext fun s4 => funext fun s5 => ih s1 s2 s3 s4 s5]
    exact f79.s0_nat ..
theorem f79.p0_e0'_nat {R R' : Type} (j : R → Option R') (L N : Nat) (k : (List Int) → Option R) (z6 : (List Int)) :
    f79.p0_e0' L N (fun a0 => (k a0).bind j) z6 = (f79.p0_e0' L N k z6).bind j := by
  unfold f79.p0_e0'
  repeat' (first | (with_reducible refine cond_nat ?_ ?_) | (with_reducible refine bind_nat fun _ => ?_) | rfl)
theorem f79.p0_e0_nat {R R' : Type} (j : R → Option R') (L N : Nat) (k : (List Int) → Option R) (z6 : (List Int)) :
    f79.p0_e0 L N (fun a0 => (k a0).bind j) z6 = (f79.p0_e0 L N k z6).bind j := by
  unfold f79.p0_e0
  exact f79.p0_e0'_nat ..
theorem f79.b'_nat {R R' : Type} (j : R → Option R') (L N : Nat) (k : (List Int) → Option R) (w0 : (List Int) → Int → Int → (List (List Move)) → (List Int) → Option R) (x0 : Graph) (x1 : (List Int)) :
    f79.b' L N (fun a0 => (k a0).bind j) (fun a0 a1 a2 a3 a4 => (w0 a0 a1 a2 a3 a4).bind j) x0 x1 = (f79.b' L N k w0 x0 x1).bind j := by
  unfold f79.b'
  repeat' (first | (with_reducible refine cond_nat ?_ ?_) | (with_reducible refine bind_nat fun _ => ?_) | rfl)
theorem f79.b_nat {R R' : Type} (j : R → Option R') (L N : Nat) (k : (List Int) → Option R) (x0 : Graph) (x1 : (List Int)) :
    f79.b L N (fun a0 => (k a0).bind j) x0 x1 = (f79.b L N k x0 x1).bind j := by
  unfold f79.b
  simp only [f79.l0_nat, f79.p0_e0_nat]
  exact f79.b'_nat ..
theorem f79.ok (L N : Nat) (hΦ : TellsOk Try.prog ((Φ113 L N))) : EntOk Try.prog 79 (f79.ent L N) := by
  intro args vw site h
  unfold f79.ent
  split
  · rename_i d ha
    intro y hy hs
    refine call_ron (dep := 1000) (E := (E79 L N)) (ts := [(.st 2), (.sl i64)]) (rn := .row) (q := none) (el := 3) (ty := i64) (d1 := ()) (xs := y) (sound_of hΦ) okP (callI_sound (sound_of hΦ) okP 1 2000) (f := Try.f79) rfl hs ha ?_ rfl site
    refine (f79.b_eq L N (fun d xs => some (d, xs)) d.1 d.2.1).trans ?_
    refine ((f79.b_nat (fun y => (some ((), y) : Option (RN.Den .row × List Int))) L N some d.1 d.2.1)).trans ?_
    rw [show f79.b L N some d.1 d.2.1 = some y from hy]
    rfl
  · intro y hy
    cases hy
def Φ79 (L N : Nat) : Tells := (addT (Φ113 L N) 79 (f79.ent L N))
theorem Φ79_ok (L N : Nat) : TellsOk Try.prog (Φ79 L N) := addT_ok (Φ113_ok L N) (f79.ok L N (Φ113_ok L N))
def f39.b' {R : Type} (L N : Nat) (k : (List Int) → Option R) (x0 : Graph) (x1 : (List Int)) : Option R :=
  (f32 L N (Graph.mk x0.moves)).bind fun y0 =>
  bif (!y0) then
    k []
  else (f78 L N x1).bind fun y1 =>
  bif (!y1) then
    k []
  else (f79 L N (Graph.mk x0.moves) x1).bind fun y9 =>
  k y9
def f39.b {R : Type} (L N : Nat) (k : (List Int) → Option R) (x0 : Graph) (x1 : (List Int)) : Option R :=
  f39.b' L N k x0 x1
def f39 (L N : Nat) (x0 : Graph) (x1 : (List Int)) : Option ((List Int)) := f39.b L N some x0 x1
def f39.ent (L N : Nat) (args : List AV) (vw : View) (site : Nat) : Ans := match roD [(.st 2), (.sl i64)] vw args with
  | some d => ⟨(List Int), f39 L N d.1 d.2.1, fun y => (RN.av site .row (), [(site, some (mkO none 3 i64 y))], [])⟩
  | none => Ans.no
noncomputable def E39 (L N : Nat) : Env := { P := Try.prog, ty := tyOf, Φ := (Φ79 L N), inl := inlT, live := lives, liveX := livesX, L := L, dp := none, prom := promT, heal := healT, ren := renT }
theorem f39.b_pre {R : Type} (L N : Nat) (κ : RN.Den .row → List Int → Option R) (x0 : Graph) (x1 : (List Int)) :
    evBody (E39 L N) (evCallI (E39 L N) 1 2000) 1000 39 Try.f39 [(.tv (.st 2) x0), (.tv (.sl i64) x1)] [] [] (finN .row none 3 i64 κ)
    = f39.b' L N (fun a0 => κ () a0) x0 x1 := by kernel_rfl
theorem f39.b_eq {R : Type} (L N : Nat) (κ : RN.Den .row → List Int → Option R) (x0 : Graph) (x1 : (List Int)) :
    evBody (E39 L N) (evCallI (E39 L N) 1 2000) 1000 39 Try.f39 [(.tv (.st 2) x0), (.tv (.sl i64) x1)] [] [] (finN .row none 3 i64 κ)
    = f39.b L N (fun a0 => κ () a0) x0 x1 := by
  rw [f39.b_pre]
  unfold f39.b
  rfl
theorem f39.b'_nat {R R' : Type} (j : R → Option R') (L N : Nat) (k : (List Int) → Option R) (x0 : Graph) (x1 : (List Int)) :
    f39.b' L N (fun a0 => (k a0).bind j) x0 x1 = (f39.b' L N k x0 x1).bind j := by
  unfold f39.b'
  repeat' (first | (with_reducible refine cond_nat ?_ ?_) | (with_reducible refine bind_nat fun _ => ?_) | rfl)
theorem f39.b_nat {R R' : Type} (j : R → Option R') (L N : Nat) (k : (List Int) → Option R) (x0 : Graph) (x1 : (List Int)) :
    f39.b L N (fun a0 => (k a0).bind j) x0 x1 = (f39.b L N k x0 x1).bind j := by
  unfold f39.b
  exact f39.b'_nat ..
theorem f39.ok (L N : Nat) (hΦ : TellsOk Try.prog ((Φ79 L N))) : EntOk Try.prog 39 (f39.ent L N) := by
  intro args vw site h
  unfold f39.ent
  split
  · rename_i d ha
    intro y hy hs
    refine call_ron (dep := 1000) (E := (E39 L N)) (ts := [(.st 2), (.sl i64)]) (rn := .row) (q := none) (el := 3) (ty := i64) (d1 := ()) (xs := y) (sound_of hΦ) okP (callI_sound (sound_of hΦ) okP 1 2000) (f := Try.f39) rfl hs ha ?_ rfl site
    refine (f39.b_eq L N (fun d xs => some (d, xs)) d.1 d.2.1).trans ?_
    refine ((f39.b_nat (fun y => (some ((), y) : Option (RN.Den .row × List Int))) L N some d.1 d.2.1)).trans ?_
    rw [show f39.b L N some d.1 d.2.1 = some y from hy]
    rfl
  · intro y hy
    cases hy
def Φ39 (L N : Nat) : Tells := (addT (Φ79 L N) 39 (f39.ent L N))
theorem Φ39_ok (L N : Nat) : TellsOk Try.prog (Φ39 L N) := addT_ok (Φ79_ok L N) (f39.ok L N (Φ79_ok L N))
def f102.s0' {R : Type} (L N : Nat) (n0 : Nat) (k0_e0 : Int → (List Move) → Option R) (rec0 : Int → Int → (List Move) → Option R) (s0 : Int) (s1 : Int) (s2 : (List Move)) : Option R :=
  bif (decide (s1 < (s2.length : Int))) then
    bif (decide (0 ≤ s1) && decide (s1 < (s2.length : Int))) then
      bif (decide (0 ≤ s1) && decide (s1 < ((s2.set s1.toNat (Move.mk s0 ((listAt s2 (Ty.dflt (.st 0)) s1.toNat).to))).length : Int))) then
        rec0 (wi ((wi (s0 + (1 : Int))) + (1 : Int))) (wi (s1 + (1 : Int))) ((s2.set s1.toNat (Move.mk s0 ((listAt s2 (Ty.dflt (.st 0)) s1.toNat).to))).set s1.toNat (Move.mk ((listAt (s2.set s1.toNat (Move.mk s0 ((listAt s2 (Ty.dflt (.st 0)) s1.toNat).to))) (Ty.dflt (.st 0)) s1.toNat).act) (wi (s0 + (1 : Int)))))
      else none
    else none
  else k0_e0 s0 s2
def f102.s0 {R : Type} (L N : Nat) (n0 : Nat) (k0_e0 : Int → (List Move) → Option R) (rec0 : Int → Int → (List Move) → Option R) (s0 : Int) (s1 : Int) (s2 : (List Move)) : Option R :=
  f102.s0' L N n0 k0_e0 rec0 s0 s1 s2
def f102.l0 {R : Type} (L N : Nat) (n0 : Nat) (k0_e0 : Int → (List Move) → Option R) : Nat → Int → Int → (List Move) → Option R
  | 0, _, _, _ => none
  | n + 1, s0, s1, s2 => f102.s0 L N n0 k0_e0 (f102.l0 L N n0 k0_e0 n) s0 s1 s2
def f102.T0 (s0 : Int) (s1 : Int) (s2 : (List Move)) : T := mkT 27 [(0, (.row 0)), (1, (.tv i64 s0)), (5, (.tv i64 s1))] ++ [.row 0]
def f102.H0 (s0 : Int) (s1 : Int) (s2 : (List Move)) : H := [(0, (.row 53 (.st 0) s2))]
def f102.T0_e0 (z3 : Int) (z4 : (List Move)) : T := mkT 27 [(1, (.tv i64 z3))] ++ [.row 0]
def f102.H0_e0 (z3 : Int) (z4 : (List Move)) : H := [(0, (.row 53 (.st 0) z4))]
def f102.p0_e0' {R : Type} (L N : Nat) (n0 : Nat) (k : Int → (List Move) → Option R) (z3 : Int) (z4 : (List Move)) : Option R :=
  bif (Nat.beq z4.length n0) then
    k z3 z4
  else none
def f102.p0_e0 {R : Type} (L N : Nat) (n0 : Nat) (k : Int → (List Move) → Option R) (z3 : Int) (z4 : (List Move)) : Option R :=
  f102.p0_e0' L N n0 k z3 z4
def f102.b' {R : Type} (L N : Nat) (n0 : Nat) (k : Int → (List Move) → Option R) (w0 : Int → Int → (List Move) → Option R) (oo : List Move) (x0 : Int) : Option R :=
  w0 x0 (0 : Int) oo
def f102.b {R : Type} (L N : Nat) (n0 : Nat) (k : Int → (List Move) → Option R) (oo : List Move) (x0 : Int) : Option R :=
  f102.b' L N n0 k (fun s0 s1 s2 => f102.l0 L N n0 (fun z3 z4 => f102.p0_e0 L N n0 k z3 z4) L s0 s1 s2) oo x0
def f102 (L N : Nat) (oo : List Move) (x0 : Int) : Option (Int × (List Move)) := f102.b L N oo.length (fun a0 a1 => some (a0, a1)) oo x0
def f102.ent (L N : Nat) (args : List AV) (vw : View) (site : Nat) : Ans := match ownD none 53 (.st 0) [i64] vw args with
  | some (o, xs, d, u) => ⟨Int × (List Move), f102 L N xs d.1, fun y => ((.tv i64 y.1), u ++ [(o, some (mkO none 53 (.st 0) y.2))], [])⟩
  | none => Ans.no
noncomputable def E102 (L N : Nat) : Env := { P := Try.prog, ty := tyOf, Φ := (Φ39 L N), inl := inlT, live := lives, liveX := livesX, L := L, dp := none, prom := promT, heal := healT, ren := renT }
noncomputable def f102.c0 : Code := loopAt 0 (codeOf Try.f102)
theorem f102.s0_pre {R : Type} (L N n0 : Nat) (κ : Ex → T → H → Option R) (rec : T → H → Option R) (s0 : Int) (s1 : Int) (s2 : (List Move)) :
    evRd (E102 L N) (evCallI (E102 L N) 1 2000) 1000 102 27 0 f102.c0 κ rec (f102.T0 s0 s1 s2) (f102.H0 s0 s1 s2)
    = f102.s0' L N n0 (fun z3 z4 => κ (.exit 0) (f102.T0_e0 z3 z4) (f102.H0_e0 z3 z4)) (fun s0 s1 s2 => rec (f102.T0 s0 s1 s2) (f102.H0 s0 s1 s2)) s0 s1 s2 := by kernel_rfl
theorem f102.s0_eq {R : Type} (L N n0 : Nat) (κ : Ex → T → H → Option R) (rec : T → H → Option R) (s0 : Int) (s1 : Int) (s2 : (List Move)) :
    evRd (E102 L N) (evCallI (E102 L N) 1 2000) 1000 102 27 0 f102.c0 κ rec (f102.T0 s0 s1 s2) (f102.H0 s0 s1 s2)
    = f102.s0 L N n0 (fun z3 z4 => κ (.exit 0) (f102.T0_e0 z3 z4) (f102.H0_e0 z3 z4)) (fun s0 s1 s2 => rec (f102.T0 s0 s1 s2) (f102.H0 s0 s1 s2)) s0 s1 s2 := by
  rw [f102.s0_pre L N n0]
  unfold f102.s0
  rfl
theorem f102.l0_eq {R : Type} (L N n0 : Nat) (κ : Ex → T → H → Option R) : ∀ (n : Nat) (s0 : Int) (s1 : Int) (s2 : (List Move)),
    evLp (E102 L N) (evCallI (E102 L N) 1 2000) 1000 102 27 0 f102.c0 κ n (f102.T0 s0 s1 s2) (f102.H0 s0 s1 s2)
    = f102.l0 L N n0 (fun z3 z4 => κ (.exit 0) (f102.T0_e0 z3 z4) (f102.H0_e0 z3 z4)) n s0 s1 s2 := by
  intro n
  induction n with
  | zero => intros; rfl
  | succ n ih =>
    intro s0 s1 s2
    rw [evLp_succ, f102.s0_eq L N n0]
    simp only [ih]
    rfl
theorem f102.p0_e0_pre {R : Type} (L N n0 : Nat) (κ : AV → List Move → Option R) (z3 : Int) (z4 : (List Move)) :
    (contAt (E102 L N) (evCallI (E102 L N) 1 2000) 1000 102 27 0 (codeOf Try.f102) (finK (E102 L N) 1000 Try.f102 (finO (.one i64) none 53 (.st 0) n0 κ))) (.exit 0) (f102.T0_e0 z3 z4) (f102.H0_e0 z3 z4)
    = f102.p0_e0' L N n0 (fun a0 a1 => κ (.tv i64 a0) a1) z3 z4 := by kernel_rfl
theorem f102.p0_e0_eq {R : Type} (L N n0 : Nat) (κ : AV → List Move → Option R) (z3 : Int) (z4 : (List Move)) :
    (contAt (E102 L N) (evCallI (E102 L N) 1 2000) 1000 102 27 0 (codeOf Try.f102) (finK (E102 L N) 1000 Try.f102 (finO (.one i64) none 53 (.st 0) n0 κ))) (.exit 0) (f102.T0_e0 z3 z4) (f102.H0_e0 z3 z4)
    = f102.p0_e0 L N n0 (fun a0 a1 => κ (.tv i64 a0) a1) z3 z4 := by
  rw [f102.p0_e0_pre L N n0]
  unfold f102.p0_e0
  rfl
theorem f102.b_pre {R : Type} (L N n0 : Nat) (κ : AV → List Move → Option R) (oo : List Move) (x0 : Int) :
    evBody (E102 L N) (evCallI (E102 L N) 1 2000) 1000 102 Try.f102 [(.row 0), (.tv i64 x0)] [.row 0] [(0, (.row 53 (.st 0) oo))] (finO (.one i64) none 53 (.st 0) n0 κ)
    = f102.b' L N n0 (fun a0 a1 => κ (.tv i64 a0) a1) (fun s0 s1 s2 => evLp (E102 L N) (evCallI (E102 L N) 1 2000) 1000 102 27 0 f102.c0 (contAt (E102 L N) (evCallI (E102 L N) 1 2000) 1000 102 27 0 (codeOf Try.f102) (finK (E102 L N) 1000 Try.f102 (finO (.one i64) none 53 (.st 0) n0 κ))) L (f102.T0 s0 s1 s2) (f102.H0 s0 s1 s2)) oo x0 := by kernel_rfl
theorem f102.b_eq {R : Type} (L N n0 : Nat) (κ : AV → List Move → Option R) (oo : List Move) (x0 : Int) :
    evBody (E102 L N) (evCallI (E102 L N) 1 2000) 1000 102 Try.f102 [(.row 0), (.tv i64 x0)] [.row 0] [(0, (.row 53 (.st 0) oo))] (finO (.one i64) none 53 (.st 0) n0 κ)
    = f102.b L N n0 (fun a0 a1 => κ (.tv i64 a0) a1) oo x0 := by
  rw [f102.b_pre L N n0]
  unfold f102.b
  simp only [f102.l0_eq L N n0, f102.p0_e0_eq L N n0]
theorem f102.s0'_nat {R R' : Type} (j : R → Option R') (L N : Nat) (n0 : Nat) (k0_e0 : Int → (List Move) → Option R) (rec0 : Int → Int → (List Move) → Option R) (s0 : Int) (s1 : Int) (s2 : (List Move)) :
    f102.s0' L N n0 (fun a0 a1 => (k0_e0 a0 a1).bind j) (fun a0 a1 a2 => (rec0 a0 a1 a2).bind j) s0 s1 s2 = (f102.s0' L N n0 k0_e0 rec0 s0 s1 s2).bind j := by
  unfold f102.s0'
  repeat' (first | (with_reducible refine cond_nat ?_ ?_) | (with_reducible refine bind_nat fun _ => ?_) | rfl)
theorem f102.s0_nat {R R' : Type} (j : R → Option R') (L N : Nat) (n0 : Nat) (k0_e0 : Int → (List Move) → Option R) (rec0 : Int → Int → (List Move) → Option R) (s0 : Int) (s1 : Int) (s2 : (List Move)) :
    f102.s0 L N n0 (fun a0 a1 => (k0_e0 a0 a1).bind j) (fun a0 a1 a2 => (rec0 a0 a1 a2).bind j) s0 s1 s2 = (f102.s0 L N n0 k0_e0 rec0 s0 s1 s2).bind j := by
  unfold f102.s0
  exact f102.s0'_nat ..
theorem f102.l0_nat {R R' : Type} (j : R → Option R') (L N : Nat) (n0 : Nat) (k0_e0 : Int → (List Move) → Option R) : ∀ (n : Nat) (s0 : Int) (s1 : Int) (s2 : (List Move)),
    f102.l0 L N n0 (fun a0 a1 => (k0_e0 a0 a1).bind j) n s0 s1 s2 = (f102.l0 L N n0 k0_e0 n s0 s1 s2).bind j := by
  intro n
  induction n with
  | zero => intros; rfl
  | succ n ih =>
    intro s0 s1 s2
    show f102.s0 L N n0 (fun a0 a1 => (k0_e0 a0 a1).bind j) (f102.l0 L N n0 (fun a0 a1 => (k0_e0 a0 a1).bind j) n) s0 s1 s2 = _
    rw [show f102.l0 L N n0 (fun a0 a1 => (k0_e0 a0 a1).bind j) n = (fun s0 s1 s2 => (f102.l0 L N n0 k0_e0 n s0 s1 s2).bind j) from funext fun s0 => funext fun s1 => funext fun s2 => ih s0 s1 s2]
    exact f102.s0_nat ..
theorem f102.p0_e0'_nat {R R' : Type} (j : R → Option R') (L N : Nat) (n0 : Nat) (k : Int → (List Move) → Option R) (z3 : Int) (z4 : (List Move)) :
    f102.p0_e0' L N n0 (fun a0 a1 => (k a0 a1).bind j) z3 z4 = (f102.p0_e0' L N n0 k z3 z4).bind j := by
  unfold f102.p0_e0'
  repeat' (first | (with_reducible refine cond_nat ?_ ?_) | (with_reducible refine bind_nat fun _ => ?_) | rfl)
theorem f102.p0_e0_nat {R R' : Type} (j : R → Option R') (L N : Nat) (n0 : Nat) (k : Int → (List Move) → Option R) (z3 : Int) (z4 : (List Move)) :
    f102.p0_e0 L N n0 (fun a0 a1 => (k a0 a1).bind j) z3 z4 = (f102.p0_e0 L N n0 k z3 z4).bind j := by
  unfold f102.p0_e0
  exact f102.p0_e0'_nat ..
theorem f102.b'_nat {R R' : Type} (j : R → Option R') (L N : Nat) (n0 : Nat) (k : Int → (List Move) → Option R) (w0 : Int → Int → (List Move) → Option R) (oo : List Move) (x0 : Int) :
    f102.b' L N n0 (fun a0 a1 => (k a0 a1).bind j) (fun a0 a1 a2 => (w0 a0 a1 a2).bind j) oo x0 = (f102.b' L N n0 k w0 oo x0).bind j := by
  unfold f102.b'
  repeat' (first | (with_reducible refine cond_nat ?_ ?_) | (with_reducible refine bind_nat fun _ => ?_) | rfl)
theorem f102.b_nat {R R' : Type} (j : R → Option R') (L N : Nat) (n0 : Nat) (k : Int → (List Move) → Option R) (oo : List Move) (x0 : Int) :
    f102.b L N n0 (fun a0 a1 => (k a0 a1).bind j) oo x0 = (f102.b L N n0 k oo x0).bind j := by
  unfold f102.b
  simp only [f102.l0_nat, f102.p0_e0_nat]
  exact f102.b'_nat ..
theorem f102.ok (L N : Nat) (hΦ : TellsOk Try.prog ((Φ39 L N))) : EntOk Try.prog 102 (f102.ent L N) := by
  intro args vw site h
  unfold f102.ent
  split
  · rename_i o xs d u ha
    intro y hy hs
    obtain ⟨rest, rfl, ho, hr, hu⟩ := ownD_some ha
    refine call_own (dep := 1000) (E := (E102 L N)) (tr := [i64]) (q := none) (el := 53) (ty := (.st 0)) (rs := (.one i64)) (v' := (.tv i64 y.1)) (ys := y.2) (sound_of hΦ) okP (callI_sound (sound_of hΦ) okP 1 2000) (f := Try.f102) rfl hs ho hr hu ?_ site
    refine (f102.b_eq L N xs.length (fun v d => some (v, d)) xs d.1).trans ?_
    refine ((f102.b_nat (fun y => (some ((.tv i64 y.1), y.2) : Option (AV × List Move))) L N xs.length (fun a0 a1 => some (a0, a1)) xs d.1)).trans ?_
    rw [show f102.b L N xs.length (fun a0 a1 => some (a0, a1)) xs d.1 = some y from hy]
    rfl
  · intro y hy
    cases hy
def Φ102 (L N : Nat) : Tells := (addT (Φ39 L N) 102 (f102.ent L N))
theorem Φ102_ok (L N : Nat) : TellsOk Try.prog (Φ102 L N) := addT_ok (Φ39_ok L N) (f102.ok L N (Φ39_ok L N))
def f66.s0' {R : Type} (L N : Nat) (n0 : Nat) (k0_e0 : Int → (List (List Move)) → Option R) (rec0 : Int → Int → (List (List Move)) → Option R) (s0 : Int) (s1 : Int) (s2 : (List (List Move))) : Option R :=
  bif (decide (s1 < (s2.length : Int))) then
    bif (decide (0 ≤ s1) && decide (s1 < (s2.length : Int))) then
      (f102 L N (listAt s2 [] s1.toNat) s0).bind fun y5 =>
      rec0 y5.1 (wi (s1 + (1 : Int))) (s2.set s1.toNat y5.2)
    else none
  else k0_e0 s0 s2
def f66.s0 {R : Type} (L N : Nat) (n0 : Nat) (k0_e0 : Int → (List (List Move)) → Option R) (rec0 : Int → Int → (List (List Move)) → Option R) (s0 : Int) (s1 : Int) (s2 : (List (List Move))) : Option R :=
  f66.s0' L N n0 k0_e0 rec0 s0 s1 s2
def f66.l0 {R : Type} (L N : Nat) (n0 : Nat) (k0_e0 : Int → (List (List Move)) → Option R) : Nat → Int → Int → (List (List Move)) → Option R
  | 0, _, _, _ => none
  | n + 1, s0, s1, s2 => f66.s0 L N n0 k0_e0 (f66.l0 L N n0 k0_e0 n) s0 s1 s2
def f66.T0 (s0 : Int) (s1 : Int) (s2 : (List (List Move))) : T := mkT 19 [(0, (.row 0)), (1, (.tv i64 s0)), (5, (.tv i64 s1))] ++ [.row 0]
def f66.H0 (s0 : Int) (s1 : Int) (s2 : (List (List Move))) : H := [(0, (.deep 0 (.sl (.st 0)) s2 none))]
def f66.T0_e0 (z3 : Int) (z4 : (List (List Move))) : T := mkT 19 [(1, (.tv i64 z3))] ++ [.row 0]
def f66.H0_e0 (z3 : Int) (z4 : (List (List Move))) : H := [(0, (.deep 0 (.sl (.st 0)) z4 none))]
def f66.p0_e0' {R : Type} (L N : Nat) (n0 : Nat) (k : Int → (List (List Move)) → Option R) (z3 : Int) (z4 : (List (List Move))) : Option R :=
  bif (Nat.beq z4.length n0) then
    k z3 z4
  else none
def f66.p0_e0 {R : Type} (L N : Nat) (n0 : Nat) (k : Int → (List (List Move)) → Option R) (z3 : Int) (z4 : (List (List Move))) : Option R :=
  f66.p0_e0' L N n0 k z3 z4
def f66.b' {R : Type} (L N : Nat) (n0 : Nat) (k : Int → (List (List Move)) → Option R) (w0 : Int → Int → (List (List Move)) → Option R) (oo : List (List Move)) (x0 : Int) : Option R :=
  w0 x0 (0 : Int) oo
def f66.b {R : Type} (L N : Nat) (n0 : Nat) (k : Int → (List (List Move)) → Option R) (oo : List (List Move)) (x0 : Int) : Option R :=
  f66.b' L N n0 k (fun s0 s1 s2 => f66.l0 L N n0 (fun z3 z4 => f66.p0_e0 L N n0 k z3 z4) L s0 s1 s2) oo x0
def f66 (L N : Nat) (oo : List (List Move)) (x0 : Int) : Option (Int × (List (List Move))) := f66.b L N oo.length (fun a0 a1 => some (a0, a1)) oo x0
def f66.ent (L N : Nat) (args : List AV) (vw : View) (site : Nat) : Ans := match ownD (some 0) 51 (.sl (.st 0)) [i64] vw args with
  | some (o, xs, d, u) => ⟨Int × (List (List Move)), f66 L N xs d.1, fun y => ((.tv i64 y.1), u ++ [(o, some (mkO (some 0) 51 (.sl (.st 0)) y.2))], [])⟩
  | none => Ans.no
noncomputable def E66 (L N : Nat) : Env := { P := Try.prog, ty := tyOf, Φ := (Φ102 L N), inl := inlT, live := lives, liveX := livesX, L := L, dp := none, prom := promT, heal := healT, ren := renT }
noncomputable def f66.c0 : Code := loopAt 0 (codeOf Try.f66)
theorem f66.s0_pre {R : Type} (L N n0 : Nat) (κ : Ex → T → H → Option R) (rec : T → H → Option R) (s0 : Int) (s1 : Int) (s2 : (List (List Move))) :
    evRd (E66 L N) (evCallI (E66 L N) 1 2000) 1000 66 19 0 f66.c0 κ rec (f66.T0 s0 s1 s2) (f66.H0 s0 s1 s2)
    = f66.s0' L N n0 (fun z3 z4 => κ (.exit 0) (f66.T0_e0 z3 z4) (f66.H0_e0 z3 z4)) (fun s0 s1 s2 => rec (f66.T0 s0 s1 s2) (f66.H0 s0 s1 s2)) s0 s1 s2 := by kernel_rfl
theorem f66.s0_eq {R : Type} (L N n0 : Nat) (κ : Ex → T → H → Option R) (rec : T → H → Option R) (s0 : Int) (s1 : Int) (s2 : (List (List Move))) :
    evRd (E66 L N) (evCallI (E66 L N) 1 2000) 1000 66 19 0 f66.c0 κ rec (f66.T0 s0 s1 s2) (f66.H0 s0 s1 s2)
    = f66.s0 L N n0 (fun z3 z4 => κ (.exit 0) (f66.T0_e0 z3 z4) (f66.H0_e0 z3 z4)) (fun s0 s1 s2 => rec (f66.T0 s0 s1 s2) (f66.H0 s0 s1 s2)) s0 s1 s2 := by
  rw [f66.s0_pre L N n0]
  unfold f66.s0
  rfl
theorem f66.l0_eq {R : Type} (L N n0 : Nat) (κ : Ex → T → H → Option R) : ∀ (n : Nat) (s0 : Int) (s1 : Int) (s2 : (List (List Move))),
    evLp (E66 L N) (evCallI (E66 L N) 1 2000) 1000 66 19 0 f66.c0 κ n (f66.T0 s0 s1 s2) (f66.H0 s0 s1 s2)
    = f66.l0 L N n0 (fun z3 z4 => κ (.exit 0) (f66.T0_e0 z3 z4) (f66.H0_e0 z3 z4)) n s0 s1 s2 := by
  intro n
  induction n with
  | zero => intros; rfl
  | succ n ih =>
    intro s0 s1 s2
    rw [evLp_succ, f66.s0_eq L N n0]
    simp only [ih]
    rfl
theorem f66.p0_e0_pre {R : Type} (L N n0 : Nat) (κ : AV → List (List Move) → Option R) (z3 : Int) (z4 : (List (List Move))) :
    (contAt (E66 L N) (evCallI (E66 L N) 1 2000) 1000 66 19 0 (codeOf Try.f66) (finK (E66 L N) 1000 Try.f66 (finO (.one i64) (some 0) 51 (.sl (.st 0)) n0 κ))) (.exit 0) (f66.T0_e0 z3 z4) (f66.H0_e0 z3 z4)
    = f66.p0_e0' L N n0 (fun a0 a1 => κ (.tv i64 a0) a1) z3 z4 := by kernel_rfl
theorem f66.p0_e0_eq {R : Type} (L N n0 : Nat) (κ : AV → List (List Move) → Option R) (z3 : Int) (z4 : (List (List Move))) :
    (contAt (E66 L N) (evCallI (E66 L N) 1 2000) 1000 66 19 0 (codeOf Try.f66) (finK (E66 L N) 1000 Try.f66 (finO (.one i64) (some 0) 51 (.sl (.st 0)) n0 κ))) (.exit 0) (f66.T0_e0 z3 z4) (f66.H0_e0 z3 z4)
    = f66.p0_e0 L N n0 (fun a0 a1 => κ (.tv i64 a0) a1) z3 z4 := by
  rw [f66.p0_e0_pre L N n0]
  unfold f66.p0_e0
  rfl
theorem f66.b_pre {R : Type} (L N n0 : Nat) (κ : AV → List (List Move) → Option R) (oo : List (List Move)) (x0 : Int) :
    evBody (E66 L N) (evCallI (E66 L N) 1 2000) 1000 66 Try.f66 [(.row 0), (.tv i64 x0)] [.row 0] [(0, (.deep 0 (.sl (.st 0)) oo none))] (finO (.one i64) (some 0) 51 (.sl (.st 0)) n0 κ)
    = f66.b' L N n0 (fun a0 a1 => κ (.tv i64 a0) a1) (fun s0 s1 s2 => evLp (E66 L N) (evCallI (E66 L N) 1 2000) 1000 66 19 0 f66.c0 (contAt (E66 L N) (evCallI (E66 L N) 1 2000) 1000 66 19 0 (codeOf Try.f66) (finK (E66 L N) 1000 Try.f66 (finO (.one i64) (some 0) 51 (.sl (.st 0)) n0 κ))) L (f66.T0 s0 s1 s2) (f66.H0 s0 s1 s2)) oo x0 := by kernel_rfl
theorem f66.b_eq {R : Type} (L N n0 : Nat) (κ : AV → List (List Move) → Option R) (oo : List (List Move)) (x0 : Int) :
    evBody (E66 L N) (evCallI (E66 L N) 1 2000) 1000 66 Try.f66 [(.row 0), (.tv i64 x0)] [.row 0] [(0, (.deep 0 (.sl (.st 0)) oo none))] (finO (.one i64) (some 0) 51 (.sl (.st 0)) n0 κ)
    = f66.b L N n0 (fun a0 a1 => κ (.tv i64 a0) a1) oo x0 := by
  rw [f66.b_pre L N n0]
  unfold f66.b
  simp only [f66.l0_eq L N n0, f66.p0_e0_eq L N n0]
theorem f66.s0'_nat {R R' : Type} (j : R → Option R') (L N : Nat) (n0 : Nat) (k0_e0 : Int → (List (List Move)) → Option R) (rec0 : Int → Int → (List (List Move)) → Option R) (s0 : Int) (s1 : Int) (s2 : (List (List Move))) :
    f66.s0' L N n0 (fun a0 a1 => (k0_e0 a0 a1).bind j) (fun a0 a1 a2 => (rec0 a0 a1 a2).bind j) s0 s1 s2 = (f66.s0' L N n0 k0_e0 rec0 s0 s1 s2).bind j := by
  unfold f66.s0'
  repeat' (first | (with_reducible refine cond_nat ?_ ?_) | (with_reducible refine bind_nat fun _ => ?_) | rfl)
theorem f66.s0_nat {R R' : Type} (j : R → Option R') (L N : Nat) (n0 : Nat) (k0_e0 : Int → (List (List Move)) → Option R) (rec0 : Int → Int → (List (List Move)) → Option R) (s0 : Int) (s1 : Int) (s2 : (List (List Move))) :
    f66.s0 L N n0 (fun a0 a1 => (k0_e0 a0 a1).bind j) (fun a0 a1 a2 => (rec0 a0 a1 a2).bind j) s0 s1 s2 = (f66.s0 L N n0 k0_e0 rec0 s0 s1 s2).bind j := by
  unfold f66.s0
  exact f66.s0'_nat ..
theorem f66.l0_nat {R R' : Type} (j : R → Option R') (L N : Nat) (n0 : Nat) (k0_e0 : Int → (List (List Move)) → Option R) : ∀ (n : Nat) (s0 : Int) (s1 : Int) (s2 : (List (List Move))),
    f66.l0 L N n0 (fun a0 a1 => (k0_e0 a0 a1).bind j) n s0 s1 s2 = (f66.l0 L N n0 k0_e0 n s0 s1 s2).bind j := by
  intro n
  induction n with
  | zero => intros; rfl
  | succ n ih =>
    intro s0 s1 s2
    show f66.s0 L N n0 (fun a0 a1 => (k0_e0 a0 a1).bind j) (f66.l0 L N n0 (fun a0 a1 => (k0_e0 a0 a1).bind j) n) s0 s1 s2 = _
    rw [show f66.l0 L N n0 (fun a0 a1 => (k0_e0 a0 a1).bind j) n = (fun s0 s1 s2 => (f66.l0 L N n0 k0_e0 n s0 s1 s2).bind j) from funext fun s0 => funext fun s1 => funext fun s2 => ih s0 s1 s2]
    exact f66.s0_nat ..
theorem f66.p0_e0'_nat {R R' : Type} (j : R → Option R') (L N : Nat) (n0 : Nat) (k : Int → (List (List Move)) → Option R) (z3 : Int) (z4 : (List (List Move))) :
    f66.p0_e0' L N n0 (fun a0 a1 => (k a0 a1).bind j) z3 z4 = (f66.p0_e0' L N n0 k z3 z4).bind j := by
  unfold f66.p0_e0'
  repeat' (first | (with_reducible refine cond_nat ?_ ?_) | (with_reducible refine bind_nat fun _ => ?_) | rfl)
theorem f66.p0_e0_nat {R R' : Type} (j : R → Option R') (L N : Nat) (n0 : Nat) (k : Int → (List (List Move)) → Option R) (z3 : Int) (z4 : (List (List Move))) :
    f66.p0_e0 L N n0 (fun a0 a1 => (k a0 a1).bind j) z3 z4 = (f66.p0_e0 L N n0 k z3 z4).bind j := by
  unfold f66.p0_e0
  exact f66.p0_e0'_nat ..
theorem f66.b'_nat {R R' : Type} (j : R → Option R') (L N : Nat) (n0 : Nat) (k : Int → (List (List Move)) → Option R) (w0 : Int → Int → (List (List Move)) → Option R) (oo : List (List Move)) (x0 : Int) :
    f66.b' L N n0 (fun a0 a1 => (k a0 a1).bind j) (fun a0 a1 a2 => (w0 a0 a1 a2).bind j) oo x0 = (f66.b' L N n0 k w0 oo x0).bind j := by
  unfold f66.b'
  repeat' (first | (with_reducible refine cond_nat ?_ ?_) | (with_reducible refine bind_nat fun _ => ?_) | rfl)
theorem f66.b_nat {R R' : Type} (j : R → Option R') (L N : Nat) (n0 : Nat) (k : Int → (List (List Move)) → Option R) (oo : List (List Move)) (x0 : Int) :
    f66.b L N n0 (fun a0 a1 => (k a0 a1).bind j) oo x0 = (f66.b L N n0 k oo x0).bind j := by
  unfold f66.b
  simp only [f66.l0_nat, f66.p0_e0_nat]
  exact f66.b'_nat ..
theorem f66.ok (L N : Nat) (hΦ : TellsOk Try.prog ((Φ102 L N))) : EntOk Try.prog 66 (f66.ent L N) := by
  intro args vw site h
  unfold f66.ent
  split
  · rename_i o xs d u ha
    intro y hy hs
    obtain ⟨rest, rfl, ho, hr, hu⟩ := ownD_some ha
    refine call_own (dep := 1000) (E := (E66 L N)) (tr := [i64]) (q := (some 0)) (el := 51) (ty := (.sl (.st 0))) (rs := (.one i64)) (v' := (.tv i64 y.1)) (ys := y.2) (sound_of hΦ) okP (callI_sound (sound_of hΦ) okP 1 2000) (f := Try.f66) rfl hs ho hr hu ?_ site
    refine (f66.b_eq L N xs.length (fun v d => some (v, d)) xs d.1).trans ?_
    refine ((f66.b_nat (fun y => (some ((.tv i64 y.1), y.2) : Option (AV × List (List Move)))) L N xs.length (fun a0 a1 => some (a0, a1)) xs d.1)).trans ?_
    rw [show f66.b L N xs.length (fun a0 a1 => some (a0, a1)) xs d.1 = some y from hy]
    rfl
  · intro y hy
    cases hy
def Φ66 (L N : Nat) : Tells := (addT (Φ102 L N) 66 (f66.ent L N))
theorem Φ66_ok (L N : Nat) : TellsOk Try.prog (Φ66 L N) := addT_ok (Φ102_ok L N) (f66.ok L N (Φ102_ok L N))
def f6.j0' {R : Type} (L N : Nat) (k : Bool → Option R) (v20 : (List Int)) (v21 : (List Int)) (v22 : (List (List Move))) (v23 : (List Int)) : Option R :=
  (f26 L N v23 (1 : Int)).bind fun y24 =>
  (f27 L N y24.2 (1 : Int)).bind fun y25 =>
  bif (decide (y25 < (0 : Int))) then
    k false
  else bif (y25 != y24.1) then
    k false
  else (f18 L N (Graph.mk v22)).bind fun y26 =>
  (f36 L N v20).bind fun y27 =>
  (f39 L N (Graph.mk y26) y27).bind fun y28 =>
  (f21 L N y28 v21).bind fun y29 =>
  bif (!y29) then
    k false
  else (f27 L N y24.2 (1 : Int)).bind fun y30 =>
  bif (decide (y30 < (0 : Int))) then
    k false
  else bif (y30 != y24.1) then
    k false
  else k true
def f6.b' {R : Type} (L N : Nat) (k : Bool → Option R) (x0 : Graph) (x1 : (List Int)) : Option R :=
  bif (decide ((x1.length : Int) > (1048576 : Int))) then
    k true
  else (f15 L N (Graph.mk x0.moves) (1048576 : Int)).bind fun y0 =>
  bif (decide (y0 < (0 : Int))) then
    k true
  else (f18 L N (Graph.mk x0.moves)).bind fun y1 =>
  (f36 L N x1).bind fun y2 =>
  (f38 L N (Graph.mk y1) y2).bind fun y3 =>
  (f18 L N (Graph.mk x0.moves)).bind fun y4 =>
  (f36 L N x1).bind fun y5 =>
  (f39 L N (Graph.mk y4) y5).bind fun y6 =>
  (f21 L N y6 y3).bind fun y7 =>
  bif (!y7) then
    k false
  else (f18 L N (Graph.mk x0.moves)).bind fun y8 =>
  (f22 L N (Graph.mk y4) (Graph.mk y8)).bind fun y9 =>
  bif (!y9) then
    k false
  else (f36 L N x1).bind fun y10 =>
  (f21 L N y5 y10).bind fun y11 =>
  bif (!y11) then
    k false
  else (f66 L N y4 (1 : Int)).bind fun y12 =>
  (f26 L N y5 y12.1).bind fun y13 =>
  bif (decide (y13.1 < (0 : Int))) then
    k false
  else (f21 L N y6 y3).bind fun y14 =>
  bif (!y14) then
    k false
  else f6.j0' L N k x1 y3 x0.moves y6
def f6.b {R : Type} (L N : Nat) (k : Bool → Option R) (x0 : Graph) (x1 : (List Int)) : Option R :=
  f6.b' L N k x0 x1
def f6 (L N : Nat) (x0 : Graph) (x1 : (List Int)) : Option (Bool) := f6.b L N some x0 x1
def f6.ent (L N : Nat) (args : List AV) (vw : View) (site : Nat) : Ans := match roD [(.st 2), (.sl i64)] vw args with
  | some d => ⟨Bool, f6 L N d.1 d.2.1, fun y => ((.tv .bool y), [], [])⟩
  | none => Ans.no
noncomputable def E6 (L N : Nat) : Env := { P := Try.prog, ty := tyOf, Φ := (Φ66 L N), inl := inlT, live := lives, liveX := livesX, L := L, dp := none, prom := promT, heal := healT, ren := renT }
theorem f6.b_pre {R : Type} (L N : Nat) (κ : AV → Option R) (x0 : Graph) (x1 : (List Int)) :
    evBody (E6 L N) (evCallI (E6 L N) 1 2000) 1000 6 Try.f6 [(.tv (.st 2) x0), (.tv (.sl i64) x1)] [] [] (finC (.one .bool) κ)
    = f6.b' L N (fun a0 => κ (.tv .bool a0)) x0 x1 := by kernel_rfl
theorem f6.b_eq {R : Type} (L N : Nat) (κ : AV → Option R) (x0 : Graph) (x1 : (List Int)) :
    evBody (E6 L N) (evCallI (E6 L N) 1 2000) 1000 6 Try.f6 [(.tv (.st 2) x0), (.tv (.sl i64) x1)] [] [] (finC (.one .bool) κ)
    = f6.b L N (fun a0 => κ (.tv .bool a0)) x0 x1 := by
  rw [f6.b_pre]
  unfold f6.b
  rfl
theorem f6.j0'_nat {R R' : Type} (j : R → Option R') (L N : Nat) (k : Bool → Option R) (v20 : (List Int)) (v21 : (List Int)) (v22 : (List (List Move))) (v23 : (List Int)) :
    f6.j0' L N (fun a0 => (k a0).bind j) v20 v21 v22 v23 = (f6.j0' L N k v20 v21 v22 v23).bind j := by
  unfold f6.j0'
  repeat' (first | (with_reducible refine cond_nat ?_ ?_) | (with_reducible refine bind_nat fun _ => ?_) | rfl)
theorem f6.b'_nat {R R' : Type} (j : R → Option R') (L N : Nat) (k : Bool → Option R) (x0 : Graph) (x1 : (List Int)) :
    f6.b' L N (fun a0 => (k a0).bind j) x0 x1 = (f6.b' L N k x0 x1).bind j := by
  unfold f6.b'
  repeat' (first | (with_reducible refine cond_nat ?_ ?_) | (with_reducible refine bind_nat fun _ => ?_) | exact f6.j0'_nat .. | rfl)
theorem f6.b_nat {R R' : Type} (j : R → Option R') (L N : Nat) (k : Bool → Option R) (x0 : Graph) (x1 : (List Int)) :
    f6.b L N (fun a0 => (k a0).bind j) x0 x1 = (f6.b L N k x0 x1).bind j := by
  unfold f6.b
  exact f6.b'_nat ..
theorem f6.ok (L N : Nat) (hΦ : TellsOk Try.prog ((Φ66 L N))) : EntOk Try.prog 6 (f6.ent L N) := by
  intro args vw site h
  unfold f6.ent
  split
  · rename_i d ha
    intro y hy hs
    refine call_ro (dep := 1000) (E := (E6 L N)) (rs := (.one .bool)) (v := (.tv .bool y)) (sound_of hΦ) okP (callI_sound (sound_of hΦ) okP 1 2000) (f := Try.f6) rfl hs ha ?_ rfl site
    refine (f6.b_eq L N some d.1 d.2.1).trans ?_
    refine ((f6.b_nat (fun y => (some (.tv .bool y) : Option AV)) L N some d.1 d.2.1)).trans ?_
    rw [show f6.b L N some d.1 d.2.1 = some y from hy]
    rfl
  · intro y hy
    cases hy
def Φ6 (L N : Nat) : Tells := (addT (Φ66 L N) 6 (f6.ent L N))
theorem Φ6_ok (L N : Nat) : TellsOk Try.prog (Φ6 L N) := addT_ok (Φ66_ok L N) (f6.ok L N (Φ66_ok L N))
end Go.Proofs.Ytdfjdbpklbehoaa.Ev
