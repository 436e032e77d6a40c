/- The seat's functions as plain functions, continued: made by program (wip/gen/gen.py). -/
import Derived.Test.YtffkhhblppfbfaaGE3a
namespace Go.Proofs.Ytffkhhblppfbfaa.Ev
open Go
set_option linter.unusedVariables false
set_option maxRecDepth 20000
def Φ9 (L N : Nat) : Tells := (addT (Φ33 L N) 9 (f9.ent L N))
theorem Φ9_ok (L N : Nat) : TellsOk Try.prog (Φ9 L N) := addT_ok (Φ33_ok L N) (f9.ok L N (Φ33_ok L N))
def f10.b' {R : Type} (L N : Nat) (self10 : Tree → Tree → Option (Bool)) (self34 : LT → LT → Option (Bool)) (k : Bool → Option R) (x0 : Tree) (x1 : Tree) : Option R :=
  bif (x0.op != x1.op) then
    k false
  else bif (x0.n != x1.n) then
    k false
  else (self34 x0.parts x1.parts).bind fun y0 =>
  bif (!y0) then
    k false
  else k true
def f10.b {R : Type} (L N : Nat) (self10 : Tree → Tree → Option (Bool)) (self34 : LT → LT → Option (Bool)) (k : Bool → Option R) (x0 : Tree) (x1 : Tree) : Option R :=
  f10.b' L N self10 self34 k x0 x1
def f34.s0' {R : Type} (L N : Nat) (self10 : Tree → Tree → Option (Bool)) (self34 : LT → LT → Option (Bool)) (k0_e0 : Option R) (k0_r : Bool → Option R) (rec0 : LT → LT → Int → Option R) (s0 : LT) (s1 : LT) (s2 : Int) : Option R :=
  bif (decide (s2 < (s0.length : Int))) then
    bif (decide (0 ≤ s2) && decide (s2 < (s0.length : Int))) then
      bif (decide (0 ≤ s2) && decide (s2 < (s1.length : Int))) then
        (self10 (listAt s0 (Ty.dflt (.st 1)) s2.toNat) (listAt s1 (Ty.dflt (.st 1)) s2.toNat)).bind fun y3 =>
        bif (!y3) then
          k0_r false
        else rec0 s0 s1 (wi (s2 + (1 : Int)))
      else none
    else none
  else k0_e0
def f34.s0 {R : Type} (L N : Nat) (self10 : Tree → Tree → Option (Bool)) (self34 : LT → LT → Option (Bool)) (k0_e0 : Option R) (k0_r : Bool → Option R) (rec0 : LT → LT → Int → Option R) (s0 : LT) (s1 : LT) (s2 : Int) : Option R :=
  f34.s0' L N self10 self34 k0_e0 k0_r rec0 s0 s1 s2
def f34.l0 {R : Type} (L N : Nat) (self10 : Tree → Tree → Option (Bool)) (self34 : LT → LT → Option (Bool)) (k0_e0 : Option R) (k0_r : Bool → Option R) : Nat → LT → LT → Int → Option R
  | 0, _, _, _ => none
  | n + 1, s0, s1, s2 => f34.s0 L N self10 self34 k0_e0 k0_r (f34.l0 L N self10 self34 k0_e0 k0_r n) s0 s1 s2
def f34.T0 (s0 : LT) (s1 : LT) (s2 : Int) : T := mkT 27 [(0, (.tv (.sl (.st 1)) s0)), (1, (.tv (.sl (.st 1)) s1)), (5, (.tv i64 s2))]
def f34.H0 (s0 : LT) (s1 : LT) (s2 : Int) : H := []
def f34.T0_e0 : T := mkT 27 []
def f34.H0_e0 : H := []
def f34.T0_r (z4 : Bool) : T := mkT 27 [(4, (.tv .bool z4))]
def f34.H0_r (z4 : Bool) : H := []
def f34.p0_e0' {R : Type} (L N : Nat) (self10 : Tree → Tree → Option (Bool)) (self34 : LT → LT → Option (Bool)) (k : Bool → Option R) : Option R :=
  k true
def f34.p0_e0 {R : Type} (L N : Nat) (self10 : Tree → Tree → Option (Bool)) (self34 : LT → LT → Option (Bool)) (k : Bool → Option R) : Option R :=
  f34.p0_e0' L N self10 self34 k
def f34.p0_r' {R : Type} (L N : Nat) (self10 : Tree → Tree → Option (Bool)) (self34 : LT → LT → Option (Bool)) (k : Bool → Option R) (z4 : Bool) : Option R :=
  k z4
def f34.p0_r {R : Type} (L N : Nat) (self10 : Tree → Tree → Option (Bool)) (self34 : LT → LT → Option (Bool)) (k : Bool → Option R) (z4 : Bool) : Option R :=
  f34.p0_r' L N self10 self34 k z4
def f34.b' {R : Type} (L N : Nat) (self10 : Tree → Tree → Option (Bool)) (self34 : LT → LT → Option (Bool)) (k : Bool → Option R) (w0 : LT → LT → Int → Option R) (x0 : LT) (x1 : LT) : Option R :=
  bif ((x0.length : Int) != (x1.length : Int)) then
    k false
  else w0 x0 x1 (0 : Int)
def f34.b {R : Type} (L N : Nat) (self10 : Tree → Tree → Option (Bool)) (self34 : LT → LT → Option (Bool)) (k : Bool → Option R) (x0 : LT) (x1 : LT) : Option R :=
  f34.b' L N self10 self34 k (fun s0 s1 s2 => f34.l0 L N self10 self34 (f34.p0_e0 L N self10 self34 k) (fun z4 => f34.p0_r L N self10 self34 k z4) L s0 s1 s2) x0 x1
mutual
def f10 (L N : Nat) : Nat → Tree → Tree → Option (Bool)
  | 0, _, _ => none
  | n + 1, x0, x1 => f10.b L N (f10 L N n) (f34 L N n) some x0 x1
def f34 (L N : Nat) : Nat → LT → LT → Option (Bool)
  | 0, _, _ => none
  | n + 1, x0, x1 => f34.b L N (f10 L N n) (f34 L N n) some x0 x1
end
def f10.ent (L N m : Nat) := entRo [(.st 1), (.st 1)] (.one .bool) fun d => f10 L N m d.1 d.2.1
def f34.ent (L N m : Nat) := entRo [(.sl (.st 1)), (.sl (.st 1))] (.one .bool) fun d => f34 L N m d.1 d.2.1
def Φ10s (L N m : Nat) : Tells := (addT (addT (Φ9 L N) 10 (f10.ent L N m)) 34 (f34.ent L N m))
noncomputable def E10 (L N m : Nat) : Env := { P := Try.prog, ty := tyOf, Φ := Φ10s L N m, inl := inlT, live := lives, liveX := livesX, L := L, dp := none, prom := promT, heal := healT, ren := renT }
theorem f10.b_eq {R : Type} (L N m : Nat) (κ : AV → Option R) (x0 : Tree) (x1 : Tree) :
    evBody (E10 L N m) (evCallI (E10 L N m) 1 2000) 1000 10 Try.f10 [(.tv (.st 1) x0), (.tv (.st 1) x1)] [] [] (finC (.one .bool) κ)
    = f10.b L N (f10 L N m) (f34 L N m) (fun a0 => κ (.tv .bool a0)) x0 x1 := by kernel_rfl
noncomputable def f34.c0 : Code := loopAt 0 (codeOf Try.f34)
def f34.X0_e0 {R : Type} (κ : KX R) := κ (.exit 0) f34.T0_e0 f34.H0_e0
def f34.X0_r {R : Type} (κ : KX R) := fun z4 => κ .ret (f34.T0_r z4) (f34.H0_r z4)
def f34.R0 {R : Type} (rec : KT R) := fun s0 s1 s2 => rec (f34.T0 s0 s1 s2) (f34.H0 s0 s1 s2)
theorem f34.s0_eq {R : Type} (L N m : Nat) (κ : KX R) (rec : KT R) (s0 : LT) (s1 : LT) (s2 : Int) :
    evRd (E10 L N m) (evCallI (E10 L N m) 1 2000) 1000 34 27 0 f34.c0 κ rec (f34.T0 s0 s1 s2) (f34.H0 s0 s1 s2)
    = f34.s0 L N (f10 L N m) (f34 L N m) (f34.X0_e0 κ) (f34.X0_r κ) (f34.R0 rec) s0 s1 s2 := by kernel_rfl
theorem f34.l0_eq {R : Type} (L N m : Nat) (κ : KX R) : ∀ (n : Nat) (s0 : LT) (s1 : LT) (s2 : Int),
    evLp (E10 L N m) (evCallI (E10 L N m) 1 2000) 1000 34 27 0 f34.c0 κ n (f34.T0 s0 s1 s2) (f34.H0 s0 s1 s2)
    = f34.l0 L N (f10 L N m) (f34 L N m) (f34.X0_e0 κ) (f34.X0_r κ) n s0 s1 s2 := by
  intro n
  induction n with
  | zero => intros; rfl
  | succ n ih =>
    intro s0 s1 s2
    rw [evLp_succ, f34.s0_eq]
    delta f34.R0
    simp only [ih]
    rfl
theorem f34.p0_e0_eq {R : Type} (L N m : Nat) (κ : AV → Option R) :
    (contAt (E10 L N m) (evCallI (E10 L N m) 1 2000) 1000 34 27 0 (codeOf Try.f34) (finK (E10 L N m) 1000 Try.f34 (finC (.one .bool) κ))) (.exit 0) f34.T0_e0 f34.H0_e0
    = f34.p0_e0 L N (f10 L N m) (f34 L N m) (fun a0 => κ (.tv .bool a0)) := by kernel_rfl
theorem f34.p0_r_eq {R : Type} (L N m : Nat) (κ : AV → Option R) (z4 : Bool) :
    (contAt (E10 L N m) (evCallI (E10 L N m) 1 2000) 1000 34 27 0 (codeOf Try.f34) (finK (E10 L N m) 1000 Try.f34 (finC (.one .bool) κ))) .ret (f34.T0_r z4) (f34.H0_r z4)
    = f34.p0_r L N (f10 L N m) (f34 L N m) (fun a0 => κ (.tv .bool a0)) z4 := by kernel_rfl
theorem f34.b_eq {R : Type} (L N m : Nat) (κ : AV → Option R) (x0 : LT) (x1 : LT) :
    evBody (E10 L N m) (evCallI (E10 L N m) 1 2000) 1000 34 Try.f34 [(.tv (.sl (.st 1)) x0), (.tv (.sl (.st 1)) x1)] [] [] (finC (.one .bool) κ)
    = f34.b L N (f10 L N m) (f34 L N m) (fun a0 => κ (.tv .bool a0)) x0 x1 := by
  refine Eq.trans (b := f34.b' L N (f10 L N m) (f34 L N m) (fun a0 => κ (.tv .bool a0)) (fun s0 s1 s2 => evLp (E10 L N m) (evCallI (E10 L N m) 1 2000) 1000 34 27 0 f34.c0 (contAt (E10 L N m) (evCallI (E10 L N m) 1 2000) 1000 34 27 0 (codeOf Try.f34) (finK (E10 L N m) 1000 Try.f34 (finC (.one .bool) κ))) L (f34.T0 s0 s1 s2) (f34.H0 s0 s1 s2)) x0 x1) (by kernel_rfl) ?_
  unfold f34.b
  simp only [f34.l0_eq]
  delta f34.X0_e0 f34.X0_r
  simp only [f34.p0_e0_eq, f34.p0_r_eq]
theorem f10.ok (L N m : Nat) (hΦ : TellsOk Try.prog (Φ10s L N m)) : EntOk Try.prog 10 (f10.ent L N (m + 1)) := entRo_ok (E := (E10 L N m)) (dep := 1000) (f := Try.f10) (sound_of hΦ) okP (callI_sound (sound_of hΦ) okP 1 2000) rfl rfl fun d _ hy => (f10.b_eq L N m (unR (.one .bool)) d.1 d.2.1).trans (Eq.trans (b := f10.b L N (f10 L N m) (f34 L N m) some d.1 d.2.1) (by kernel_rfl) hy)
theorem f34.ok (L N m : Nat) (hΦ : TellsOk Try.prog (Φ10s L N m)) : EntOk Try.prog 34 (f34.ent L N (m + 1)) := entRo_ok (E := (E10 L N m)) (dep := 1000) (f := Try.f34) (sound_of hΦ) okP (callI_sound (sound_of hΦ) okP 1 2000) rfl rfl fun d _ hy => (f34.b_eq L N m (unR (.one .bool)) d.1 d.2.1).trans (Eq.trans (b := f34.b L N (f10 L N m) (f34 L N m) some d.1 d.2.1) (by kernel_rfl) hy)
theorem Φ10s_ok (L N : Nat) : ∀ m, TellsOk Try.prog (Φ10s L N m) := by
  intro m
  induction m with
  | zero => exact (addT_ok (addT_ok (Φ9_ok L N) (entRo_no fun _ => rfl)) (entRo_no fun _ => rfl))
  | succ m ih => exact (addT_ok (addT_ok (Φ9_ok L N) (f10.ok L N m ih)) (f34.ok L N m ih))
def Φ10 (L N : Nat) : Tells := (addT (addT (Φ9 L N) 10 (f10.ent L N N)) 34 (f34.ent L N N))
theorem Φ10_ok (L N : Nat) : TellsOk Try.prog (Φ10 L N) := Φ10s_ok L N N
def f75.b' {R : Type} (L N : Nat) (k : Bool → Option R) (x0 : Move) (x1 : Move) : Option R :=
  bif (x0.act != x1.act) then
    k false
  else bif (x0.to != x1.to) then
    k false
  else k true
def f75.b {R : Type} (L N : Nat) (k : Bool → Option R) (x0 : Move) (x1 : Move) : Option R :=
  f75.b' L N k x0 x1
def f75 (L N : Nat) (x0 : Move) (x1 : Move) : Option (Bool) := f75.b L N some x0 x1
def f75.ent (L N : Nat) := entRo [(.st 0), (.st 0)] (.one .bool) fun d => f75 L N d.1 d.2.1
noncomputable def E75 (L N : Nat) : Env := { P := Try.prog, ty := tyOf, Φ := (Φ10 L N), inl := inlT, live := lives, liveX := livesX, L := L, dp := none, prom := promT, heal := healT, ren := renT }
theorem f75.b_eq {R : Type} (L N : Nat) (κ : AV → Option R) (x0 : Move) (x1 : Move) :
    evBody (E75 L N) (evCallI (E75 L N) 1 2000) 1000 75 Try.f75 [(.tv (.st 0) x0), (.tv (.st 0) x1)] [] [] (finC (.one .bool) κ)
    = f75.b L N (fun a0 => κ (.tv .bool a0)) x0 x1 := by kernel_rfl
theorem f75.ok (L N : Nat) (hΦ : TellsOk Try.prog ((Φ10 L N))) : EntOk Try.prog 75 (f75.ent L N) := entRo_ok (E := (E75 L N)) (dep := 1000) (f := Try.f75) (sound_of hΦ) okP (callI_sound (sound_of hΦ) okP 1 2000) rfl rfl fun d _ hy => (f75.b_eq L N (unR (.one .bool)) d.1 d.2.1).trans (Eq.trans (b := f75.b L N some d.1 d.2.1) (by kernel_rfl) hy)
def Φ75 (L N : Nat) : Tells := (addT (Φ10 L N) 75 (f75.ent L N))
theorem Φ75_ok (L N : Nat) : TellsOk Try.prog (Φ75 L N) := addT_ok (Φ10_ok L N) (f75.ok L N (Φ10_ok L N))
def f60.s0' {R : Type} (L N : Nat) (k0_e0 : Option R) (k0_r : Bool → Option R) (rec0 : LM → LM → Int → Option R) (s0 : LM) (s1 : LM) (s2 : Int) : Option R :=
  bif (decide (s2 < (s0.length : Int))) then
    bif (decide (0 ≤ s2) && decide (s2 < (s0.length : Int))) then
      bif (decide (0 ≤ s2) && decide (s2 < (s1.length : Int))) then
        (f75 L N (listAt s0 (Ty.dflt (.st 0)) s2.toNat) (listAt s1 (Ty.dflt (.st 0)) s2.toNat)).bind fun y3 =>
        bif (!y3) then
          k0_r false
        else rec0 s0 s1 (wi (s2 + (1 : Int)))
      else none
    else none
  else k0_e0
def f60.s0 {R : Type} (L N : Nat) (k0_e0 : Option R) (k0_r : Bool → Option R) (rec0 : LM → LM → Int → Option R) (s0 : LM) (s1 : LM) (s2 : Int) : Option R :=
  f60.s0' L N k0_e0 k0_r rec0 s0 s1 s2
def f60.l0 {R : Type} (L N : Nat) (k0_e0 : Option R) (k0_r : Bool → Option R) : Nat → LM → LM → Int → Option R
  | 0, _, _, _ => none
  | n + 1, s0, s1, s2 => f60.s0 L N k0_e0 k0_r (f60.l0 L N k0_e0 k0_r n) s0 s1 s2
def f60.T0 (s0 : LM) (s1 : LM) (s2 : Int) : T := mkT 27 [(0, (.tv (.sl (.st 0)) s0)), (1, (.tv (.sl (.st 0)) s1)), (5, (.tv i64 s2))]
def f60.H0 (s0 : LM) (s1 : LM) (s2 : Int) : H := []
def f60.T0_e0 : T := mkT 27 []
def f60.H0_e0 : H := []
def f60.T0_r (z4 : Bool) : T := mkT 27 [(4, (.tv .bool z4))]
def f60.H0_r (z4 : Bool) : H := []
def f60.p0_e0' {R : Type} (L N : Nat) (k : Bool → Option R) : Option R :=
  k true
def f60.p0_e0 {R : Type} (L N : Nat) (k : Bool → Option R) : Option R :=
  f60.p0_e0' L N k
def f60.p0_r' {R : Type} (L N : Nat) (k : Bool → Option R) (z4 : Bool) : Option R :=
  k z4
def f60.p0_r {R : Type} (L N : Nat) (k : Bool → Option R) (z4 : Bool) : Option R :=
  f60.p0_r' L N k z4
def f60.b' {R : Type} (L N : Nat) (k : Bool → Option R) (w0 : LM → LM → Int → Option R) (x0 : LM) (x1 : LM) : Option R :=
  bif ((x0.length : Int) != (x1.length : Int)) then
    k false
  else w0 x0 x1 (0 : Int)
def f60.b {R : Type} (L N : Nat) (k : Bool → Option R) (x0 : LM) (x1 : LM) : Option R :=
  f60.b' L N k (fun s0 s1 s2 => f60.l0 L N (f60.p0_e0 L N k) (fun z4 => f60.p0_r L N k z4) L s0 s1 s2) x0 x1
def f60 (L N : Nat) (x0 : LM) (x1 : LM) : Option (Bool) := f60.b L N some x0 x1
def f60.ent (L N : Nat) := entRo [(.sl (.st 0)), (.sl (.st 0))] (.one .bool) fun d => f60 L N d.1 d.2.1
noncomputable def E60 (L N : Nat) : Env := { P := Try.prog, ty := tyOf, Φ := (Φ75 L N), inl := inlT, live := lives, liveX := livesX, L := L, dp := none, prom := promT, heal := healT, ren := renT }
noncomputable def f60.c0 : Code := loopAt 0 (codeOf Try.f60)
def f60.X0_e0 {R : Type} (κ : KX R) := κ (.exit 0) f60.T0_e0 f60.H0_e0
def f60.X0_r {R : Type} (κ : KX R) := fun z4 => κ .ret (f60.T0_r z4) (f60.H0_r z4)
def f60.R0 {R : Type} (rec : KT R) := fun s0 s1 s2 => rec (f60.T0 s0 s1 s2) (f60.H0 s0 s1 s2)
theorem f60.s0_eq {R : Type} (L N : Nat) (κ : KX R) (rec : KT R) (s0 : LM) (s1 : LM) (s2 : Int) :
    evRd (E60 L N) (evCallI (E60 L N) 1 2000) 1000 60 27 0 f60.c0 κ rec (f60.T0 s0 s1 s2) (f60.H0 s0 s1 s2)
    = f60.s0 L N (f60.X0_e0 κ) (f60.X0_r κ) (f60.R0 rec) s0 s1 s2 := by kernel_rfl
theorem f60.l0_eq {R : Type} (L N : Nat) (κ : KX R) : ∀ (n : Nat) (s0 : LM) (s1 : LM) (s2 : Int),
    evLp (E60 L N) (evCallI (E60 L N) 1 2000) 1000 60 27 0 f60.c0 κ n (f60.T0 s0 s1 s2) (f60.H0 s0 s1 s2)
    = f60.l0 L N (f60.X0_e0 κ) (f60.X0_r κ) n s0 s1 s2 := by
  intro n
  induction n with
  | zero => intros; rfl
  | succ n ih =>
    intro s0 s1 s2
    rw [evLp_succ, f60.s0_eq]
    delta f60.R0
    simp only [ih]
    rfl
theorem f60.p0_e0_eq {R : Type} (L N : Nat) (κ : AV → Option R) :
    (contAt (E60 L N) (evCallI (E60 L N) 1 2000) 1000 60 27 0 (codeOf Try.f60) (finK (E60 L N) 1000 Try.f60 (finC (.one .bool) κ))) (.exit 0) f60.T0_e0 f60.H0_e0
    = f60.p0_e0 L N (fun a0 => κ (.tv .bool a0)) := by kernel_rfl
theorem f60.p0_r_eq {R : Type} (L N : Nat) (κ : AV → Option R) (z4 : Bool) :
    (contAt (E60 L N) (evCallI (E60 L N) 1 2000) 1000 60 27 0 (codeOf Try.f60) (finK (E60 L N) 1000 Try.f60 (finC (.one .bool) κ))) .ret (f60.T0_r z4) (f60.H0_r z4)
    = f60.p0_r L N (fun a0 => κ (.tv .bool a0)) z4 := by kernel_rfl
theorem f60.b_eq {R : Type} (L N : Nat) (κ : AV → Option R) (x0 : LM) (x1 : LM) :
    evBody (E60 L N) (evCallI (E60 L N) 1 2000) 1000 60 Try.f60 [(.tv (.sl (.st 0)) x0), (.tv (.sl (.st 0)) x1)] [] [] (finC (.one .bool) κ)
    = f60.b L N (fun a0 => κ (.tv .bool a0)) x0 x1 := by
  refine Eq.trans (b := f60.b' L N (fun a0 => κ (.tv .bool a0)) (fun s0 s1 s2 => evLp (E60 L N) (evCallI (E60 L N) 1 2000) 1000 60 27 0 f60.c0 (contAt (E60 L N) (evCallI (E60 L N) 1 2000) 1000 60 27 0 (codeOf Try.f60) (finK (E60 L N) 1000 Try.f60 (finC (.one .bool) κ))) L (f60.T0 s0 s1 s2) (f60.H0 s0 s1 s2)) x0 x1) (by kernel_rfl) ?_
  unfold f60.b
  simp only [f60.l0_eq]
  delta f60.X0_e0 f60.X0_r
  simp only [f60.p0_e0_eq, f60.p0_r_eq]
theorem f60.ok (L N : Nat) (hΦ : TellsOk Try.prog ((Φ75 L N))) : EntOk Try.prog 60 (f60.ent L N) := entRo_ok (E := (E60 L N)) (dep := 1000) (f := Try.f60) (sound_of hΦ) okP (callI_sound (sound_of hΦ) okP 1 2000) rfl rfl fun d _ hy => (f60.b_eq L N (unR (.one .bool)) d.1 d.2.1).trans (Eq.trans (b := f60.b L N some d.1 d.2.1) (by kernel_rfl) hy)
def Φ60 (L N : Nat) : Tells := (addT (Φ75 L N) 60 (f60.ent L N))
theorem Φ60_ok (L N : Nat) : TellsOk Try.prog (Φ60 L N) := addT_ok (Φ75_ok L N) (f60.ok L N (Φ75_ok L N))
def f35.s0' {R : Type} (L N : Nat) (k0_e0 : Option R) (k0_r : Bool → Option R) (rec0 : LLM → LLM → Int → Option R) (s0 : LLM) (s1 : LLM) (s2 : Int) : Option R :=
  bif (decide (s2 < (s0.length : Int))) then
    bif (decide (0 ≤ s2) && decide (s2 < (s0.length : Int))) then
      bif (decide (0 ≤ s2) && decide (s2 < (s1.length : Int))) then
        (f60 L N (listAt s0 [] s2.toNat) (listAt s1 [] s2.toNat)).bind fun y3 =>
        bif (!y3) then
          k0_r false
        else rec0 s0 s1 (wi (s2 + (1 : Int)))
      else none
    else none
  else k0_e0
def f35.s0 {R : Type} (L N : Nat) (k0_e0 : Option R) (k0_r : Bool → Option R) (rec0 : LLM → LLM → Int → Option R) (s0 : LLM) (s1 : LLM) (s2 : Int) : Option R :=
  f35.s0' L N k0_e0 k0_r rec0 s0 s1 s2
def f35.l0 {R : Type} (L N : Nat) (k0_e0 : Option R) (k0_r : Bool → Option R) : Nat → LLM → LLM → Int → Option R
  | 0, _, _, _ => none
  | n + 1, s0, s1, s2 => f35.s0 L N k0_e0 k0_r (f35.l0 L N k0_e0 k0_r n) s0 s1 s2
def f35.T0 (s0 : LLM) (s1 : LLM) (s2 : Int) : T := mkT 27 [(0, (.tv (.sl (.sl (.st 0))) s0)), (1, (.tv (.sl (.sl (.st 0))) s1)), (5, (.tv i64 s2))]
def f35.H0 (s0 : LLM) (s1 : LLM) (s2 : Int) : H := []
def f35.T0_e0 : T := mkT 27 []
def f35.H0_e0 : H := []
def f35.T0_r (z4 : Bool) : T := mkT 27 [(4, (.tv .bool z4))]
def f35.H0_r (z4 : Bool) : H := []
def f35.p0_e0' {R : Type} (L N : Nat) (k : Bool → Option R) : Option R :=
  k true
def f35.p0_e0 {R : Type} (L N : Nat) (k : Bool → Option R) : Option R :=
  f35.p0_e0' L N k
def f35.p0_r' {R : Type} (L N : Nat) (k : Bool → Option R) (z4 : Bool) : Option R :=
  k z4
def f35.p0_r {R : Type} (L N : Nat) (k : Bool → Option R) (z4 : Bool) : Option R :=
  f35.p0_r' L N k z4
def f35.b' {R : Type} (L N : Nat) (k : Bool → Option R) (w0 : LLM → LLM → Int → Option R) (x0 : LLM) (x1 : LLM) : Option R :=
  bif ((x0.length : Int) != (x1.length : Int)) then
    k false
  else w0 x0 x1 (0 : Int)
def f35.b {R : Type} (L N : Nat) (k : Bool → Option R) (x0 : LLM) (x1 : LLM) : Option R :=
  f35.b' L N k (fun s0 s1 s2 => f35.l0 L N (f35.p0_e0 L N k) (fun z4 => f35.p0_r L N k z4) L s0 s1 s2) x0 x1
def f35 (L N : Nat) (x0 : LLM) (x1 : LLM) : Option (Bool) := f35.b L N some x0 x1
def f35.ent (L N : Nat) := entRo [(.sl (.sl (.st 0))), (.sl (.sl (.st 0)))] (.one .bool) fun d => f35 L N d.1 d.2.1
noncomputable def E35 (L N : Nat) : Env := { P := Try.prog, ty := tyOf, Φ := (Φ60 L N), inl := inlT, live := lives, liveX := livesX, L := L, dp := none, prom := promT, heal := healT, ren := renT }
noncomputable def f35.c0 : Code := loopAt 0 (codeOf Try.f35)
def f35.X0_e0 {R : Type} (κ : KX R) := κ (.exit 0) f35.T0_e0 f35.H0_e0
def f35.X0_r {R : Type} (κ : KX R) := fun z4 => κ .ret (f35.T0_r z4) (f35.H0_r z4)
def f35.R0 {R : Type} (rec : KT R) := fun s0 s1 s2 => rec (f35.T0 s0 s1 s2) (f35.H0 s0 s1 s2)
theorem f35.s0_eq {R : Type} (L N : Nat) (κ : KX R) (rec : KT R) (s0 : LLM) (s1 : LLM) (s2 : Int) :
    evRd (E35 L N) (evCallI (E35 L N) 1 2000) 1000 35 27 0 f35.c0 κ rec (f35.T0 s0 s1 s2) (f35.H0 s0 s1 s2)
    = f35.s0 L N (f35.X0_e0 κ) (f35.X0_r κ) (f35.R0 rec) s0 s1 s2 := by kernel_rfl
theorem f35.l0_eq {R : Type} (L N : Nat) (κ : KX R) : ∀ (n : Nat) (s0 : LLM) (s1 : LLM) (s2 : Int),
    evLp (E35 L N) (evCallI (E35 L N) 1 2000) 1000 35 27 0 f35.c0 κ n (f35.T0 s0 s1 s2) (f35.H0 s0 s1 s2)
    = f35.l0 L N (f35.X0_e0 κ) (f35.X0_r κ) n s0 s1 s2 := by
  intro n
  induction n with
  | zero => intros; rfl
  | succ n ih =>
    intro s0 s1 s2
    rw [evLp_succ, f35.s0_eq]
    delta f35.R0
    simp only [ih]
    rfl
theorem f35.p0_e0_eq {R : Type} (L N : Nat) (κ : AV → Option R) :
    (contAt (E35 L N) (evCallI (E35 L N) 1 2000) 1000 35 27 0 (codeOf Try.f35) (finK (E35 L N) 1000 Try.f35 (finC (.one .bool) κ))) (.exit 0) f35.T0_e0 f35.H0_e0
    = f35.p0_e0 L N (fun a0 => κ (.tv .bool a0)) := by kernel_rfl
theorem f35.p0_r_eq {R : Type} (L N : Nat) (κ : AV → Option R) (z4 : Bool) :
    (contAt (E35 L N) (evCallI (E35 L N) 1 2000) 1000 35 27 0 (codeOf Try.f35) (finK (E35 L N) 1000 Try.f35 (finC (.one .bool) κ))) .ret (f35.T0_r z4) (f35.H0_r z4)
    = f35.p0_r L N (fun a0 => κ (.tv .bool a0)) z4 := by kernel_rfl
theorem f35.b_eq {R : Type} (L N : Nat) (κ : AV → Option R) (x0 : LLM) (x1 : LLM) :
    evBody (E35 L N) (evCallI (E35 L N) 1 2000) 1000 35 Try.f35 [(.tv (.sl (.sl (.st 0))) x0), (.tv (.sl (.sl (.st 0))) x1)] [] [] (finC (.one .bool) κ)
    = f35.b L N (fun a0 => κ (.tv .bool a0)) x0 x1 := by
  refine Eq.trans (b := f35.b' L N (fun a0 => κ (.tv .bool a0)) (fun s0 s1 s2 => evLp (E35 L N) (evCallI (E35 L N) 1 2000) 1000 35 27 0 f35.c0 (contAt (E35 L N) (evCallI (E35 L N) 1 2000) 1000 35 27 0 (codeOf Try.f35) (finK (E35 L N) 1000 Try.f35 (finC (.one .bool) κ))) L (f35.T0 s0 s1 s2) (f35.H0 s0 s1 s2)) x0 x1) (by kernel_rfl) ?_
  unfold f35.b
  simp only [f35.l0_eq]
  delta f35.X0_e0 f35.X0_r
  simp only [f35.p0_e0_eq, f35.p0_r_eq]
theorem f35.ok (L N : Nat) (hΦ : TellsOk Try.prog ((Φ60 L N))) : EntOk Try.prog 35 (f35.ent L N) := entRo_ok (E := (E35 L N)) (dep := 1000) (f := Try.f35) (sound_of hΦ) okP (callI_sound (sound_of hΦ) okP 1 2000) rfl rfl fun d _ hy => (f35.b_eq L N (unR (.one .bool)) d.1 d.2.1).trans (Eq.trans (b := f35.b L N some d.1 d.2.1) (by kernel_rfl) hy)
def Φ35 (L N : Nat) : Tells := (addT (Φ60 L N) 35 (f35.ent L N))
theorem Φ35_ok (L N : Nat) : TellsOk Try.prog (Φ35 L N) := addT_ok (Φ60_ok L N) (f35.ok L N (Φ60_ok L N))
def f11.b' {R : Type} (L N : Nat) (k : Bool → Option R) (x0 : Graph) (x1 : Graph) : Option R :=
  (f35 L N x0.moves x1.moves).bind fun y0 =>
  bif (!y0) then
    k false
  else k true
def f11.b {R : Type} (L N : Nat) (k : Bool → Option R) (x0 : Graph) (x1 : Graph) : Option R :=
  f11.b' L N k x0 x1
def f11 (L N : Nat) (x0 : Graph) (x1 : Graph) : Option (Bool) := f11.b L N some x0 x1
def f11.ent (L N : Nat) := entRo [(.st 2), (.st 2)] (.one .bool) fun d => f11 L N d.1 d.2.1
noncomputable def E11 (L N : Nat) : Env := { P := Try.prog, ty := tyOf, Φ := (Φ35 L N), inl := inlT, live := lives, liveX := livesX, L := L, dp := none, prom := promT, heal := healT, ren := renT }
theorem f11.b_eq {R : Type} (L N : Nat) (κ : AV → Option R) (x0 : Graph) (x1 : Graph) :
    evBody (E11 L N) (evCallI (E11 L N) 1 2000) 1000 11 Try.f11 [(.tv (.st 2) x0), (.tv (.st 2) x1)] [] [] (finC (.one .bool) κ)
    = f11.b L N (fun a0 => κ (.tv .bool a0)) x0 x1 := by kernel_rfl
theorem f11.ok (L N : Nat) (hΦ : TellsOk Try.prog ((Φ35 L N))) : EntOk Try.prog 11 (f11.ent L N) := entRo_ok (E := (E11 L N)) (dep := 1000) (f := Try.f11) (sound_of hΦ) okP (callI_sound (sound_of hΦ) okP 1 2000) rfl rfl fun d _ hy => (f11.b_eq L N (unR (.one .bool)) d.1 d.2.1).trans (Eq.trans (b := f11.b L N some d.1 d.2.1) (by kernel_rfl) hy)
def Φ11 (L N : Nat) : Tells := (addT (Φ35 L N) 11 (f11.ent L N))
theorem Φ11_ok (L N : Nat) : TellsOk Try.prog (Φ11 L N) := addT_ok (Φ35_ok L N) (f11.ok L N (Φ35_ok L N))
def f38.s0' {R : Type} (L N : Nat) (self38 : LT → Int → Option (Int)) (k0_e0 : Int → Option R) (k0_r : Int → Int → Option R) (rec0 : LT → Int → Int → Option R) (s0 : LT) (s1 : Int) (s2 : Int) : Option R :=
  bif (decide (s2 < (s0.length : Int))) then
    bif (decide (0 ≤ s2) && decide (s2 < (s0.length : Int))) then
      bif ((listAt s0 (Ty.dflt (.st 1)) s2.toNat).op != s1) then
        k0_r s1 (-1 : Int)
      else bif (decide (0 ≤ s2) && decide (s2 < (s0.length : Int))) then
        bif ((listAt s0 (Ty.dflt (.st 1)) s2.toNat).n != (wi (s1 + (1 : Int)))) then
          k0_r (wi (s1 + (1 : Int))) (-1 : Int)
        else bif (decide (0 ≤ s2) && decide (s2 < (s0.length : Int))) then
          (self38 ((listAt s0 (Ty.dflt (.st 1)) s2.toNat).parts) (wi ((wi (s1 + (1 : Int))) + (1 : Int)))).bind fun y6 =>
          bif (decide (y6 < (0 : Int))) then
            k0_r y6 (-1 : Int)
          else rec0 s0 y6 (wi (s2 + (1 : Int)))
        else none
      else none
    else none
  else k0_e0 s1
def f38.s0 {R : Type} (L N : Nat) (self38 : LT → Int → Option (Int)) (k0_e0 : Int → Option R) (k0_r : Int → Int → Option R) (rec0 : LT → Int → Int → Option R) (s0 : LT) (s1 : Int) (s2 : Int) : Option R :=
  f38.s0' L N self38 k0_e0 k0_r rec0 s0 s1 s2
def f38.l0 {R : Type} (L N : Nat) (self38 : LT → Int → Option (Int)) (k0_e0 : Int → Option R) (k0_r : Int → Int → Option R) : Nat → LT → Int → Int → Option R
  | 0, _, _, _ => none
  | n + 1, s0, s1, s2 => f38.s0 L N self38 k0_e0 k0_r (f38.l0 L N self38 k0_e0 k0_r n) s0 s1 s2
def f38.T0 (s0 : LT) (s1 : Int) (s2 : Int) : T := mkT 40 [(0, (.tv (.sl (.st 1)) s0)), (1, (.tv i64 s1)), (5, (.tv i64 s2))]
def f38.H0 (s0 : LT) (s1 : Int) (s2 : Int) : H := []
def f38.T0_e0 (z3 : Int) : T := mkT 40 [(1, (.tv i64 z3))]
def f38.H0_e0 (z3 : Int) : H := []
def f38.T0_r (z4 : Int) (z5 : Int) : T := mkT 40 [(1, (.tv i64 z4)), (4, (.tv i64 z5))]
def f38.H0_r (z4 : Int) (z5 : Int) : H := []
def f38.p0_e0' {R : Type} (L N : Nat) (self38 : LT → Int → Option (Int)) (k : Int → Option R) (z3 : Int) : Option R :=
  k z3
def f38.p0_e0 {R : Type} (L N : Nat) (self38 : LT → Int → Option (Int)) (k : Int → Option R) (z3 : Int) : Option R :=
  f38.p0_e0' L N self38 k z3
def f38.p0_r' {R : Type} (L N : Nat) (self38 : LT → Int → Option (Int)) (k : Int → Option R) (z4 : Int) (z5 : Int) : Option R :=
  k z5
def f38.p0_r {R : Type} (L N : Nat) (self38 : LT → Int → Option (Int)) (k : Int → Option R) (z4 : Int) (z5 : Int) : Option R :=
  f38.p0_r' L N self38 k z4 z5
def f38.b' {R : Type} (L N : Nat) (self38 : LT → Int → Option (Int)) (k : Int → Option R) (w0 : LT → Int → Int → Option R) (x0 : LT) (x1 : Int) : Option R :=
  w0 x0 x1 (0 : Int)
def f38.b {R : Type} (L N : Nat) (self38 : LT → Int → Option (Int)) (k : Int → Option R) (x0 : LT) (x1 : Int) : Option R :=
  f38.b' L N self38 k (fun s0 s1 s2 => f38.l0 L N self38 (fun z3 => f38.p0_e0 L N self38 k z3) (fun z4 z5 => f38.p0_r L N self38 k z4 z5) L s0 s1 s2) x0 x1
def f38 (L N : Nat) : Nat → LT → Int → Option (Int)
  | 0, _, _ => none
  | n + 1, x0, x1 => f38.b L N (f38 L N n) some x0 x1
def f38.ent (L N m : Nat) := entRo [(.sl (.st 1)), i64] (.one i64) fun d => f38 L N m d.1 d.2.1
def Φ38s (L N m : Nat) : Tells := (addT (Φ11 L N) 38 (f38.ent L N m))
noncomputable def E38 (L N m : Nat) : Env := { P := Try.prog, ty := tyOf, Φ := Φ38s L N m, inl := inlT, live := lives, liveX := livesX, L := L, dp := none, prom := promT, heal := healT, ren := renT }
noncomputable def f38.c0 : Code := loopAt 0 (codeOf Try.f38)
def f38.X0_e0 {R : Type} (κ : KX R) := fun z3 => κ (.exit 0) (f38.T0_e0 z3) (f38.H0_e0 z3)
def f38.X0_r {R : Type} (κ : KX R) := fun z4 z5 => κ .ret (f38.T0_r z4 z5) (f38.H0_r z4 z5)
def f38.R0 {R : Type} (rec : KT R) := fun s0 s1 s2 => rec (f38.T0 s0 s1 s2) (f38.H0 s0 s1 s2)
theorem f38.s0_eq {R : Type} (L N m : Nat) (κ : KX R) (rec : KT R) (s0 : LT) (s1 : Int) (s2 : Int) :
    evRd (E38 L N m) (evCallI (E38 L N m) 1 2000) 1000 38 40 0 f38.c0 κ rec (f38.T0 s0 s1 s2) (f38.H0 s0 s1 s2)
    = f38.s0 L N (f38 L N m) (f38.X0_e0 κ) (f38.X0_r κ) (f38.R0 rec) s0 s1 s2 := by kernel_rfl
theorem f38.l0_eq {R : Type} (L N m : Nat) (κ : KX R) : ∀ (n : Nat) (s0 : LT) (s1 : Int) (s2 : Int),
    evLp (E38 L N m) (evCallI (E38 L N m) 1 2000) 1000 38 40 0 f38.c0 κ n (f38.T0 s0 s1 s2) (f38.H0 s0 s1 s2)
    = f38.l0 L N (f38 L N m) (f38.X0_e0 κ) (f38.X0_r κ) n s0 s1 s2 := by
  intro n
  induction n with
  | zero => intros; rfl
  | succ n ih =>
    intro s0 s1 s2
    rw [evLp_succ, f38.s0_eq]
    delta f38.R0
    simp only [ih]
    rfl
theorem f38.p0_e0_eq {R : Type} (L N m : Nat) (κ : AV → Option R) (z3 : Int) :
    (contAt (E38 L N m) (evCallI (E38 L N m) 1 2000) 1000 38 40 0 (codeOf Try.f38) (finK (E38 L N m) 1000 Try.f38 (finC (.one i64) κ))) (.exit 0) (f38.T0_e0 z3) (f38.H0_e0 z3)
    = f38.p0_e0 L N (f38 L N m) (fun a0 => κ (.tv i64 a0)) z3 := by kernel_rfl
theorem f38.p0_r_eq {R : Type} (L N m : Nat) (κ : AV → Option R) (z4 : Int) (z5 : Int) :
    (contAt (E38 L N m) (evCallI (E38 L N m) 1 2000) 1000 38 40 0 (codeOf Try.f38) (finK (E38 L N m) 1000 Try.f38 (finC (.one i64) κ))) .ret (f38.T0_r z4 z5) (f38.H0_r z4 z5)
    = f38.p0_r L N (f38 L N m) (fun a0 => κ (.tv i64 a0)) z4 z5 := by kernel_rfl
theorem f38.b_eq {R : Type} (L N m : Nat) (κ : AV → Option R) (x0 : LT) (x1 : Int) :
    evBody (E38 L N m) (evCallI (E38 L N m) 1 2000) 1000 38 Try.f38 [(.tv (.sl (.st 1)) x0), (.tv i64 x1)] [] [] (finC (.one i64) κ)
    = f38.b L N (f38 L N m) (fun a0 => κ (.tv i64 a0)) x0 x1 := by
  refine Eq.trans (b := f38.b' L N (f38 L N m) (fun a0 => κ (.tv i64 a0)) (fun s0 s1 s2 => evLp (E38 L N m) (evCallI (E38 L N m) 1 2000) 1000 38 40 0 f38.c0 (contAt (E38 L N m) (evCallI (E38 L N m) 1 2000) 1000 38 40 0 (codeOf Try.f38) (finK (E38 L N m) 1000 Try.f38 (finC (.one i64) κ))) L (f38.T0 s0 s1 s2) (f38.H0 s0 s1 s2)) x0 x1) (by kernel_rfl) ?_
  unfold f38.b
  simp only [f38.l0_eq]
  delta f38.X0_e0 f38.X0_r
  simp only [f38.p0_e0_eq, f38.p0_r_eq]
theorem f38.ok (L N m : Nat) (hΦ : TellsOk Try.prog (Φ38s L N m)) : EntOk Try.prog 38 (f38.ent L N (m + 1)) := entRo_ok (E := (E38 L N m)) (dep := 1000) (f := Try.f38) (sound_of hΦ) okP (callI_sound (sound_of hΦ) okP 1 2000) rfl rfl fun d _ hy => (f38.b_eq L N m (unR (.one i64)) d.1 d.2.1).trans (Eq.trans (b := f38.b L N (f38 L N m) some d.1 d.2.1) (by kernel_rfl) hy)
theorem Φ38s_ok (L N : Nat) : ∀ m, TellsOk Try.prog (Φ38s L N m) := by
  intro m
  induction m with
  | zero => exact (addT_ok (Φ11_ok L N) (entRo_no fun _ => rfl))
  | succ m ih => exact (addT_ok (Φ11_ok L N) (f38.ok L N m ih))
def Φ38 (L N : Nat) : Tells := (addT (Φ11 L N) 38 (f38.ent L N N))
theorem Φ38_ok (L N : Nat) : TellsOk Try.prog (Φ38 L N) := Φ38s_ok L N N
def f14.b' {R : Type} (L N : Nat) (k : Int → Option R) (x0 : Tree) (x1 : Int) : Option R :=
  (f38 L N N x0.parts x1).bind fun y0 =>
  bif (decide (y0 < (0 : Int))) then
    k (-1 : Int)
  else k y0
def f14.b {R : Type} (L N : Nat) (k : Int → Option R) (x0 : Tree) (x1 : Int) : Option R :=
  f14.b' L N k x0 x1
def f14 (L N : Nat) (x0 : Tree) (x1 : Int) : Option (Int) := f14.b L N some x0 x1
def f14.ent (L N : Nat) := entRo [(.st 1), i64] (.one i64) fun d => f14 L N d.1 d.2.1
noncomputable def E14 (L N : Nat) : Env := { P := Try.prog, ty := tyOf, Φ := (Φ38 L N), inl := inlT, live := lives, liveX := livesX, L := L, dp := none, prom := promT, heal := healT, ren := renT }
theorem f14.b_eq {R : Type} (L N : Nat) (κ : AV → Option R) (x0 : Tree) (x1 : Int) :
    evBody (E14 L N) (evCallI (E14 L N) 1 2000) 1000 14 Try.f14 [(.tv (.st 1) x0), (.tv i64 x1)] [] [] (finC (.one i64) κ)
    = f14.b L N (fun a0 => κ (.tv i64 a0)) x0 x1 := by kernel_rfl
theorem f14.ok (L N : Nat) (hΦ : TellsOk Try.prog ((Φ38 L N))) : EntOk Try.prog 14 (f14.ent L N) := entRo_ok (E := (E14 L N)) (dep := 1000) (f := Try.f14) (sound_of hΦ) okP (callI_sound (sound_of hΦ) okP 1 2000) rfl rfl fun d _ hy => (f14.b_eq L N (unR (.one i64)) d.1 d.2.1).trans (Eq.trans (b := f14.b L N some d.1 d.2.1) (by kernel_rfl) hy)
def Φ14 (L N : Nat) : Tells := (addT (Φ38 L N) 14 (f14.ent L N))
theorem Φ14_ok (L N : Nat) : TellsOk Try.prog (Φ14 L N) := addT_ok (Φ38_ok L N) (f14.ok L N (Φ38_ok L N))
def f61.s0' {R : Type} (L N : Nat) (n0 : Nat) (k0_e0 : Int → LM → Option R) (rec0 : Int → Int → LM → Option R) (s0 : Int) (s1 : Int) (s2 : LM) : Option R :=
  bif (decide (s1 < (s2.length : Int))) then
    bif (decide (0 ≤ s1) && decide (s1 < (s2.length : Int))) then
      bif (decide (0 ≤ s1) && decide (s1 < ((s2.set s1.toNat (Move.mk s0 ((listAt s2 (Ty.dflt (.st 0)) s1.toNat).to))).length : Int))) then
        rec0 (wi ((wi (s0 + (1 : Int))) + (1 : Int))) (wi (s1 + (1 : Int))) ((s2.set s1.toNat (Move.mk s0 ((listAt s2 (Ty.dflt (.st 0)) s1.toNat).to))).set s1.toNat (Move.mk ((listAt (s2.set s1.toNat (Move.mk s0 ((listAt s2 (Ty.dflt (.st 0)) s1.toNat).to))) (Ty.dflt (.st 0)) s1.toNat).act) (wi (s0 + (1 : Int)))))
      else none
    else none
  else k0_e0 s0 s2
def f61.s0 {R : Type} (L N : Nat) (n0 : Nat) (k0_e0 : Int → LM → Option R) (rec0 : Int → Int → LM → Option R) (s0 : Int) (s1 : Int) (s2 : LM) : Option R :=
  f61.s0' L N n0 k0_e0 rec0 s0 s1 s2
def f61.l0 {R : Type} (L N : Nat) (n0 : Nat) (k0_e0 : Int → LM → Option R) : Nat → Int → Int → LM → Option R
  | 0, _, _, _ => none
  | n + 1, s0, s1, s2 => f61.s0 L N n0 k0_e0 (f61.l0 L N n0 k0_e0 n) s0 s1 s2
def f61.T0 (s0 : Int) (s1 : Int) (s2 : LM) : T := mkT 27 [(0, (.row 0)), (1, (.tv i64 s0)), (5, (.tv i64 s1))] ++ [.row 0]
def f61.H0 (s0 : Int) (s1 : Int) (s2 : LM) : H := [(0, (.row 72 (.st 0) s2))]
def f61.T0_e0 (z3 : Int) (z4 : LM) : T := mkT 27 [(1, (.tv i64 z3))] ++ [.row 0]
def f61.H0_e0 (z3 : Int) (z4 : LM) : H := [(0, (.row 72 (.st 0) z4))]
def f61.p0_e0' {R : Type} (L N : Nat) (n0 : Nat) (k : Int → LM → Option R) (z3 : Int) (z4 : LM) : Option R :=
  bif (Nat.beq z4.length n0) then
    k z3 z4
  else none
def f61.p0_e0 {R : Type} (L N : Nat) (n0 : Nat) (k : Int → LM → Option R) (z3 : Int) (z4 : LM) : Option R :=
  f61.p0_e0' L N n0 k z3 z4
def f61.b' {R : Type} (L N : Nat) (n0 : Nat) (k : Int → LM → Option R) (w0 : Int → Int → LM → Option R) (oo : List Move) (x0 : Int) : Option R :=
  w0 x0 (0 : Int) oo
def f61.b {R : Type} (L N : Nat) (n0 : Nat) (k : Int → LM → Option R) (oo : List Move) (x0 : Int) : Option R :=
  f61.b' L N n0 k (fun s0 s1 s2 => f61.l0 L N n0 (fun z3 z4 => f61.p0_e0 L N n0 k z3 z4) L s0 s1 s2) oo x0
def f61 (L N : Nat) (oo : List Move) (x0 : Int) : Option (Int × LM) := f61.b L N oo.length (fun a0 a1 => some (a0, a1)) oo x0
def f61.ent (L N : Nat) (args : List AV) (vw : View) (site : Nat) : Ans := match ownD none 72 (.st 0) [i64] vw args with
  | some (o, xs, d, u) => ⟨Int × LM, f61 L N xs d.1, fun y => ((.tv i64 y.1), u ++ [(o, some (mkO none 72 (.st 0) y.2))], [])⟩
  | none => Ans.no
noncomputable def E61 (L N : Nat) : Env := { P := Try.prog, ty := tyOf, Φ := (Φ14 L N), inl := inlT, live := lives, liveX := livesX, L := L, dp := none, prom := promT, heal := healT, ren := renT }
noncomputable def f61.c0 : Code := loopAt 0 (codeOf Try.f61)
def f61.X0_e0 {R : Type} (κ : KX R) := fun z3 z4 => κ (.exit 0) (f61.T0_e0 z3 z4) (f61.H0_e0 z3 z4)
def f61.R0 {R : Type} (rec : KT R) := fun s0 s1 s2 => rec (f61.T0 s0 s1 s2) (f61.H0 s0 s1 s2)
theorem f61.s0_eq {R : Type} (L N n0 : Nat) (κ : KX R) (rec : KT R) (s0 : Int) (s1 : Int) (s2 : LM) :
    evRd (E61 L N) (evCallI (E61 L N) 1 2000) 1000 61 27 0 f61.c0 κ rec (f61.T0 s0 s1 s2) (f61.H0 s0 s1 s2)
    = f61.s0 L N n0 (f61.X0_e0 κ) (f61.R0 rec) s0 s1 s2 := by kernel_rfl
theorem f61.l0_eq {R : Type} (L N n0 : Nat) (κ : KX R) : ∀ (n : Nat) (s0 : Int) (s1 : Int) (s2 : LM),
    evLp (E61 L N) (evCallI (E61 L N) 1 2000) 1000 61 27 0 f61.c0 κ n (f61.T0 s0 s1 s2) (f61.H0 s0 s1 s2)
    = f61.l0 L N n0 (f61.X0_e0 κ) n s0 s1 s2 := by
  intro n
  induction n with
  | zero => intros; rfl
  | succ n ih =>
    intro s0 s1 s2
    rw [evLp_succ, f61.s0_eq L N n0]
    delta f61.R0
    simp only [ih]
    rfl
theorem f61.p0_e0_eq {R : Type} (L N n0 : Nat) (κ : AV → List Move → Option R) (z3 : Int) (z4 : LM) :
    (contAt (E61 L N) (evCallI (E61 L N) 1 2000) 1000 61 27 0 (codeOf Try.f61) (finK (E61 L N) 1000 Try.f61 (finO (.one i64) none 72 (.st 0) n0 κ))) (.exit 0) (f61.T0_e0 z3 z4) (f61.H0_e0 z3 z4)
    = f61.p0_e0 L N n0 (fun a0 a1 => κ (.tv i64 a0) a1) z3 z4 := by kernel_rfl
theorem f61.b_eq {R : Type} (L N n0 : Nat) (κ : AV → List Move → Option R) (oo : List Move) (x0 : Int) :
    evBody (E61 L N) (evCallI (E61 L N) 1 2000) 1000 61 Try.f61 [(.row 0), (.tv i64 x0)] [.row 0] [(0, (.row 72 (.st 0) oo))] (finO (.one i64) none 72 (.st 0) n0 κ)
    = f61.b L N n0 (fun a0 a1 => κ (.tv i64 a0) a1) oo x0 := by
  refine Eq.trans (b := f61.b' L N n0 (fun a0 a1 => κ (.tv i64 a0) a1) (fun s0 s1 s2 => evLp (E61 L N) (evCallI (E61 L N) 1 2000) 1000 61 27 0 f61.c0 (contAt (E61 L N) (evCallI (E61 L N) 1 2000) 1000 61 27 0 (codeOf Try.f61) (finK (E61 L N) 1000 Try.f61 (finO (.one i64) none 72 (.st 0) n0 κ))) L (f61.T0 s0 s1 s2) (f61.H0 s0 s1 s2)) oo x0) (by kernel_rfl) ?_
  unfold f61.b
  simp only [f61.l0_eq L N n0]
  delta f61.X0_e0
  simp only [f61.p0_e0_eq L N n0]
theorem f61.ok (L N : Nat) (hΦ : TellsOk Try.prog ((Φ14 L N))) : EntOk Try.prog 61 (f61.ent L N) := by
  intro args vw site h
  unfold f61.ent
  split
  · rename_i o xs d u ha
    intro y hy hs
    obtain ⟨rest, rfl, ho, hr, hu⟩ := ownD_some ha
    refine call_own (y := y) (dep := 1000) (v' := (.tv i64 y.1)) (ys := y.2) (E := (E61 L N)) (tr := [i64]) (q := none) (el := 72) (ty := (.st 0)) (rs := (.one i64)) (κ := (fun v d => (unR (.one i64) v).bind fun x => some (x, d))) (sound_of hΦ) okP (callI_sound (sound_of hΦ) okP 1 2000) (f := Try.f61) rfl hs ho hr hu ?_ (fun _ _ h => by obtain ⟨x, h1, h2⟩ := unR_bind h; obtain rfl := Option.some.inj h2; exact ⟨h1, rfl⟩) site
    exact (f61.b_eq L N xs.length (fun v d => (unR (.one i64) v).bind fun x => some (x, d)) xs d.1).trans (Eq.trans (b := f61.b L N xs.length (fun a0 a1 => some (a0, a1)) xs d.1) (by kernel_rfl) hy)
  · intro y hy
    cases hy
def Φ61 (L N : Nat) : Tells := (addT (Φ14 L N) 61 (f61.ent L N))
theorem Φ61_ok (L N : Nat) : TellsOk Try.prog (Φ61 L N) := addT_ok (Φ14_ok L N) (f61.ok L N (Φ14_ok L N))
def f36.s0' {R : Type} (L N : Nat) (n0 : Nat) (k0_e0 : Int → LLM → Option R) (rec0 : Int → Int → LLM → Option R) (s0 : Int) (s1 : Int) (s2 : LLM) : Option R :=
  bif (decide (s1 < (s2.length : Int))) then
    bif (decide (0 ≤ s1) && decide (s1 < (s2.length : Int))) then
      (f61 L N (listAt s2 [] s1.toNat) s0).bind fun y5 =>
      rec0 y5.1 (wi (s1 + (1 : Int))) (s2.set s1.toNat y5.2)
    else none
  else k0_e0 s0 s2
def f36.s0 {R : Type} (L N : Nat) (n0 : Nat) (k0_e0 : Int → LLM → Option R) (rec0 : Int → Int → LLM → Option R) (s0 : Int) (s1 : Int) (s2 : LLM) : Option R :=
  f36.s0' L N n0 k0_e0 rec0 s0 s1 s2
def f36.l0 {R : Type} (L N : Nat) (n0 : Nat) (k0_e0 : Int → LLM → Option R) : Nat → Int → Int → LLM → Option R
  | 0, _, _, _ => none
  | n + 1, s0, s1, s2 => f36.s0 L N n0 k0_e0 (f36.l0 L N n0 k0_e0 n) s0 s1 s2
def f36.T0 (s0 : Int) (s1 : Int) (s2 : LLM) : T := mkT 19 [(0, (.row 0)), (1, (.tv i64 s0)), (5, (.tv i64 s1))] ++ [.row 0]
def f36.H0 (s0 : Int) (s1 : Int) (s2 : LLM) : H := [(0, (.deep 0 (.sl (.st 0)) s2 none))]
def f36.T0_e0 (z3 : Int) (z4 : LLM) : T := mkT 19 [(1, (.tv i64 z3))] ++ [.row 0]
def f36.H0_e0 (z3 : Int) (z4 : LLM) : H := [(0, (.deep 0 (.sl (.st 0)) z4 none))]
def f36.p0_e0' {R : Type} (L N : Nat) (n0 : Nat) (k : Int → LLM → Option R) (z3 : Int) (z4 : LLM) : Option R :=
  bif (Nat.beq z4.length n0) then
    k z3 z4
  else none
def f36.p0_e0 {R : Type} (L N : Nat) (n0 : Nat) (k : Int → LLM → Option R) (z3 : Int) (z4 : LLM) : Option R :=
  f36.p0_e0' L N n0 k z3 z4
def f36.b' {R : Type} (L N : Nat) (n0 : Nat) (k : Int → LLM → Option R) (w0 : Int → Int → LLM → Option R) (oo : List LM) (x0 : Int) : Option R :=
  w0 x0 (0 : Int) oo
def f36.b {R : Type} (L N : Nat) (n0 : Nat) (k : Int → LLM → Option R) (oo : List LM) (x0 : Int) : Option R :=
  f36.b' L N n0 k (fun s0 s1 s2 => f36.l0 L N n0 (fun z3 z4 => f36.p0_e0 L N n0 k z3 z4) L s0 s1 s2) oo x0
def f36 (L N : Nat) (oo : List LM) (x0 : Int) : Option (Int × LLM) := f36.b L N oo.length (fun a0 a1 => some (a0, a1)) oo x0
def f36.ent (L N : Nat) (args : List AV) (vw : View) (site : Nat) : Ans := match ownD (some 0) 70 (.sl (.st 0)) [i64] vw args with
  | some (o, xs, d, u) => ⟨Int × LLM, f36 L N xs d.1, fun y => ((.tv i64 y.1), u ++ [(o, some (mkO (some 0) 70 (.sl (.st 0)) y.2))], [])⟩
  | none => Ans.no
noncomputable def E36 (L N : Nat) : Env := { P := Try.prog, ty := tyOf, Φ := (Φ61 L N), inl := inlT, live := lives, liveX := livesX, L := L, dp := none, prom := promT, heal := healT, ren := renT }
noncomputable def f36.c0 : Code := loopAt 0 (codeOf Try.f36)
def f36.X0_e0 {R : Type} (κ : KX R) := fun z3 z4 => κ (.exit 0) (f36.T0_e0 z3 z4) (f36.H0_e0 z3 z4)
def f36.R0 {R : Type} (rec : KT R) := fun s0 s1 s2 => rec (f36.T0 s0 s1 s2) (f36.H0 s0 s1 s2)
theorem f36.s0_eq {R : Type} (L N n0 : Nat) (κ : KX R) (rec : KT R) (s0 : Int) (s1 : Int) (s2 : LLM) :
    evRd (E36 L N) (evCallI (E36 L N) 1 2000) 1000 36 19 0 f36.c0 κ rec (f36.T0 s0 s1 s2) (f36.H0 s0 s1 s2)
    = f36.s0 L N n0 (f36.X0_e0 κ) (f36.R0 rec) s0 s1 s2 := by kernel_rfl
theorem f36.l0_eq {R : Type} (L N n0 : Nat) (κ : KX R) : ∀ (n : Nat) (s0 : Int) (s1 : Int) (s2 : LLM),
    evLp (E36 L N) (evCallI (E36 L N) 1 2000) 1000 36 19 0 f36.c0 κ n (f36.T0 s0 s1 s2) (f36.H0 s0 s1 s2)
    = f36.l0 L N n0 (f36.X0_e0 κ) n s0 s1 s2 := by
  intro n
  induction n with
  | zero => intros; rfl
  | succ n ih =>
    intro s0 s1 s2
    rw [evLp_succ, f36.s0_eq L N n0]
    delta f36.R0
    simp only [ih]
    rfl
theorem f36.p0_e0_eq {R : Type} (L N n0 : Nat) (κ : AV → List LM → Option R) (z3 : Int) (z4 : LLM) :
    (contAt (E36 L N) (evCallI (E36 L N) 1 2000) 1000 36 19 0 (codeOf Try.f36) (finK (E36 L N) 1000 Try.f36 (finO (.one i64) (some 0) 70 (.sl (.st 0)) n0 κ))) (.exit 0) (f36.T0_e0 z3 z4) (f36.H0_e0 z3 z4)
    = f36.p0_e0 L N n0 (fun a0 a1 => κ (.tv i64 a0) a1) z3 z4 := by kernel_rfl
theorem f36.b_eq {R : Type} (L N n0 : Nat) (κ : AV → List LM → Option R) (oo : List LM) (x0 : Int) :
    evBody (E36 L N) (evCallI (E36 L N) 1 2000) 1000 36 Try.f36 [(.row 0), (.tv i64 x0)] [.row 0] [(0, (.deep 0 (.sl (.st 0)) oo none))] (finO (.one i64) (some 0) 70 (.sl (.st 0)) n0 κ)
    = f36.b L N n0 (fun a0 a1 => κ (.tv i64 a0) a1) oo x0 := by
  refine Eq.trans (b := f36.b' L N n0 (fun a0 a1 => κ (.tv i64 a0) a1) (fun s0 s1 s2 => evLp (E36 L N) (evCallI (E36 L N) 1 2000) 1000 36 19 0 f36.c0 (contAt (E36 L N) (evCallI (E36 L N) 1 2000) 1000 36 19 0 (codeOf Try.f36) (finK (E36 L N) 1000 Try.f36 (finO (.one i64) (some 0) 70 (.sl (.st 0)) n0 κ))) L (f36.T0 s0 s1 s2) (f36.H0 s0 s1 s2)) oo x0) (by kernel_rfl) ?_
  unfold f36.b
  simp only [f36.l0_eq L N n0]
  delta f36.X0_e0
  simp only [f36.p0_e0_eq L N n0]
theorem f36.ok (L N : Nat) (hΦ : TellsOk Try.prog ((Φ61 L N))) : EntOk Try.prog 36 (f36.ent L N) := by
  intro args vw site h
  unfold f36.ent
  split
  · rename_i o xs d u ha
    intro y hy hs
    obtain ⟨rest, rfl, ho, hr, hu⟩ := ownD_some ha
    refine call_own (y := y) (dep := 1000) (v' := (.tv i64 y.1)) (ys := y.2) (E := (E36 L N)) (tr := [i64]) (q := (some 0)) (el := 70) (ty := (.sl (.st 0))) (rs := (.one i64)) (κ := (fun v d => (unR (.one i64) v).bind fun x => some (x, d))) (sound_of hΦ) okP (callI_sound (sound_of hΦ) okP 1 2000) (f := Try.f36) rfl hs ho hr hu ?_ (fun _ _ h => by obtain ⟨x, h1, h2⟩ := unR_bind h; obtain rfl := Option.some.inj h2; exact ⟨h1, rfl⟩) site
    exact (f36.b_eq L N xs.length (fun v d => (unR (.one i64) v).bind fun x => some (x, d)) xs d.1).trans (Eq.trans (b := f36.b L N xs.length (fun a0 a1 => some (a0, a1)) xs d.1) (by kernel_rfl) hy)
  · intro y hy
    cases hy
def Φ36 (L N : Nat) : Tells := (addT (Φ61 L N) 36 (f36.ent L N))
theorem Φ36_ok (L N : Nat) : TellsOk Try.prog (Φ36 L N) := addT_ok (Φ61_ok L N) (f36.ok L N (Φ61_ok L N))
def f37.s0' {R : Type} (L N : Nat) (self37 : LT → Int → Option (Int × LT)) (n0 : Nat) (k0_e0 : Int → LT → Option R) (rec0 : Int → Int → LT → Option R) (s0 : Int) (s1 : Int) (s2 : LT) : Option R :=
  bif (decide (s1 < (s2.length : Int))) then
    bif (decide (0 ≤ s1) && decide (s1 < (s2.length : Int))) then
      bif (decide (0 ≤ s1) && decide (s1 < ((s2.set s1.toNat (Tree.mk s0 ((listAt s2 (Ty.dflt (.st 1)) s1.toNat).n) ((listAt s2 (Ty.dflt (.st 1)) s1.toNat).parts))).length : Int))) then
        bif (decide (0 ≤ s1) && decide (s1 < (((s2.set s1.toNat (Tree.mk s0 ((listAt s2 (Ty.dflt (.st 1)) s1.toNat).n) ((listAt s2 (Ty.dflt (.st 1)) s1.toNat).parts))).set s1.toNat (Tree.mk ((listAt (s2.set s1.toNat (Tree.mk s0 ((listAt s2 (Ty.dflt (.st 1)) s1.toNat).n) ((listAt s2 (Ty.dflt (.st 1)) s1.toNat).parts))) (Ty.dflt (.st 1)) s1.toNat).op) (wi (s0 + (1 : Int))) ((listAt (s2.set s1.toNat (Tree.mk s0 ((listAt s2 (Ty.dflt (.st 1)) s1.toNat).n) ((listAt s2 (Ty.dflt (.st 1)) s1.toNat).parts))) (Ty.dflt (.st 1)) s1.toNat).parts))).length : Int))) then
          (self37 ((listAt ((s2.set s1.toNat (Tree.mk s0 ((listAt s2 (Ty.dflt (.st 1)) s1.toNat).n) ((listAt s2 (Ty.dflt (.st 1)) s1.toNat).parts))).set s1.toNat (Tree.mk ((listAt (s2.set s1.toNat (Tree.mk s0 ((listAt s2 (Ty.dflt (.st 1)) s1.toNat).n) ((listAt s2 (Ty.dflt (.st 1)) s1.toNat).parts))) (Ty.dflt (.st 1)) s1.toNat).op) (wi (s0 + (1 : Int))) ((listAt (s2.set s1.toNat (Tree.mk s0 ((listAt s2 (Ty.dflt (.st 1)) s1.toNat).n) ((listAt s2 (Ty.dflt (.st 1)) s1.toNat).parts))) (Ty.dflt (.st 1)) s1.toNat).parts))) (Ty.dflt (.st 1)) s1.toNat).parts) (wi ((wi (s0 + (1 : Int))) + (1 : Int)))).bind fun y5 =>
          rec0 y5.1 (wi (s1 + (1 : Int))) (((s2.set s1.toNat (Tree.mk s0 ((listAt s2 (Ty.dflt (.st 1)) s1.toNat).n) ((listAt s2 (Ty.dflt (.st 1)) s1.toNat).parts))).set s1.toNat (Tree.mk ((listAt (s2.set s1.toNat (Tree.mk s0 ((listAt s2 (Ty.dflt (.st 1)) s1.toNat).n) ((listAt s2 (Ty.dflt (.st 1)) s1.toNat).parts))) (Ty.dflt (.st 1)) s1.toNat).op) (wi (s0 + (1 : Int))) ((listAt (s2.set s1.toNat (Tree.mk s0 ((listAt s2 (Ty.dflt (.st 1)) s1.toNat).n) ((listAt s2 (Ty.dflt (.st 1)) s1.toNat).parts))) (Ty.dflt (.st 1)) s1.toNat).parts))).set s1.toNat (Tree.mk ((listAt ((s2.set s1.toNat (Tree.mk s0 ((listAt s2 (Ty.dflt (.st 1)) s1.toNat).n) ((listAt s2 (Ty.dflt (.st 1)) s1.toNat).parts))).set s1.toNat (Tree.mk ((listAt (s2.set s1.toNat (Tree.mk s0 ((listAt s2 (Ty.dflt (.st 1)) s1.toNat).n) ((listAt s2 (Ty.dflt (.st 1)) s1.toNat).parts))) (Ty.dflt (.st 1)) s1.toNat).op) (wi (s0 + (1 : Int))) ((listAt (s2.set s1.toNat (Tree.mk s0 ((listAt s2 (Ty.dflt (.st 1)) s1.toNat).n) ((listAt s2 (Ty.dflt (.st 1)) s1.toNat).parts))) (Ty.dflt (.st 1)) s1.toNat).parts))) (Ty.dflt (.st 1)) s1.toNat).op) ((listAt ((s2.set s1.toNat (Tree.mk s0 ((listAt s2 (Ty.dflt (.st 1)) s1.toNat).n) ((listAt s2 (Ty.dflt (.st 1)) s1.toNat).parts))).set s1.toNat (Tree.mk ((listAt (s2.set s1.toNat (Tree.mk s0 ((listAt s2 (Ty.dflt (.st 1)) s1.toNat).n) ((listAt s2 (Ty.dflt (.st 1)) s1.toNat).parts))) (Ty.dflt (.st 1)) s1.toNat).op) (wi (s0 + (1 : Int))) ((listAt (s2.set s1.toNat (Tree.mk s0 ((listAt s2 (Ty.dflt (.st 1)) s1.toNat).n) ((listAt s2 (Ty.dflt (.st 1)) s1.toNat).parts))) (Ty.dflt (.st 1)) s1.toNat).parts))) (Ty.dflt (.st 1)) s1.toNat).n) y5.2))
        else none
      else none
    else none
  else k0_e0 s0 s2
def f37.s0 {R : Type} (L N : Nat) (self37 : LT → Int → Option (Int × LT)) (n0 : Nat) (k0_e0 : Int → LT → Option R) (rec0 : Int → Int → LT → Option R) (s0 : Int) (s1 : Int) (s2 : LT) : Option R :=
  f37.s0' L N self37 n0 k0_e0 rec0 s0 s1 s2
def f37.l0 {R : Type} (L N : Nat) (self37 : LT → Int → Option (Int × LT)) (n0 : Nat) (k0_e0 : Int → LT → Option R) : Nat → Int → Int → LT → Option R
  | 0, _, _, _ => none
  | n + 1, s0, s1, s2 => f37.s0 L N self37 n0 k0_e0 (f37.l0 L N self37 n0 k0_e0 n) s0 s1 s2
def f37.T0 (s0 : Int) (s1 : Int) (s2 : LT) : T := mkT 34 [(0, (.row 0)), (1, (.tv i64 s0)), (5, (.tv i64 s1))] ++ [.row 0]
def f37.H0 (s0 : Int) (s1 : Int) (s2 : LT) : H := [(0, (.deep 1 (.st 1) s2 none))]
def f37.T0_e0 (z3 : Int) (z4 : LT) : T := mkT 34 [(1, (.tv i64 z3))] ++ [.row 0]
def f37.H0_e0 (z3 : Int) (z4 : LT) : H := [(0, (.deep 1 (.st 1) z4 none))]
def f37.p0_e0' {R : Type} (L N : Nat) (self37 : LT → Int → Option (Int × LT)) (n0 : Nat) (k : Int → LT → Option R) (z3 : Int) (z4 : LT) : Option R :=
  bif (Nat.beq z4.length n0) then
    k z3 z4
  else none
def f37.p0_e0 {R : Type} (L N : Nat) (self37 : LT → Int → Option (Int × LT)) (n0 : Nat) (k : Int → LT → Option R) (z3 : Int) (z4 : LT) : Option R :=
  f37.p0_e0' L N self37 n0 k z3 z4
def f37.b' {R : Type} (L N : Nat) (self37 : LT → Int → Option (Int × LT)) (n0 : Nat) (k : Int → LT → Option R) (w0 : Int → Int → LT → Option R) (oo : List Tree) (x0 : Int) : Option R :=
  w0 x0 (0 : Int) oo
def f37.b {R : Type} (L N : Nat) (self37 : LT → Int → Option (Int × LT)) (n0 : Nat) (k : Int → LT → Option R) (oo : List Tree) (x0 : Int) : Option R :=
  f37.b' L N self37 n0 k (fun s0 s1 s2 => f37.l0 L N self37 n0 (fun z3 z4 => f37.p0_e0 L N self37 n0 k z3 z4) L s0 s1 s2) oo x0
def f37 (L N : Nat) : Nat → List Tree → Int → Option (Int × LT)
  | 0, _, _ => none
  | n + 1, oo, x0 => f37.b L N (f37 L N n) oo.length (fun a0 a1 => some (a0, a1)) oo x0
def f37.ent (L N m : Nat) (args : List AV) (vw : View) (site : Nat) : Ans := match ownD (some 1) 28 (.st 1) [i64] vw args with
  | some (o, xs, d, u) => ⟨Int × LT, f37 L N m xs d.1, fun y => ((.tv i64 y.1), u ++ [(o, some (mkO (some 1) 28 (.st 1) y.2))], [])⟩
  | none => Ans.no
def Φ37s (L N m : Nat) : Tells := (addT (Φ36 L N) 37 (f37.ent L N m))
noncomputable def E37 (L N m : Nat) : Env := { P := Try.prog, ty := tyOf, Φ := Φ37s L N m, inl := inlT, live := lives, liveX := livesX, L := L, dp := none, prom := promT, heal := healT, ren := renT }
noncomputable def f37.c0 : Code := loopAt 0 (codeOf Try.f37)
def f37.X0_e0 {R : Type} (κ : KX R) := fun z3 z4 => κ (.exit 0) (f37.T0_e0 z3 z4) (f37.H0_e0 z3 z4)
def f37.R0 {R : Type} (rec : KT R) := fun s0 s1 s2 => rec (f37.T0 s0 s1 s2) (f37.H0 s0 s1 s2)
theorem f37.s0_eq {R : Type} (L N m n0 : Nat) (κ : KX R) (rec : KT R) (s0 : Int) (s1 : Int) (s2 : LT) :
    evRd (E37 L N m) (evCallI (E37 L N m) 1 2000) 1000 37 34 0 f37.c0 κ rec (f37.T0 s0 s1 s2) (f37.H0 s0 s1 s2)
    = f37.s0 L N (f37 L N m) n0 (f37.X0_e0 κ) (f37.R0 rec) s0 s1 s2 := by kernel_rfl
theorem f37.l0_eq {R : Type} (L N m n0 : Nat) (κ : KX R) : ∀ (n : Nat) (s0 : Int) (s1 : Int) (s2 : LT),
    evLp (E37 L N m) (evCallI (E37 L N m) 1 2000) 1000 37 34 0 f37.c0 κ n (f37.T0 s0 s1 s2) (f37.H0 s0 s1 s2)
    = f37.l0 L N (f37 L N m) n0 (f37.X0_e0 κ) n s0 s1 s2 := by
  intro n
  induction n with
  | zero => intros; rfl
  | succ n ih =>
    intro s0 s1 s2
    rw [evLp_succ, f37.s0_eq L N m n0]
    delta f37.R0
    simp only [ih]
    rfl
theorem f37.p0_e0_eq {R : Type} (L N m n0 : Nat) (κ : AV → List Tree → Option R) (z3 : Int) (z4 : LT) :
    (contAt (E37 L N m) (evCallI (E37 L N m) 1 2000) 1000 37 34 0 (codeOf Try.f37) (finK (E37 L N m) 1000 Try.f37 (finO (.one i64) (some 1) 28 (.st 1) n0 κ))) (.exit 0) (f37.T0_e0 z3 z4) (f37.H0_e0 z3 z4)
    = f37.p0_e0 L N (f37 L N m) n0 (fun a0 a1 => κ (.tv i64 a0) a1) z3 z4 := by kernel_rfl
theorem f37.b_eq {R : Type} (L N m n0 : Nat) (κ : AV → List Tree → Option R) (oo : List Tree) (x0 : Int) :
    evBody (E37 L N m) (evCallI (E37 L N m) 1 2000) 1000 37 Try.f37 [(.row 0), (.tv i64 x0)] [.row 0] [(0, (.deep 1 (.st 1) oo none))] (finO (.one i64) (some 1) 28 (.st 1) n0 κ)
    = f37.b L N (f37 L N m) n0 (fun a0 a1 => κ (.tv i64 a0) a1) oo x0 := by
  refine Eq.trans (b := f37.b' L N (f37 L N m) n0 (fun a0 a1 => κ (.tv i64 a0) a1) (fun s0 s1 s2 => evLp (E37 L N m) (evCallI (E37 L N m) 1 2000) 1000 37 34 0 f37.c0 (contAt (E37 L N m) (evCallI (E37 L N m) 1 2000) 1000 37 34 0 (codeOf Try.f37) (finK (E37 L N m) 1000 Try.f37 (finO (.one i64) (some 1) 28 (.st 1) n0 κ))) L (f37.T0 s0 s1 s2) (f37.H0 s0 s1 s2)) oo x0) (by kernel_rfl) ?_
  unfold f37.b
  simp only [f37.l0_eq L N m n0]
  delta f37.X0_e0
  simp only [f37.p0_e0_eq L N m n0]
theorem f37.ok (L N m : Nat) (hΦ : TellsOk Try.prog (Φ37s L N m)) : EntOk Try.prog 37 (f37.ent L N (m + 1)) := by
  intro args vw site h
  unfold f37.ent
  split
  · rename_i o xs d u ha
    intro y hy hs
    obtain ⟨rest, rfl, ho, hr, hu⟩ := ownD_some ha
    refine call_own (y := y) (dep := 1000) (v' := (.tv i64 y.1)) (ys := y.2) (E := (E37 L N m)) (tr := [i64]) (q := (some 1)) (el := 28) (ty := (.st 1)) (rs := (.one i64)) (κ := (fun v d => (unR (.one i64) v).bind fun x => some (x, d))) (sound_of hΦ) okP (callI_sound (sound_of hΦ) okP 1 2000) (f := Try.f37) rfl hs ho hr hu ?_ (fun _ _ h => by obtain ⟨x, h1, h2⟩ := unR_bind h; obtain rfl := Option.some.inj h2; exact ⟨h1, rfl⟩) site
    exact (f37.b_eq L N m xs.length (fun v d => (unR (.one i64) v).bind fun x => some (x, d)) xs d.1).trans (Eq.trans (b := f37.b L N (f37 L N m) xs.length (fun a0 a1 => some (a0, a1)) xs d.1) (by kernel_rfl) hy)
  · intro y hy
    cases hy
theorem Φ37s_ok (L N : Nat) : ∀ m, TellsOk Try.prog (Φ37s L N m) := by
  intro m
  induction m with
  | zero => exact (addT_ok (Φ36_ok L N) (fun args vw site h => by unfold f37.ent; split <;> (intro y hy; cases hy)))
  | succ m ih => exact (addT_ok (Φ36_ok L N) (f37.ok L N m ih))
def Φ37 (L N : Nat) : Tells := (addT (Φ36 L N) 37 (f37.ent L N N))
theorem Φ37_ok (L N : Nat) : TellsOk Try.prog (Φ37 L N) := Φ37s_ok L N N
def f3.j0' {R : Type} (L N : Nat) (k : Bool → Option R) (v66 : Int) (v67 : Int) (v68 : Int) (v69 : LT) : Option R :=
  (f14 L N (Tree.mk v67 v68 v69) (1 : Int)).bind fun y70 =>
  bif (decide (y70 < (0 : Int))) then
    k false
  else bif (y70 != v66) then
    k false
  else k true
def f3.j1' {R : Type} (L N : Nat) (k : Bool → Option R) (v46 : Int) (v47 : Int) (v48 : Bool) (v49 : LLM) (v50 : Int) (v51 : Int) (v52 : LT) (v53 : Int) (v54 : Int) (v55 : LT) : Option R :=
  (f37 L N N v55 (1 : Int)).bind fun y56 =>
  (f14 L N (Tree.mk v53 v54 y56.2) (1 : Int)).bind fun y57 =>
  bif (decide (y57 < (0 : Int))) then
    k false
  else bif (y57 != y56.1) then
    k false
  else (f8 L N (Graph.mk v49)).bind fun y58 =>
  (f9 L N (Graph.mk y58) v46 v47).bind fun y59 =>
  (f10 L N N (Tree.mk y59.1 y59.2.1 y59.2.2.1) (Tree.mk v50 v51 v52)).bind fun y60 =>
  bif (!y60) then
    k false
  else bif (!(y59.2.2.2 == v48)) then
    k false
  else f3.j0' L N k y56.1 v53 v54 y56.2
def f3.j2' {R : Type} (L N : Nat) (k : Bool → Option R) (v19 : Int) (v20 : Int) (v21 : Bool) (v22 : Bool) (v23 : LLM) (v24 : Int) (v25 : Int) (v26 : LT) (v27 : Int) (v28 : Int) (v29 : LLM) (v30 : LT) : Option R :=
  (f8 L N (Graph.mk v23)).bind fun y31 =>
  (f11 L N (Graph.mk v29) (Graph.mk y31)).bind fun y32 =>
  bif (!y32) then
    k false
  else (f36 L N v29 (1 : Int)).bind fun y33 =>
  bif (decide (y33.1 < (0 : Int))) then
    k false
  else (f10 L N N (Tree.mk v27 v28 v30) (Tree.mk v24 v25 v26)).bind fun y34 =>
  bif (!y34) then
    k false
  else bif (!(v22 == v21)) then
    k false
  else f3.j1' L N k v19 v20 v21 v23 v24 v25 v26 v27 v28 v30
def f3.b' {R : Type} (L N : Nat) (k : Bool → Option R) (x0 : Graph) (x1 : Int) (x2 : Int) : Option R :=
  (f6 L N (Graph.mk x0.moves) (1048576 : Int)).bind fun y0 =>
  bif (decide (y0 < (0 : Int))) then
    k true
  else (f8 L N (Graph.mk x0.moves)).bind fun y1 =>
  (f7 L N (Graph.mk y1) x1 x2).bind fun y2 =>
  (f8 L N (Graph.mk x0.moves)).bind fun y3 =>
  (f9 L N (Graph.mk y3) x1 x2).bind fun y4 =>
  (f10 L N N (Tree.mk y4.1 y4.2.1 y4.2.2.1) (Tree.mk y2.1.op y2.1.n y2.1.parts)).bind fun y5 =>
  bif (!y5) then
    k false
  else bif (!(y4.2.2.2 == y2.2)) then
    k false
  else f3.j2' L N k x1 x2 y2.2 y4.2.2.2 x0.moves y2.1.op y2.1.n y2.1.parts y4.1 y4.2.1 y3 y4.2.2.1
def f3.b {R : Type} (L N : Nat) (k : Bool → Option R) (x0 : Graph) (x1 : Int) (x2 : Int) : Option R :=
  f3.b' L N k x0 x1 x2
def f3 (L N : Nat) (x0 : Graph) (x1 : Int) (x2 : Int) : Option (Bool) := f3.b L N some x0 x1 x2
def f3.ent (L N : Nat) := entRo [(.st 2), i64, i64] (.one .bool) fun d => f3 L N d.1 d.2.1 d.2.2.1
noncomputable def E3 (L N : Nat) : Env := { P := Try.prog, ty := tyOf, Φ := (Φ37 L N), inl := inlT, live := lives, liveX := livesX, L := L, dp := none, prom := promT, heal := healT, ren := renT }
theorem f3.b_eq {R : Type} (L N : Nat) (κ : AV → Option R) (x0 : Graph) (x1 : Int) (x2 : Int) :
    evBody (E3 L N) (evCallI (E3 L N) 1 2000) 1000 3 Try.f3 [(.tv (.st 2) x0), (.tv i64 x1), (.tv i64 x2)] [] [] (finC (.one .bool) κ)
    = f3.b L N (fun a0 => κ (.tv .bool a0)) x0 x1 x2 := by kernel_rfl
theorem f3.ok (L N : Nat) (hΦ : TellsOk Try.prog ((Φ37 L N))) : EntOk Try.prog 3 (f3.ent L N) := entRo_ok (E := (E3 L N)) (dep := 1000) (f := Try.f3) (sound_of hΦ) okP (callI_sound (sound_of hΦ) okP 1 2000) rfl rfl fun d _ hy => (f3.b_eq L N (unR (.one .bool)) d.1 d.2.1 d.2.2.1).trans (Eq.trans (b := f3.b L N some d.1 d.2.1 d.2.2.1) (by kernel_rfl) hy)
def Φ3 (L N : Nat) : Tells := (addT (Φ37 L N) 3 (f3.ent L N))
theorem Φ3_ok (L N : Nat) : TellsOk Try.prog (Φ3 L N) := addT_ok (Φ37_ok L N) (f3.ok L N (Φ37_ok L N))
end Go.Proofs.Ytffkhhblppfbfaa.Ev
