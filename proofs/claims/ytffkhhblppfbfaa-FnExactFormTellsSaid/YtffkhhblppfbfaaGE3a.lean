/- The seat's functions as plain functions: made by program (wip/gen/gen.py). -/
import Derived.Test.YtffkhhblppfbfaaEvYa
import Derived.Test.YtffkhhblppfbfaaShelf
namespace Go.Proofs.Ytffkhhblppfbfaa.Ev
open Go
set_option linter.unusedVariables false
set_option maxRecDepth 20000
def tyTab : List (Nat × Ty) := [(2, i64), (3, i64), (4, .bool), (5, (.int .u8)), (6, (.int .u8)), (9, .str), (10, .str), (11, .str), (12, (.int .u64)), (21, (.int .i32)), (22, (.sl (.sl (.st 0)))), (23, (.st 2)), (24, (.st 2)), (26, (.sl (.st 1))), (27, (.st 1)), (28, (.st 1)), (31, (.sl (.sl (.st 0)))), (32, (.st 2)), (33, (.st 2)), (40, (.sl (.int .u8))), (43, (.sl i64)), (47, (.sl (.sl i64))), (66, (.sl .bool)), (69, (.sl (.st 0))), (70, (.sl (.st 0))), (71, (.st 0)), (72, (.st 0)), (88, (.sl (.st 1))), (89, (.st 1)), (90, (.st 1)), (97, (.sl (.sl .bool))), (100, (.st 0)), (111, (.int .u64)), (116, (.sl .str)), (117, (.sl (.st 3))), (120, (.st 3)), (123, i64), (131, (.int .u32)), (133, (.int .u64)), (138, (.int .u64)), (154, (.int .u8)), (155, (.int .u8)), (158, (.int .i32)), (159, (.int .i32))]
def tyOf (t : Nat) : Option Ty := tyFind t tyTab
def lives (f i : Nat) : List Nat × List Nat :=
  bif Nat.beq f 23 && Nat.beq i 0 then ([0, 1, 5], []) else
  bif Nat.beq f 24 && Nat.beq i 0 then ([1, 3], [1]) else
  bif Nat.beq f 24 && Nat.beq i 2 then ([1, 3, 4], [1]) else
  bif Nat.beq f 26 && Nat.beq i 0 then ([1, 3], [1, 9]) else
  bif Nat.beq f 27 && Nat.beq i 0 then ([0, 1, 2, 7], []) else
  bif Nat.beq f 28 && Nat.beq i 0 then ([1, 2, 3, 4, 8, 10, 11], [4, 8]) else
  bif Nat.beq f 28 && Nat.beq i 2 then ([1, 3, 4, 8, 12, 13, 14, 15], [4, 8, 12, 13]) else
  bif Nat.beq f 30 && Nat.beq i 0 then ([0, 3, 4], [7]) else
  bif Nat.beq f 31 && Nat.beq i 0 then ([1, 18, 19, 20], [1]) else
  bif Nat.beq f 31 && Nat.beq i 2 then ([1, 4, 18, 19, 20, 24, 25, 26], [1]) else
  bif Nat.beq f 33 && Nat.beq i 0 then ([1, 2, 3, 4, 8, 10], [4, 8]) else
  bif Nat.beq f 33 && Nat.beq i 2 then ([1, 2, 3, 4, 8, 11, 54, 55, 56], [4, 8]) else
  bif Nat.beq f 33 && Nat.beq i 4 then ([1, 2, 3, 4, 8, 11, 13, 14, 15, 54, 55, 56, 65, 66, 67], [4, 8, 13, 60]) else
  bif Nat.beq f 33 && Nat.beq i 6 then ([1, 4, 8, 13, 18, 19, 98, 99, 100], [4, 8, 13, 18, 60, 960]) else
  bif Nat.beq f 34 && Nat.beq i 0 then ([0, 1, 5], []) else
  bif Nat.beq f 35 && Nat.beq i 0 then ([0, 1, 5], []) else
  bif Nat.beq f 36 && Nat.beq i 0 then ([0, 1, 5], []) else
  bif Nat.beq f 37 && Nat.beq i 0 then ([0, 1, 5], []) else
  bif Nat.beq f 38 && Nat.beq i 0 then ([0, 1, 5], []) else
  bif Nat.beq f 44 && Nat.beq i 0 then ([1, 5, 9, 10, 11], []) else
  bif Nat.beq f 50 && Nat.beq i 0 then ([1, 2, 5, 6], [2, 9]) else
  bif Nat.beq f 50 && Nat.beq i 2 then ([1, 2, 5, 6, 7, 8], [2, 9]) else
  bif Nat.beq f 51 && Nat.beq i 0 then ([0, 1, 5], []) else
  bif Nat.beq f 52 && Nat.beq i 0 then ([1, 2, 3, 4, 5, 11], [5]) else
  bif Nat.beq f 53 && Nat.beq i 0 then ([1, 4, 5], [1]) else
  bif Nat.beq f 54 && Nat.beq i 0 then ([0, 3, 4], [7]) else
  bif Nat.beq f 57 && Nat.beq i 0 then ([3, 5], [3, 10]) else
  bif Nat.beq f 58 && Nat.beq i 0 then ([0, 6, 14, 15, 16], [9]) else
  bif Nat.beq f 60 && Nat.beq i 0 then ([0, 1, 5], []) else
  bif Nat.beq f 61 && Nat.beq i 0 then ([0, 1, 5], []) else
  bif Nat.beq f 67 && Nat.beq i 0 then ([1, 2, 3, 4, 9], [4]) else
  bif Nat.beq f 70 && Nat.beq i 0 then ([0, 1, 5, 6, 16, 17], [11, 14]) else
  bif Nat.beq f 70 && Nat.beq i 2 then ([0, 1, 5, 6, 7, 8, 16, 17], [11, 14]) else
  bif Nat.beq f 72 && Nat.beq i 0 then ([0, 1, 12, 13], []) else
  bif Nat.beq f 83 && Nat.beq i 0 then ([0, 1, 12, 13], []) else
  ([], [])
def livesX (f i : Nat) : List Nat × List Nat :=
  bif Nat.beq f 23 && Nat.beq i 0 then ([1, 4], []) else
  bif Nat.beq f 24 && Nat.beq i 0 then ([2], []) else
  bif Nat.beq f 24 && Nat.beq i 2 then ([1, 2, 3], [1]) else
  bif Nat.beq f 26 && Nat.beq i 0 then ([2], [9]) else
  bif Nat.beq f 27 && Nat.beq i 0 then ([6], []) else
  bif Nat.beq f 28 && Nat.beq i 0 then ([1, 2, 3, 4, 8, 9], [4, 8]) else
  bif Nat.beq f 28 && Nat.beq i 2 then ([8, 9, 12, 13], [8, 12, 13]) else
  bif Nat.beq f 30 && Nat.beq i 0 then ([3], [7]) else
  bif Nat.beq f 31 && Nat.beq i 0 then ([2], []) else
  bif Nat.beq f 31 && Nat.beq i 2 then ([1, 2, 18, 19, 20], [1]) else
  bif Nat.beq f 33 && Nat.beq i 0 then ([1, 2, 3, 4, 8, 10], [4, 8]) else
  bif Nat.beq f 33 && Nat.beq i 2 then ([1, 2, 3, 4, 8, 9], [4, 8, 137]) else
  bif Nat.beq f 33 && Nat.beq i 4 then ([1, 2, 3, 4, 8, 11, 13, 14, 15, 54, 55, 56], [4, 8, 13, 60]) else
  bif Nat.beq f 33 && Nat.beq i 6 then ([8, 9, 13, 18], [8, 13, 18, 960]) else
  bif Nat.beq f 34 && Nat.beq i 0 then ([4], []) else
  bif Nat.beq f 35 && Nat.beq i 0 then ([4], []) else
  bif Nat.beq f 36 && Nat.beq i 0 then ([1], []) else
  bif Nat.beq f 37 && Nat.beq i 0 then ([1], []) else
  bif Nat.beq f 38 && Nat.beq i 0 then ([1, 4], []) else
  bif Nat.beq f 44 && Nat.beq i 0 then ([4, 5], []) else
  bif Nat.beq f 50 && Nat.beq i 0 then ([5], [9]) else
  bif Nat.beq f 50 && Nat.beq i 2 then ([1, 2, 5, 6, 7], [2, 9]) else
  bif Nat.beq f 51 && Nat.beq i 0 then ([4], []) else
  bif Nat.beq f 52 && Nat.beq i 0 then ([10], []) else
  bif Nat.beq f 53 && Nat.beq i 0 then ([2, 4], []) else
  bif Nat.beq f 54 && Nat.beq i 0 then ([3], [7]) else
  bif Nat.beq f 57 && Nat.beq i 0 then ([4], [10]) else
  bif Nat.beq f 58 && Nat.beq i 0 then ([6], [9]) else
  bif Nat.beq f 60 && Nat.beq i 0 then ([4], []) else
  bif Nat.beq f 61 && Nat.beq i 0 then ([1], []) else
  bif Nat.beq f 67 && Nat.beq i 0 then ([8], []) else
  bif Nat.beq f 70 && Nat.beq i 0 then ([5], [11]) else
  bif Nat.beq f 70 && Nat.beq i 2 then ([0, 1, 5, 6, 16, 17], [11, 14]) else
  bif Nat.beq f 72 && Nat.beq i 0 then ([4], []) else
  bif Nat.beq f 83 && Nat.beq i 0 then ([4], []) else
  ([], [])
def promT (f i : Nat) : List (Nat × Nat × Nat × Option Nat × Nat × Ty) :=
  bif Nat.beq f 33 && Nat.beq i 6 then [(18, 2, 960, (some 1), 0, (.st 1))] else
  []
def healT (f i : Nat) : List Nat :=
  bif Nat.beq f 36 && Nat.beq i 0 then [0] else
  bif Nat.beq f 37 && Nat.beq i 0 then [0] else
  []
def renT (f i : Nat) : List (Nat × Nat) :=
  bif Nat.beq f 33 && Nat.beq i 6 then [(960, 111), (960, 131)] else
  []
def inlT (f : Nat) : Bool := memN f [12, 13]
theorem okP : OkP Try.prog := OkP.mk' (by kernel_rfl) (by kernel_rfl)
def Φx (L N : Nat) : Tells := addT (addT (noTells) 59 tidyEnt) 66 (cloneEnt 3)
theorem Φx_ok (L N : Nat) : TellsOk Try.prog (Φx L N) := addT_ok (addT_ok (no_ok _) (tidy_ok ⟨Try.f59, rfl, by kernel_rfl, by kernel_rfl⟩ tidyC tidyNone)) (clone_ok ⟨Try.f66, rfl, by kernel_rfl, by kernel_rfl⟩ cloneC cloneZero cloneNil)
def f47.b' {R : Type} (L N : Nat) (k : Int → Option R) (x0 : LM) (x1 : Int) : Option R :=
  bif (decide ((wi (x1 - (x0.length : Int))) < (0 : Int))) then
    k (-1 : Int)
  else k (wi (x1 - (x0.length : Int)))
def f47.b {R : Type} (L N : Nat) (k : Int → Option R) (x0 : LM) (x1 : Int) : Option R :=
  f47.b' L N k x0 x1
def f47 (L N : Nat) (x0 : LM) (x1 : Int) : Option (Int) := f47.b L N some x0 x1
def f47.ent (L N : Nat) := entRo [(.sl (.st 0)), i64] (.one i64) fun d => f47 L N d.1 d.2.1
noncomputable def E47 (L N : Nat) : Env := { P := Try.prog, ty := tyOf, Φ := (Φx L N), inl := inlT, live := lives, liveX := livesX, L := L, dp := none, prom := promT, heal := healT, ren := renT }
theorem f47.b_eq {R : Type} (L N : Nat) (κ : AV → Option R) (x0 : LM) (x1 : Int) :
    evBody (E47 L N) (evCallI (E47 L N) 1 2000) 1000 47 Try.f47 [(.tv (.sl (.st 0)) x0), (.tv i64 x1)] [] [] (finC (.one i64) κ)
    = f47.b L N (fun a0 => κ (.tv i64 a0)) x0 x1 := by kernel_rfl
theorem f47.ok (L N : Nat) (hΦ : TellsOk Try.prog ((Φx L N))) : EntOk Try.prog 47 (f47.ent L N) := entRo_ok (E := (E47 L N)) (dep := 1000) (f := Try.f47) (sound_of hΦ) okP (callI_sound (sound_of hΦ) okP 1 2000) rfl rfl fun d _ hy => (f47.b_eq L N (unR (.one i64)) d.1 d.2.1).trans (Eq.trans (b := f47.b L N some d.1 d.2.1) (by kernel_rfl) hy)
def Φ47 (L N : Nat) : Tells := (addT (Φx L N) 47 (f47.ent L N))
theorem Φ47_ok (L N : Nat) : TellsOk Try.prog (Φ47 L N) := addT_ok (Φx_ok L N) (f47.ok L N (Φx_ok L N))
def f23.s0' {R : Type} (L N : Nat) (k0_e0 : Int → Option R) (k0_r : Int → Int → Option R) (rec0 : LLM → Int → Int → Option R) (s0 : LLM) (s1 : Int) (s2 : Int) : Option R :=
  bif (decide (s2 < (s0.length : Int))) then
    bif (decide (0 ≤ s2) && decide (s2 < (s0.length : Int))) then
      (f47 L N (listAt s0 [] s2.toNat) s1).bind fun y4 =>
      bif (decide (y4 < (0 : Int))) then
        k0_r y4 (-1 : Int)
      else rec0 s0 y4 (wi (s2 + (1 : Int)))
    else none
  else k0_e0 s1
def f23.s0 {R : Type} (L N : Nat) (k0_e0 : Int → Option R) (k0_r : Int → Int → Option R) (rec0 : LLM → Int → Int → Option R) (s0 : LLM) (s1 : Int) (s2 : Int) : Option R :=
  f23.s0' L N k0_e0 k0_r rec0 s0 s1 s2
def f23.l0 {R : Type} (L N : Nat) (k0_e0 : Int → Option R) (k0_r : Int → Int → Option R) : Nat → LLM → Int → Int → Option R
  | 0, _, _, _ => none
  | n + 1, s0, s1, s2 => f23.s0 L N k0_e0 k0_r (f23.l0 L N k0_e0 k0_r n) s0 s1 s2
def f23.T0 (s0 : LLM) (s1 : Int) (s2 : Int) : T := mkT 27 [(0, (.tv (.sl (.sl (.st 0))) s0)), (1, (.tv i64 s1)), (5, (.tv i64 s2))]
def f23.H0 (s0 : LLM) (s1 : Int) (s2 : Int) : H := []
def f23.T0_e0 (z3 : Int) : T := mkT 27 [(1, (.tv i64 z3))]
def f23.H0_e0 (z3 : Int) : H := []
def f23.T0_r (z5 : Int) (z6 : Int) : T := mkT 27 [(1, (.tv i64 z5)), (4, (.tv i64 z6))]
def f23.H0_r (z5 : Int) (z6 : Int) : H := []
def f23.p0_e0' {R : Type} (L N : Nat) (k : Int → Option R) (z3 : Int) : Option R :=
  k z3
def f23.p0_e0 {R : Type} (L N : Nat) (k : Int → Option R) (z3 : Int) : Option R :=
  f23.p0_e0' L N k z3
def f23.p0_r' {R : Type} (L N : Nat) (k : Int → Option R) (z5 : Int) (z6 : Int) : Option R :=
  k z6
def f23.p0_r {R : Type} (L N : Nat) (k : Int → Option R) (z5 : Int) (z6 : Int) : Option R :=
  f23.p0_r' L N k z5 z6
def f23.b' {R : Type} (L N : Nat) (k : Int → Option R) (w0 : LLM → Int → Int → Option R) (x0 : LLM) (x1 : Int) : Option R :=
  bif (decide ((wi (x1 - (x0.length : Int))) < (0 : Int))) then
    k (-1 : Int)
  else w0 x0 (wi (x1 - (x0.length : Int))) (0 : Int)
def f23.b {R : Type} (L N : Nat) (k : Int → Option R) (x0 : LLM) (x1 : Int) : Option R :=
  f23.b' L N k (fun s0 s1 s2 => f23.l0 L N (fun z3 => f23.p0_e0 L N k z3) (fun z5 z6 => f23.p0_r L N k z5 z6) L s0 s1 s2) x0 x1
def f23 (L N : Nat) (x0 : LLM) (x1 : Int) : Option (Int) := f23.b L N some x0 x1
def f23.ent (L N : Nat) := entRo [(.sl (.sl (.st 0))), i64] (.one i64) fun d => f23 L N d.1 d.2.1
noncomputable def E23 (L N : Nat) : Env := { P := Try.prog, ty := tyOf, Φ := (Φ47 L N), inl := inlT, live := lives, liveX := livesX, L := L, dp := none, prom := promT, heal := healT, ren := renT }
noncomputable def f23.c0 : Code := loopAt 0 (codeOf Try.f23)
def f23.X0_e0 {R : Type} (κ : KX R) := fun z3 => κ (.exit 0) (f23.T0_e0 z3) (f23.H0_e0 z3)
def f23.X0_r {R : Type} (κ : KX R) := fun z5 z6 => κ .ret (f23.T0_r z5 z6) (f23.H0_r z5 z6)
def f23.R0 {R : Type} (rec : KT R) := fun s0 s1 s2 => rec (f23.T0 s0 s1 s2) (f23.H0 s0 s1 s2)
theorem f23.s0_eq {R : Type} (L N : Nat) (κ : KX R) (rec : KT R) (s0 : LLM) (s1 : Int) (s2 : Int) :
    evRd (E23 L N) (evCallI (E23 L N) 1 2000) 1000 23 27 0 f23.c0 κ rec (f23.T0 s0 s1 s2) (f23.H0 s0 s1 s2)
    = f23.s0 L N (f23.X0_e0 κ) (f23.X0_r κ) (f23.R0 rec) s0 s1 s2 := by kernel_rfl
theorem f23.l0_eq {R : Type} (L N : Nat) (κ : KX R) : ∀ (n : Nat) (s0 : LLM) (s1 : Int) (s2 : Int),
    evLp (E23 L N) (evCallI (E23 L N) 1 2000) 1000 23 27 0 f23.c0 κ n (f23.T0 s0 s1 s2) (f23.H0 s0 s1 s2)
    = f23.l0 L N (f23.X0_e0 κ) (f23.X0_r κ) n s0 s1 s2 := by
  intro n
  induction n with
  | zero => intros; rfl
  | succ n ih =>
    intro s0 s1 s2
    rw [evLp_succ, f23.s0_eq]
    delta f23.R0
    simp only [ih]
    rfl
theorem f23.p0_e0_eq {R : Type} (L N : Nat) (κ : AV → Option R) (z3 : Int) :
    (contAt (E23 L N) (evCallI (E23 L N) 1 2000) 1000 23 27 0 (codeOf Try.f23) (finK (E23 L N) 1000 Try.f23 (finC (.one i64) κ))) (.exit 0) (f23.T0_e0 z3) (f23.H0_e0 z3)
    = f23.p0_e0 L N (fun a0 => κ (.tv i64 a0)) z3 := by kernel_rfl
theorem f23.p0_r_eq {R : Type} (L N : Nat) (κ : AV → Option R) (z5 : Int) (z6 : Int) :
    (contAt (E23 L N) (evCallI (E23 L N) 1 2000) 1000 23 27 0 (codeOf Try.f23) (finK (E23 L N) 1000 Try.f23 (finC (.one i64) κ))) .ret (f23.T0_r z5 z6) (f23.H0_r z5 z6)
    = f23.p0_r L N (fun a0 => κ (.tv i64 a0)) z5 z6 := by kernel_rfl
theorem f23.b_eq {R : Type} (L N : Nat) (κ : AV → Option R) (x0 : LLM) (x1 : Int) :
    evBody (E23 L N) (evCallI (E23 L N) 1 2000) 1000 23 Try.f23 [(.tv (.sl (.sl (.st 0))) x0), (.tv i64 x1)] [] [] (finC (.one i64) κ)
    = f23.b L N (fun a0 => κ (.tv i64 a0)) x0 x1 := by
  refine Eq.trans (b := f23.b' L N (fun a0 => κ (.tv i64 a0)) (fun s0 s1 s2 => evLp (E23 L N) (evCallI (E23 L N) 1 2000) 1000 23 27 0 f23.c0 (contAt (E23 L N) (evCallI (E23 L N) 1 2000) 1000 23 27 0 (codeOf Try.f23) (finK (E23 L N) 1000 Try.f23 (finC (.one i64) κ))) L (f23.T0 s0 s1 s2) (f23.H0 s0 s1 s2)) x0 x1) (by kernel_rfl) ?_
  unfold f23.b
  simp only [f23.l0_eq]
  delta f23.X0_e0 f23.X0_r
  simp only [f23.p0_e0_eq, f23.p0_r_eq]
theorem f23.ok (L N : Nat) (hΦ : TellsOk Try.prog ((Φ47 L N))) : EntOk Try.prog 23 (f23.ent L N) := entRo_ok (E := (E23 L N)) (dep := 1000) (f := Try.f23) (sound_of hΦ) okP (callI_sound (sound_of hΦ) okP 1 2000) rfl rfl fun d _ hy => (f23.b_eq L N (unR (.one i64)) d.1 d.2.1).trans (Eq.trans (b := f23.b L N some d.1 d.2.1) (by kernel_rfl) hy)
def Φ23 (L N : Nat) : Tells := (addT (Φ47 L N) 23 (f23.ent L N))
theorem Φ23_ok (L N : Nat) : TellsOk Try.prog (Φ23 L N) := addT_ok (Φ47_ok L N) (f23.ok L N (Φ47_ok L N))
def f6.b' {R : Type} (L N : Nat) (k : Int → Option R) (x0 : Graph) (x1 : Int) : Option R :=
  (f23 L N x0.moves x1).bind fun y0 =>
  bif (decide (y0 < (0 : Int))) then
    k (-1 : Int)
  else k y0
def f6.b {R : Type} (L N : Nat) (k : Int → Option R) (x0 : Graph) (x1 : Int) : Option R :=
  f6.b' L N k x0 x1
def f6 (L N : Nat) (x0 : Graph) (x1 : Int) : Option (Int) := f6.b L N some x0 x1
def f6.ent (L N : Nat) := entRo [(.st 2), i64] (.one i64) fun d => f6 L N d.1 d.2.1
noncomputable def E6 (L N : Nat) : Env := { P := Try.prog, ty := tyOf, Φ := (Φ23 L N), inl := inlT, live := lives, liveX := livesX, L := L, dp := none, prom := promT, heal := healT, ren := renT }
theorem f6.b_eq {R : Type} (L N : Nat) (κ : AV → Option R) (x0 : Graph) (x1 : Int) :
    evBody (E6 L N) (evCallI (E6 L N) 1 2000) 1000 6 Try.f6 [(.tv (.st 2) x0), (.tv i64 x1)] [] [] (finC (.one i64) κ)
    = f6.b L N (fun a0 => κ (.tv i64 a0)) x0 x1 := by kernel_rfl
theorem f6.ok (L N : Nat) (hΦ : TellsOk Try.prog ((Φ23 L N))) : EntOk Try.prog 6 (f6.ent L N) := entRo_ok (E := (E6 L N)) (dep := 1000) (f := Try.f6) (sound_of hΦ) okP (callI_sound (sound_of hΦ) okP 1 2000) rfl rfl fun d _ hy => (f6.b_eq L N (unR (.one i64)) d.1 d.2.1).trans (Eq.trans (b := f6.b L N some d.1 d.2.1) (by kernel_rfl) hy)
def Φ6 (L N : Nat) : Tells := (addT (Φ23 L N) 6 (f6.ent L N))
theorem Φ6_ok (L N : Nat) : TellsOk Try.prog (Φ6 L N) := addT_ok (Φ23_ok L N) (f6.ok L N (Φ23_ok L N))
def f25.b' {R : Type} (L N : Nat) (k : Bool → Option R) (x0 : Int) (x1 : Int) (x2 : Int) : Option R :=
  bif (decide (x0 ≥ x1)) then
    k (decide (x0 ≤ x2))
  else k false
def f25.b {R : Type} (L N : Nat) (k : Bool → Option R) (x0 : Int) (x1 : Int) (x2 : Int) : Option R :=
  f25.b' L N k x0 x1 x2
def f25 (L N : Nat) (x0 : Int) (x1 : Int) (x2 : Int) : Option (Bool) := f25.b L N some x0 x1 x2
def f25.ent (L N : Nat) := entRo [i64, i64, i64] (.one .bool) fun d => f25 L N d.1 d.2.1 d.2.2.1
noncomputable def E25 (L N : Nat) : Env := { P := Try.prog, ty := tyOf, Φ := (Φ6 L N), inl := inlT, live := lives, liveX := livesX, L := L, dp := none, prom := promT, heal := healT, ren := renT }
theorem f25.b_eq {R : Type} (L N : Nat) (κ : AV → Option R) (x0 : Int) (x1 : Int) (x2 : Int) :
    evBody (E25 L N) (evCallI (E25 L N) 1 2000) 1000 25 Try.f25 [(.tv i64 x0), (.tv i64 x1), (.tv i64 x2)] [] [] (finC (.one .bool) κ)
    = f25.b L N (fun a0 => κ (.tv .bool a0)) x0 x1 x2 := by kernel_rfl
theorem f25.ok (L N : Nat) (hΦ : TellsOk Try.prog ((Φ6 L N))) : EntOk Try.prog 25 (f25.ent L N) := entRo_ok (E := (E25 L N)) (dep := 1000) (f := Try.f25) (sound_of hΦ) okP (callI_sound (sound_of hΦ) okP 1 2000) rfl rfl fun d _ hy => (f25.b_eq L N (unR (.one .bool)) d.1 d.2.1 d.2.2.1).trans (Eq.trans (b := f25.b L N some d.1 d.2.1 d.2.2.1) (by kernel_rfl) hy)
def Φ25 (L N : Nat) : Tells := (addT (Φ6 L N) 25 (f25.ent L N))
theorem Φ25_ok (L N : Nat) : TellsOk Try.prog (Φ25 L N) := addT_ok (Φ6_ok L N) (f25.ok L N (Φ6_ok L N))
def f48.b' {R : Type} (L N : Nat) (k : Bool → Option R) (x0 : Int) : Option R :=
  (f25 L N x0 (-4 : Int) (4 : Int)).bind fun y0 =>
  k y0
def f48.b {R : Type} (L N : Nat) (k : Bool → Option R) (x0 : Int) : Option R :=
  f48.b' L N k x0
def f48 (L N : Nat) (x0 : Int) : Option (Bool) := f48.b L N some x0
def f48.ent (L N : Nat) := entRo [i64] (.one .bool) fun d => f48 L N d.1
noncomputable def E48 (L N : Nat) : Env := { P := Try.prog, ty := tyOf, Φ := (Φ25 L N), inl := inlT, live := lives, liveX := livesX, L := L, dp := none, prom := promT, heal := healT, ren := renT }
theorem f48.b_eq {R : Type} (L N : Nat) (κ : AV → Option R) (x0 : Int) :
    evBody (E48 L N) (evCallI (E48 L N) 1 2000) 1000 48 Try.f48 [(.tv i64 x0)] [] [] (finC (.one .bool) κ)
    = f48.b L N (fun a0 => κ (.tv .bool a0)) x0 := by kernel_rfl
theorem f48.ok (L N : Nat) (hΦ : TellsOk Try.prog ((Φ25 L N))) : EntOk Try.prog 48 (f48.ent L N) := entRo_ok (E := (E48 L N)) (dep := 1000) (f := Try.f48) (sound_of hΦ) okP (callI_sound (sound_of hΦ) okP 1 2000) rfl rfl fun d _ hy => (f48.b_eq L N (unR (.one .bool)) d.1).trans (Eq.trans (b := f48.b L N some d.1) (by kernel_rfl) hy)
def Φ48 (L N : Nat) : Tells := (addT (Φ25 L N) 48 (f48.ent L N))
theorem Φ48_ok (L N : Nat) : TellsOk Try.prog (Φ48 L N) := addT_ok (Φ25_ok L N) (f48.ok L N (Φ25_ok L N))
def f49.b' {R : Type} (L N : Nat) (k : Bool → Option R) (x0 : Move) (x1 : Move) : Option R :=
  bif (decide (x0.act < x1.act)) then
    k true
  else bif (x0.act == x1.act) then
    k (decide (x0.to < x1.to))
  else k false
def f49.b {R : Type} (L N : Nat) (k : Bool → Option R) (x0 : Move) (x1 : Move) : Option R :=
  f49.b' L N k x0 x1
def f49 (L N : Nat) (x0 : Move) (x1 : Move) : Option (Bool) := f49.b L N some x0 x1
def f49.ent (L N : Nat) := entRo [(.st 0), (.st 0)] (.one .bool) fun d => f49 L N d.1 d.2.1
noncomputable def E49 (L N : Nat) : Env := { P := Try.prog, ty := tyOf, Φ := (Φ48 L N), inl := inlT, live := lives, liveX := livesX, L := L, dp := none, prom := promT, heal := healT, ren := renT }
theorem f49.b_eq {R : Type} (L N : Nat) (κ : AV → Option R) (x0 : Move) (x1 : Move) :
    evBody (E49 L N) (evCallI (E49 L N) 1 2000) 1000 49 Try.f49 [(.tv (.st 0) x0), (.tv (.st 0) x1)] [] [] (finC (.one .bool) κ)
    = f49.b L N (fun a0 => κ (.tv .bool a0)) x0 x1 := by kernel_rfl
theorem f49.ok (L N : Nat) (hΦ : TellsOk Try.prog ((Φ48 L N))) : EntOk Try.prog 49 (f49.ent L N) := entRo_ok (E := (E49 L N)) (dep := 1000) (f := Try.f49) (sound_of hΦ) okP (callI_sound (sound_of hΦ) okP 1 2000) rfl rfl fun d _ hy => (f49.b_eq L N (unR (.one .bool)) d.1 d.2.1).trans (Eq.trans (b := f49.b L N some d.1 d.2.1) (by kernel_rfl) hy)
def Φ49 (L N : Nat) : Tells := (addT (Φ48 L N) 49 (f49.ent L N))
theorem Φ49_ok (L N : Nat) : TellsOk Try.prog (Φ49 L N) := addT_ok (Φ48_ok L N) (f49.ok L N (Φ48_ok L N))
def f24.s1' {R : Type} (L N : Nat) (k1_e2 : Int → LLM → Option R) (k1_r : Bool → Int → LLM → Option R) (rec1 : Int → Int → LLM → Option R) (s3 : Int) (s4 : Int) (s5 : LLM) : Option R :=
  bif (decide (0 ≤ s3) && decide (s3 < (s5.length : Int))) then
    bif (decide (s4 < ((listAt s5 [] s3.toNat).length : Int))) then
      bif (decide (0 ≤ s3) && decide (s3 < (s5.length : Int))) then
        bif (decide (0 ≤ s4) && decide (s4 < ((listAt s5 [] s3.toNat).length : Int))) then
          (f48 L N ((listAt (listAt s5 [] s3.toNat) (Ty.dflt (.st 0)) s4.toNat).act)).bind fun y8 =>
          bif (!y8) then
            k1_r false s3 s5
          else (f25 L N ((listAt (listAt s5 [] s3.toNat) (Ty.dflt (.st 0)) s4.toNat).to) (0 : Int) (wi ((s5.length : Int) - (1 : Int)))).bind fun y9 =>
          bif (!y9) then
            k1_r false s3 s5
          else bif (decide (s4 > (0 : Int))) then
            bif (decide (0 ≤ s3) && decide (s3 < (s5.length : Int))) then
              bif (decide (0 ≤ (wi (s4 - (1 : Int)))) && decide ((wi (s4 - (1 : Int))) < ((listAt s5 [] s3.toNat).length : Int))) then
                (f49 L N (listAt (listAt s5 [] s3.toNat) (Ty.dflt (.st 0)) (wi (s4 - (1 : Int))).toNat) (Move.mk ((listAt (listAt s5 [] s3.toNat) (Ty.dflt (.st 0)) s4.toNat).act) ((listAt (listAt s5 [] s3.toNat) (Ty.dflt (.st 0)) s4.toNat).to))).bind fun y10 =>
                bif (!y10) then
                  k1_r false s3 s5
                else rec1 s3 (wi (s4 + (1 : Int))) s5
              else none
            else none
          else rec1 s3 (wi (s4 + (1 : Int))) s5
        else none
      else none
    else k1_e2 s3 s5
  else none
def f24.s1 {R : Type} (L N : Nat) (k1_e2 : Int → LLM → Option R) (k1_r : Bool → Int → LLM → Option R) (rec1 : Int → Int → LLM → Option R) (s3 : Int) (s4 : Int) (s5 : LLM) : Option R :=
  f24.s1' L N k1_e2 k1_r rec1 s3 s4 s5
def f24.l1 {R : Type} (L N : Nat) (k1_e2 : Int → LLM → Option R) (k1_r : Bool → Int → LLM → Option R) : Nat → Int → Int → LLM → Option R
  | 0, _, _, _ => none
  | n + 1, s3, s4, s5 => f24.s1 L N k1_e2 k1_r (f24.l1 L N k1_e2 k1_r n) s3 s4 s5
def f24.T1 (s3 : Int) (s4 : Int) (s5 : LLM) : T := mkT 68 [(1, (.ptr 1001 0)), (3, (.tv i64 s3)), (4, (.tv i64 s4))]
def f24.H1 (s3 : Int) (s4 : Int) (s5 : LLM) : H := [(1001, (.box [(.tv (.sl (.sl (.st 0))) s5)]))]
def f24.T1_e2 (z6 : Int) (z7 : LLM) : T := mkT 68 [(1, (.ptr 1001 0)), (3, (.tv i64 z6))]
def f24.H1_e2 (z6 : Int) (z7 : LLM) : H := [(1001, (.box [(.tv (.sl (.sl (.st 0))) z7)]))]
def f24.T1_r (z15 : Bool) (z16 : Int) (z17 : LLM) : T := mkT 68 [(1, (.ptr 1001 0)), (2, (.tv .bool z15)), (3, (.tv i64 z16))]
def f24.H1_r (z15 : Bool) (z16 : Int) (z17 : LLM) : H := [(1001, (.box [(.tv (.sl (.sl (.st 0))) z17)]))]
def f24.p1_e2' {R : Type} (L N : Nat) (k0_e0 : Option R) (k0_r : Bool → Option R) (rec0 : Int → LLM → Option R) (z6 : Int) (z7 : LLM) : Option R :=
  rec0 (wi (z6 + (1 : Int))) z7
def f24.p1_e2 {R : Type} (L N : Nat) (k0_e0 : Option R) (k0_r : Bool → Option R) (rec0 : Int → LLM → Option R) (z6 : Int) (z7 : LLM) : Option R :=
  f24.p1_e2' L N k0_e0 k0_r rec0 z6 z7
def f24.p1_r' {R : Type} (L N : Nat) (k0_e0 : Option R) (k0_r : Bool → Option R) (rec0 : Int → LLM → Option R) (z15 : Bool) (z16 : Int) (z17 : LLM) : Option R :=
  k0_r z15
def f24.p1_r {R : Type} (L N : Nat) (k0_e0 : Option R) (k0_r : Bool → Option R) (rec0 : Int → LLM → Option R) (z15 : Bool) (z16 : Int) (z17 : LLM) : Option R :=
  f24.p1_r' L N k0_e0 k0_r rec0 z15 z16 z17
def f24.s0' {R : Type} (L N : Nat) (k0_e0 : Option R) (k0_r : Bool → Option R) (rec0 : Int → LLM → Option R) (w1 : Int → Int → LLM → Option R) (s1 : Int) (s2 : LLM) : Option R :=
  bif (decide (s1 < (s2.length : Int))) then
    w1 s1 (0 : Int) s2
  else k0_e0
def f24.s0 {R : Type} (L N : Nat) (k0_e0 : Option R) (k0_r : Bool → Option R) (rec0 : Int → LLM → Option R) (s1 : Int) (s2 : LLM) : Option R :=
  f24.s0' L N k0_e0 k0_r rec0 (fun s3 s4 s5 => f24.l1 L N (fun z6 z7 => f24.p1_e2 L N k0_e0 k0_r rec0 z6 z7) (fun z15 z16 z17 => f24.p1_r L N k0_e0 k0_r rec0 z15 z16 z17) L s3 s4 s5) s1 s2
def f24.l0 {R : Type} (L N : Nat) (k0_e0 : Option R) (k0_r : Bool → Option R) : Nat → Int → LLM → Option R
  | 0, _, _ => none
  | n + 1, s1, s2 => f24.s0 L N k0_e0 k0_r (f24.l0 L N k0_e0 k0_r n) s1 s2
def f24.T0 (s1 : Int) (s2 : LLM) : T := mkT 68 [(1, (.ptr 1001 0)), (3, (.tv i64 s1))]
def f24.H0 (s1 : Int) (s2 : LLM) : H := [(1001, (.box [(.tv (.sl (.sl (.st 0))) s2)]))]
def f24.T0_e0 : T := mkT 68 []
def f24.H0_e0 : H := []
def f24.T0_r (z21 : Bool) : T := mkT 68 [(2, (.tv .bool z21))]
def f24.H0_r (z21 : Bool) : H := []
def f24.p0_e0' {R : Type} (L N : Nat) (k : Bool → Option R) : Option R :=
  k true
def f24.p0_e0 {R : Type} (L N : Nat) (k : Bool → Option R) : Option R :=
  f24.p0_e0' L N k
def f24.p0_r' {R : Type} (L N : Nat) (k : Bool → Option R) (z21 : Bool) : Option R :=
  k z21
def f24.p0_r {R : Type} (L N : Nat) (k : Bool → Option R) (z21 : Bool) : Option R :=
  f24.p0_r' L N k z21
def f24.b' {R : Type} (L N : Nat) (k : Bool → Option R) (w0 : Int → LLM → Option R) (x0 : Graph) : Option R :=
  (f25 L N (x0.moves.length : Int) (1 : Int) (60 : Int)).bind fun y0 =>
  bif (!y0) then
    k false
  else w0 (0 : Int) x0.moves
def f24.b {R : Type} (L N : Nat) (k : Bool → Option R) (x0 : Graph) : Option R :=
  f24.b' L N k (fun s1 s2 => f24.l0 L N (f24.p0_e0 L N k) (fun z21 => f24.p0_r L N k z21) L s1 s2) x0
def f24 (L N : Nat) (x0 : Graph) : Option (Bool) := f24.b L N some x0
def f24.ent (L N : Nat) := entRo [(.st 2)] (.one .bool) fun d => f24 L N d.1
noncomputable def E24 (L N : Nat) : Env := { P := Try.prog, ty := tyOf, Φ := (Φ49 L N), inl := inlT, live := lives, liveX := livesX, L := L, dp := none, prom := promT, heal := healT, ren := renT }
noncomputable def f24.c0 : Code := loopAt 0 (codeOf Try.f24)
noncomputable def f24.c1 : Code := loopAt 2 f24.c0
def f24.X1_e2 {R : Type} (κ : KX R) := fun z6 z7 => κ (.exit 2) (f24.T1_e2 z6 z7) (f24.H1_e2 z6 z7)
def f24.X1_r {R : Type} (κ : KX R) := fun z15 z16 z17 => κ .ret (f24.T1_r z15 z16 z17) (f24.H1_r z15 z16 z17)
def f24.R1 {R : Type} (rec : KT R) := fun s3 s4 s5 => rec (f24.T1 s3 s4 s5) (f24.H1 s3 s4 s5)
theorem f24.s1_eq {R : Type} (L N : Nat) (κ : KX R) (rec : KT R) (s3 : Int) (s4 : Int) (s5 : LLM) :
    evRd (E24 L N) (evCallI (E24 L N) 1 2000) 1000 24 68 2 f24.c1 κ rec (f24.T1 s3 s4 s5) (f24.H1 s3 s4 s5)
    = f24.s1 L N (f24.X1_e2 κ) (f24.X1_r κ) (f24.R1 rec) s3 s4 s5 := by kernel_rfl
theorem f24.l1_eq {R : Type} (L N : Nat) (κ : KX R) : ∀ (n : Nat) (s3 : Int) (s4 : Int) (s5 : LLM),
    evLp (E24 L N) (evCallI (E24 L N) 1 2000) 1000 24 68 2 f24.c1 κ n (f24.T1 s3 s4 s5) (f24.H1 s3 s4 s5)
    = f24.l1 L N (f24.X1_e2 κ) (f24.X1_r κ) n s3 s4 s5 := by
  intro n
  induction n with
  | zero => intros; rfl
  | succ n ih =>
    intro s3 s4 s5
    rw [evLp_succ, f24.s1_eq]
    delta f24.R1
    simp only [ih]
    rfl
def f24.X0_e0 {R : Type} (κ : KX R) := κ (.exit 0) f24.T0_e0 f24.H0_e0
def f24.X0_r {R : Type} (κ : KX R) := fun z21 => κ .ret (f24.T0_r z21) (f24.H0_r z21)
def f24.R0 {R : Type} (rec : KT R) := fun s1 s2 => rec (f24.T0 s1 s2) (f24.H0 s1 s2)
theorem f24.p1_e2_eq {R : Type} (L N : Nat) (κ : KX R) (rec : KT R) (z6 : Int) (z7 : LLM) :
    (contAt (E24 L N) (evCallI (E24 L N) 1 2000) 1000 24 68 2 f24.c0 (rdK (E24 L N) 1000 24 68 0 κ rec)) (.exit 2) (f24.T1_e2 z6 z7) (f24.H1_e2 z6 z7)
    = f24.p1_e2 L N (f24.X0_e0 κ) (f24.X0_r κ) (f24.R0 rec) z6 z7 := by kernel_rfl
theorem f24.p1_r_eq {R : Type} (L N : Nat) (κ : KX R) (rec : KT R) (z15 : Bool) (z16 : Int) (z17 : LLM) :
    (contAt (E24 L N) (evCallI (E24 L N) 1 2000) 1000 24 68 2 f24.c0 (rdK (E24 L N) 1000 24 68 0 κ rec)) .ret (f24.T1_r z15 z16 z17) (f24.H1_r z15 z16 z17)
    = f24.p1_r L N (f24.X0_e0 κ) (f24.X0_r κ) (f24.R0 rec) z15 z16 z17 := by kernel_rfl
theorem f24.s0_eq {R : Type} (L N : Nat) (κ : KX R) (rec : KT R) (s1 : Int) (s2 : LLM) :
    evRd (E24 L N) (evCallI (E24 L N) 1 2000) 1000 24 68 0 f24.c0 κ rec (f24.T0 s1 s2) (f24.H0 s1 s2)
    = f24.s0 L N (f24.X0_e0 κ) (f24.X0_r κ) (f24.R0 rec) s1 s2 := by
  refine Eq.trans (b := f24.s0' L N (f24.X0_e0 κ) (f24.X0_r κ) (f24.R0 rec) (fun s3 s4 s5 => evLp (E24 L N) (evCallI (E24 L N) 1 2000) 1000 24 68 2 f24.c1 (contAt (E24 L N) (evCallI (E24 L N) 1 2000) 1000 24 68 2 f24.c0 (rdK (E24 L N) 1000 24 68 0 κ rec)) L (f24.T1 s3 s4 s5) (f24.H1 s3 s4 s5)) s1 s2) (by kernel_rfl) ?_
  unfold f24.s0
  simp only [f24.l1_eq]
  delta f24.X1_e2 f24.X1_r
  simp only [f24.p1_e2_eq, f24.p1_r_eq]
theorem f24.l0_eq {R : Type} (L N : Nat) (κ : KX R) : ∀ (n : Nat) (s1 : Int) (s2 : LLM),
    evLp (E24 L N) (evCallI (E24 L N) 1 2000) 1000 24 68 0 f24.c0 κ n (f24.T0 s1 s2) (f24.H0 s1 s2)
    = f24.l0 L N (f24.X0_e0 κ) (f24.X0_r κ) n s1 s2 := by
  intro n
  induction n with
  | zero => intros; rfl
  | succ n ih =>
    intro s1 s2
    rw [evLp_succ, f24.s0_eq]
    delta f24.R0
    simp only [ih]
    rfl
theorem f24.p0_e0_eq {R : Type} (L N : Nat) (κ : AV → Option R) :
    (contAt (E24 L N) (evCallI (E24 L N) 1 2000) 1000 24 68 0 (codeOf Try.f24) (finK (E24 L N) 1000 Try.f24 (finC (.one .bool) κ))) (.exit 0) f24.T0_e0 f24.H0_e0
    = f24.p0_e0 L N (fun a0 => κ (.tv .bool a0)) := by kernel_rfl
theorem f24.p0_r_eq {R : Type} (L N : Nat) (κ : AV → Option R) (z21 : Bool) :
    (contAt (E24 L N) (evCallI (E24 L N) 1 2000) 1000 24 68 0 (codeOf Try.f24) (finK (E24 L N) 1000 Try.f24 (finC (.one .bool) κ))) .ret (f24.T0_r z21) (f24.H0_r z21)
    = f24.p0_r L N (fun a0 => κ (.tv .bool a0)) z21 := by kernel_rfl
theorem f24.b_eq {R : Type} (L N : Nat) (κ : AV → Option R) (x0 : Graph) :
    evBody (E24 L N) (evCallI (E24 L N) 1 2000) 1000 24 Try.f24 [(.tv (.st 2) x0)] [] [] (finC (.one .bool) κ)
    = f24.b L N (fun a0 => κ (.tv .bool a0)) x0 := by
  refine Eq.trans (b := f24.b' L N (fun a0 => κ (.tv .bool a0)) (fun s1 s2 => evLp (E24 L N) (evCallI (E24 L N) 1 2000) 1000 24 68 0 f24.c0 (contAt (E24 L N) (evCallI (E24 L N) 1 2000) 1000 24 68 0 (codeOf Try.f24) (finK (E24 L N) 1000 Try.f24 (finC (.one .bool) κ))) L (f24.T0 s1 s2) (f24.H0 s1 s2)) x0) (by kernel_rfl) ?_
  unfold f24.b
  simp only [f24.l0_eq]
  delta f24.X0_e0 f24.X0_r
  simp only [f24.p0_e0_eq, f24.p0_r_eq]
theorem f24.ok (L N : Nat) (hΦ : TellsOk Try.prog ((Φ49 L N))) : EntOk Try.prog 24 (f24.ent L N) := entRo_ok (E := (E24 L N)) (dep := 1000) (f := Try.f24) (sound_of hΦ) okP (callI_sound (sound_of hΦ) okP 1 2000) rfl rfl fun d _ hy => (f24.b_eq L N (unR (.one .bool)) d.1).trans (Eq.trans (b := f24.b L N some d.1) (by kernel_rfl) hy)
def Φ24 (L N : Nat) : Tells := (addT (Φ49 L N) 24 (f24.ent L N))
theorem Φ24_ok (L N : Nat) : TellsOk Try.prog (Φ24 L N) := addT_ok (Φ49_ok L N) (f24.ok L N (Φ49_ok L N))
def f52.s0' {R : Type} (L N : Nat) (k0_e0 : Option R) (k0_r : Bool → Option R) (rec0 : Int → Int → LI → Int → Int → LLM → Option R) (s0 : Int) (s1 : Int) (s2 : LI) (s3 : Int) (s4 : Int) (s5 : LLM) : Option R :=
  bif (decide (0 ≤ s0) && decide (s0 < (s5.length : Int))) then
    bif (decide (s4 < ((listAt s5 [] s0.toNat).length : Int))) then
      bif (decide (0 ≤ s0) && decide (s0 < (s5.length : Int))) then
        bif (decide (0 ≤ s4) && decide (s4 < ((listAt s5 [] s0.toNat).length : Int))) then
          bif ((listAt (listAt s5 [] s0.toNat) (Ty.dflt (.st 0)) s4.toNat).act == s1) then
            bif (decide (0 ≤ (listAt (listAt s5 [] s0.toNat) (Ty.dflt (.st 0)) s4.toNat).to) && decide ((listAt (listAt s5 [] s0.toNat) (Ty.dflt (.st 0)) s4.toNat).to < (s2.length : Int))) then
              bif ((listAt s2 (0 : Int) ((listAt (listAt s5 [] s0.toNat) (Ty.dflt (.st 0)) s4.toNat).to).toNat) == s3) then
                k0_r true
              else rec0 s0 s1 s2 s3 (wi (s4 + (1 : Int))) s5
            else none
          else rec0 s0 s1 s2 s3 (wi (s4 + (1 : Int))) s5
        else none
      else none
    else k0_e0
  else none
def f52.s0 {R : Type} (L N : Nat) (k0_e0 : Option R) (k0_r : Bool → Option R) (rec0 : Int → Int → LI → Int → Int → LLM → Option R) (s0 : Int) (s1 : Int) (s2 : LI) (s3 : Int) (s4 : Int) (s5 : LLM) : Option R :=
  f52.s0' L N k0_e0 k0_r rec0 s0 s1 s2 s3 s4 s5
def f52.l0 {R : Type} (L N : Nat) (k0_e0 : Option R) (k0_r : Bool → Option R) : Nat → Int → Int → LI → Int → Int → LLM → Option R
  | 0, _, _, _, _, _, _ => none
  | n + 1, s0, s1, s2, s3, s4, s5 => f52.s0 L N k0_e0 k0_r (f52.l0 L N k0_e0 k0_r n) s0 s1 s2 s3 s4 s5
def f52.T0 (s0 : Int) (s1 : Int) (s2 : LI) (s3 : Int) (s4 : Int) (s5 : LLM) : T := mkT 44 [(1, (.tv i64 s0)), (2, (.tv i64 s1)), (3, (.tv (.sl i64) s2)), (4, (.tv i64 s3)), (5, (.ptr 1005 0)), (11, (.tv i64 s4))]
def f52.H0 (s0 : Int) (s1 : Int) (s2 : LI) (s3 : Int) (s4 : Int) (s5 : LLM) : H := [(1005, (.box [(.tv (.sl (.sl (.st 0))) s5)]))]
def f52.T0_e0 : T := mkT 44 []
def f52.H0_e0 : H := []
def f52.T0_r (z13 : Bool) : T := mkT 44 [(10, (.tv .bool z13))]
def f52.H0_r (z13 : Bool) : H := []
def f52.p0_e0' {R : Type} (L N : Nat) (k : Bool → Option R) : Option R :=
  k false
def f52.p0_e0 {R : Type} (L N : Nat) (k : Bool → Option R) : Option R :=
  f52.p0_e0' L N k
def f52.p0_r' {R : Type} (L N : Nat) (k : Bool → Option R) (z13 : Bool) : Option R :=
  k z13
def f52.p0_r {R : Type} (L N : Nat) (k : Bool → Option R) (z13 : Bool) : Option R :=
  f52.p0_r' L N k z13
def f52.b' {R : Type} (L N : Nat) (k : Bool → Option R) (w0 : Int → Int → LI → Int → Int → LLM → Option R) (x0 : Graph) (x1 : Int) (x2 : Int) (x3 : LI) (x4 : Int) : Option R :=
  w0 x1 x2 x3 x4 (0 : Int) x0.moves
def f52.b {R : Type} (L N : Nat) (k : Bool → Option R) (x0 : Graph) (x1 : Int) (x2 : Int) (x3 : LI) (x4 : Int) : Option R :=
  f52.b' L N k (fun s0 s1 s2 s3 s4 s5 => f52.l0 L N (f52.p0_e0 L N k) (fun z13 => f52.p0_r L N k z13) L s0 s1 s2 s3 s4 s5) x0 x1 x2 x3 x4
def f52 (L N : Nat) (x0 : Graph) (x1 : Int) (x2 : Int) (x3 : LI) (x4 : Int) : Option (Bool) := f52.b L N some x0 x1 x2 x3 x4
def f52.ent (L N : Nat) := entRo [(.st 2), i64, i64, (.sl i64), i64] (.one .bool) fun d => f52 L N d.1 d.2.1 d.2.2.1 d.2.2.2.1 d.2.2.2.2.1
noncomputable def E52 (L N : Nat) : Env := { P := Try.prog, ty := tyOf, Φ := (Φ24 L N), inl := inlT, live := lives, liveX := livesX, L := L, dp := none, prom := promT, heal := healT, ren := renT }
noncomputable def f52.c0 : Code := loopAt 0 (codeOf Try.f52)
def f52.X0_e0 {R : Type} (κ : KX R) := κ (.exit 0) f52.T0_e0 f52.H0_e0
def f52.X0_r {R : Type} (κ : KX R) := fun z13 => κ .ret (f52.T0_r z13) (f52.H0_r z13)
def f52.R0 {R : Type} (rec : KT R) := fun s0 s1 s2 s3 s4 s5 => rec (f52.T0 s0 s1 s2 s3 s4 s5) (f52.H0 s0 s1 s2 s3 s4 s5)
theorem f52.s0_eq {R : Type} (L N : Nat) (κ : KX R) (rec : KT R) (s0 : Int) (s1 : Int) (s2 : LI) (s3 : Int) (s4 : Int) (s5 : LLM) :
    evRd (E52 L N) (evCallI (E52 L N) 1 2000) 1000 52 44 0 f52.c0 κ rec (f52.T0 s0 s1 s2 s3 s4 s5) (f52.H0 s0 s1 s2 s3 s4 s5)
    = f52.s0 L N (f52.X0_e0 κ) (f52.X0_r κ) (f52.R0 rec) s0 s1 s2 s3 s4 s5 := by kernel_rfl
theorem f52.l0_eq {R : Type} (L N : Nat) (κ : KX R) : ∀ (n : Nat) (s0 : Int) (s1 : Int) (s2 : LI) (s3 : Int) (s4 : Int) (s5 : LLM),
    evLp (E52 L N) (evCallI (E52 L N) 1 2000) 1000 52 44 0 f52.c0 κ n (f52.T0 s0 s1 s2 s3 s4 s5) (f52.H0 s0 s1 s2 s3 s4 s5)
    = f52.l0 L N (f52.X0_e0 κ) (f52.X0_r κ) n s0 s1 s2 s3 s4 s5 := by
  intro n
  induction n with
  | zero => intros; rfl
  | succ n ih =>
    intro s0 s1 s2 s3 s4 s5
    rw [evLp_succ, f52.s0_eq]
    delta f52.R0
    simp only [ih]
    rfl
theorem f52.p0_e0_eq {R : Type} (L N : Nat) (κ : AV → Option R) :
    (contAt (E52 L N) (evCallI (E52 L N) 1 2000) 1000 52 44 0 (codeOf Try.f52) (finK (E52 L N) 1000 Try.f52 (finC (.one .bool) κ))) (.exit 0) f52.T0_e0 f52.H0_e0
    = f52.p0_e0 L N (fun a0 => κ (.tv .bool a0)) := by kernel_rfl
theorem f52.p0_r_eq {R : Type} (L N : Nat) (κ : AV → Option R) (z13 : Bool) :
    (contAt (E52 L N) (evCallI (E52 L N) 1 2000) 1000 52 44 0 (codeOf Try.f52) (finK (E52 L N) 1000 Try.f52 (finC (.one .bool) κ))) .ret (f52.T0_r z13) (f52.H0_r z13)
    = f52.p0_r L N (fun a0 => κ (.tv .bool a0)) z13 := by kernel_rfl
theorem f52.b_eq {R : Type} (L N : Nat) (κ : AV → Option R) (x0 : Graph) (x1 : Int) (x2 : Int) (x3 : LI) (x4 : Int) :
    evBody (E52 L N) (evCallI (E52 L N) 1 2000) 1000 52 Try.f52 [(.tv (.st 2) x0), (.tv i64 x1), (.tv i64 x2), (.tv (.sl i64) x3), (.tv i64 x4)] [] [] (finC (.one .bool) κ)
    = f52.b L N (fun a0 => κ (.tv .bool a0)) x0 x1 x2 x3 x4 := by
  refine Eq.trans (b := f52.b' L N (fun a0 => κ (.tv .bool a0)) (fun s0 s1 s2 s3 s4 s5 => evLp (E52 L N) (evCallI (E52 L N) 1 2000) 1000 52 44 0 f52.c0 (contAt (E52 L N) (evCallI (E52 L N) 1 2000) 1000 52 44 0 (codeOf Try.f52) (finK (E52 L N) 1000 Try.f52 (finC (.one .bool) κ))) L (f52.T0 s0 s1 s2 s3 s4 s5) (f52.H0 s0 s1 s2 s3 s4 s5)) x0 x1 x2 x3 x4) (by kernel_rfl) ?_
  unfold f52.b
  simp only [f52.l0_eq]
  delta f52.X0_e0 f52.X0_r
  simp only [f52.p0_e0_eq, f52.p0_r_eq]
theorem f52.ok (L N : Nat) (hΦ : TellsOk Try.prog ((Φ24 L N))) : EntOk Try.prog 52 (f52.ent L N) := entRo_ok (E := (E52 L N)) (dep := 1000) (f := Try.f52) (sound_of hΦ) okP (callI_sound (sound_of hΦ) okP 1 2000) rfl rfl fun d _ hy => (f52.b_eq L N (unR (.one .bool)) d.1 d.2.1 d.2.2.1 d.2.2.2.1 d.2.2.2.2.1).trans (Eq.trans (b := f52.b L N some d.1 d.2.1 d.2.2.1 d.2.2.2.1 d.2.2.2.2.1) (by kernel_rfl) hy)
def Φ52 (L N : Nat) : Tells := (addT (Φ24 L N) 52 (f52.ent L N))
theorem Φ52_ok (L N : Nat) : TellsOk Try.prog (Φ52 L N) := addT_ok (Φ24_ok L N) (f52.ok L N (Φ24_ok L N))
def f67.s0' {R : Type} (L N : Nat) (k0_e0 : Option R) (k0_r : Bool → Option R) (rec0 : Int → Int → LI → Int → LLM → Option R) (s0 : Int) (s1 : Int) (s2 : LI) (s3 : Int) (s4 : LLM) : Option R :=
  bif (decide (0 ≤ s0) && decide (s0 < (s4.length : Int))) then
    bif (decide (s3 < ((listAt s4 [] s0.toNat).length : Int))) then
      bif (decide (0 ≤ s0) && decide (s0 < (s4.length : Int))) then
        bif (decide (0 ≤ s3) && decide (s3 < ((listAt s4 [] s0.toNat).length : Int))) then
          bif (decide (0 ≤ (listAt (listAt s4 [] s0.toNat) (Ty.dflt (.st 0)) s3.toNat).to) && decide ((listAt (listAt s4 [] s0.toNat) (Ty.dflt (.st 0)) s3.toNat).to < (s2.length : Int))) then
            (f52 L N (Graph.mk s4) s1 ((listAt (listAt s4 [] s0.toNat) (Ty.dflt (.st 0)) s3.toNat).act) s2 (listAt s2 (0 : Int) ((listAt (listAt s4 [] s0.toNat) (Ty.dflt (.st 0)) s3.toNat).to).toNat)).bind fun y5 =>
            bif (!y5) then
              k0_r false
            else rec0 s0 s1 s2 (wi (s3 + (1 : Int))) s4
          else none
        else none
      else none
    else k0_e0
  else none
def f67.s0 {R : Type} (L N : Nat) (k0_e0 : Option R) (k0_r : Bool → Option R) (rec0 : Int → Int → LI → Int → LLM → Option R) (s0 : Int) (s1 : Int) (s2 : LI) (s3 : Int) (s4 : LLM) : Option R :=
  f67.s0' L N k0_e0 k0_r rec0 s0 s1 s2 s3 s4
def f67.l0 {R : Type} (L N : Nat) (k0_e0 : Option R) (k0_r : Bool → Option R) : Nat → Int → Int → LI → Int → LLM → Option R
  | 0, _, _, _, _, _ => none
  | n + 1, s0, s1, s2, s3, s4 => f67.s0 L N k0_e0 k0_r (f67.l0 L N k0_e0 k0_r n) s0 s1 s2 s3 s4
def f67.T0 (s0 : Int) (s1 : Int) (s2 : LI) (s3 : Int) (s4 : LLM) : T := mkT 41 [(1, (.tv i64 s0)), (2, (.tv i64 s1)), (3, (.tv (.sl i64) s2)), (4, (.ptr 1004 0)), (9, (.tv i64 s3))]
def f67.H0 (s0 : Int) (s1 : Int) (s2 : LI) (s3 : Int) (s4 : LLM) : H := [(1004, (.box [(.tv (.sl (.sl (.st 0))) s4)]))]
def f67.T0_e0 : T := mkT 41 []
def f67.H0_e0 : H := []
def f67.T0_r (z6 : Bool) : T := mkT 41 [(8, (.tv .bool z6))]
def f67.H0_r (z6 : Bool) : H := []
def f67.p0_e0' {R : Type} (L N : Nat) (k : Bool → Option R) : Option R :=
  k true
def f67.p0_e0 {R : Type} (L N : Nat) (k : Bool → Option R) : Option R :=
  f67.p0_e0' L N k
def f67.p0_r' {R : Type} (L N : Nat) (k : Bool → Option R) (z6 : Bool) : Option R :=
  k z6
def f67.p0_r {R : Type} (L N : Nat) (k : Bool → Option R) (z6 : Bool) : Option R :=
  f67.p0_r' L N k z6
def f67.b' {R : Type} (L N : Nat) (k : Bool → Option R) (w0 : Int → Int → LI → Int → LLM → Option R) (x0 : Graph) (x1 : Int) (x2 : Int) (x3 : LI) : Option R :=
  w0 x1 x2 x3 (0 : Int) x0.moves
def f67.b {R : Type} (L N : Nat) (k : Bool → Option R) (x0 : Graph) (x1 : Int) (x2 : Int) (x3 : LI) : Option R :=
  f67.b' L N k (fun s0 s1 s2 s3 s4 => f67.l0 L N (f67.p0_e0 L N k) (fun z6 => f67.p0_r L N k z6) L s0 s1 s2 s3 s4) x0 x1 x2 x3
def f67 (L N : Nat) (x0 : Graph) (x1 : Int) (x2 : Int) (x3 : LI) : Option (Bool) := f67.b L N some x0 x1 x2 x3
def f67.ent (L N : Nat) := entRo [(.st 2), i64, i64, (.sl i64)] (.one .bool) fun d => f67 L N d.1 d.2.1 d.2.2.1 d.2.2.2.1
noncomputable def E67 (L N : Nat) : Env := { P := Try.prog, ty := tyOf, Φ := (Φ52 L N), inl := inlT, live := lives, liveX := livesX, L := L, dp := none, prom := promT, heal := healT, ren := renT }
noncomputable def f67.c0 : Code := loopAt 0 (codeOf Try.f67)
def f67.X0_e0 {R : Type} (κ : KX R) := κ (.exit 0) f67.T0_e0 f67.H0_e0
def f67.X0_r {R : Type} (κ : KX R) := fun z6 => κ .ret (f67.T0_r z6) (f67.H0_r z6)
def f67.R0 {R : Type} (rec : KT R) := fun s0 s1 s2 s3 s4 => rec (f67.T0 s0 s1 s2 s3 s4) (f67.H0 s0 s1 s2 s3 s4)
theorem f67.s0_eq {R : Type} (L N : Nat) (κ : KX R) (rec : KT R) (s0 : Int) (s1 : Int) (s2 : LI) (s3 : Int) (s4 : LLM) :
    evRd (E67 L N) (evCallI (E67 L N) 1 2000) 1000 67 41 0 f67.c0 κ rec (f67.T0 s0 s1 s2 s3 s4) (f67.H0 s0 s1 s2 s3 s4)
    = f67.s0 L N (f67.X0_e0 κ) (f67.X0_r κ) (f67.R0 rec) s0 s1 s2 s3 s4 := by kernel_rfl
theorem f67.l0_eq {R : Type} (L N : Nat) (κ : KX R) : ∀ (n : Nat) (s0 : Int) (s1 : Int) (s2 : LI) (s3 : Int) (s4 : LLM),
    evLp (E67 L N) (evCallI (E67 L N) 1 2000) 1000 67 41 0 f67.c0 κ n (f67.T0 s0 s1 s2 s3 s4) (f67.H0 s0 s1 s2 s3 s4)
    = f67.l0 L N (f67.X0_e0 κ) (f67.X0_r κ) n s0 s1 s2 s3 s4 := by
  intro n
  induction n with
  | zero => intros; rfl
  | succ n ih =>
    intro s0 s1 s2 s3 s4
    rw [evLp_succ, f67.s0_eq]
    delta f67.R0
    simp only [ih]
    rfl
theorem f67.p0_e0_eq {R : Type} (L N : Nat) (κ : AV → Option R) :
    (contAt (E67 L N) (evCallI (E67 L N) 1 2000) 1000 67 41 0 (codeOf Try.f67) (finK (E67 L N) 1000 Try.f67 (finC (.one .bool) κ))) (.exit 0) f67.T0_e0 f67.H0_e0
    = f67.p0_e0 L N (fun a0 => κ (.tv .bool a0)) := by kernel_rfl
theorem f67.p0_r_eq {R : Type} (L N : Nat) (κ : AV → Option R) (z6 : Bool) :
    (contAt (E67 L N) (evCallI (E67 L N) 1 2000) 1000 67 41 0 (codeOf Try.f67) (finK (E67 L N) 1000 Try.f67 (finC (.one .bool) κ))) .ret (f67.T0_r z6) (f67.H0_r z6)
    = f67.p0_r L N (fun a0 => κ (.tv .bool a0)) z6 := by kernel_rfl
theorem f67.b_eq {R : Type} (L N : Nat) (κ : AV → Option R) (x0 : Graph) (x1 : Int) (x2 : Int) (x3 : LI) :
    evBody (E67 L N) (evCallI (E67 L N) 1 2000) 1000 67 Try.f67 [(.tv (.st 2) x0), (.tv i64 x1), (.tv i64 x2), (.tv (.sl i64) x3)] [] [] (finC (.one .bool) κ)
    = f67.b L N (fun a0 => κ (.tv .bool a0)) x0 x1 x2 x3 := by
  refine Eq.trans (b := f67.b' L N (fun a0 => κ (.tv .bool a0)) (fun s0 s1 s2 s3 s4 => evLp (E67 L N) (evCallI (E67 L N) 1 2000) 1000 67 41 0 f67.c0 (contAt (E67 L N) (evCallI (E67 L N) 1 2000) 1000 67 41 0 (codeOf Try.f67) (finK (E67 L N) 1000 Try.f67 (finC (.one .bool) κ))) L (f67.T0 s0 s1 s2 s3 s4) (f67.H0 s0 s1 s2 s3 s4)) x0 x1 x2 x3) (by kernel_rfl) ?_
  unfold f67.b
  simp only [f67.l0_eq]
  delta f67.X0_e0 f67.X0_r
  simp only [f67.p0_e0_eq, f67.p0_r_eq]
theorem f67.ok (L N : Nat) (hΦ : TellsOk Try.prog ((Φ52 L N))) : EntOk Try.prog 67 (f67.ent L N) := entRo_ok (E := (E67 L N)) (dep := 1000) (f := Try.f67) (sound_of hΦ) okP (callI_sound (sound_of hΦ) okP 1 2000) rfl rfl fun d _ hy => (f67.b_eq L N (unR (.one .bool)) d.1 d.2.1 d.2.2.1 d.2.2.2.1).trans (Eq.trans (b := f67.b L N some d.1 d.2.1 d.2.2.1 d.2.2.2.1) (by kernel_rfl) hy)
def Φ67 (L N : Nat) : Tells := (addT (Φ52 L N) 67 (f67.ent L N))
theorem Φ67_ok (L N : Nat) : TellsOk Try.prog (Φ67 L N) := addT_ok (Φ52_ok L N) (f67.ok L N (Φ52_ok L N))
def f50.s1' {R : Type} (L N : Nat) (k1_e2 : LI → Int → Int → LLM → LI → Option R) (rec1 : LI → Int → Int → Int → LLM → LI → Option R) (s5 : LI) (s6 : Int) (s7 : Int) (s8 : Int) (s9 : LLM) (s10 : LI) : Option R :=
  bif (decide (s8 ≥ (0 : Int))) then
    bif (decide (0 ≤ s8) && decide (s8 < (s5.length : Int))) then
      bif (decide (0 ≤ s6) && decide (s6 < (s5.length : Int))) then
        bif ((listAt s5 (0 : Int) s8.toNat) == (listAt s5 (0 : Int) s6.toNat)) then
          (f67 L N (Graph.mk s9) s6 s8 s5).bind fun y16 =>
          bif y16 then
            (f67 L N (Graph.mk s9) s8 s6 s5).bind fun y17 =>
            bif y17 then
              rec1 s5 s6 s8 (wi (s8 - (1 : Int))) s9 s10
            else rec1 s5 s6 s7 (wi (s8 - (1 : Int))) s9 s10
          else rec1 s5 s6 s7 (wi (s8 - (1 : Int))) s9 s10
        else rec1 s5 s6 s7 (wi (s8 - (1 : Int))) s9 s10
      else none
    else none
  else k1_e2 s5 s6 s7 s9 s10
def f50.s1 {R : Type} (L N : Nat) (k1_e2 : LI → Int → Int → LLM → LI → Option R) (rec1 : LI → Int → Int → Int → LLM → LI → Option R) (s5 : LI) (s6 : Int) (s7 : Int) (s8 : Int) (s9 : LLM) (s10 : LI) : Option R :=
  f50.s1' L N k1_e2 rec1 s5 s6 s7 s8 s9 s10
def f50.l1 {R : Type} (L N : Nat) (k1_e2 : LI → Int → Int → LLM → LI → Option R) : Nat → LI → Int → Int → Int → LLM → LI → Option R
  | 0, _, _, _, _, _, _ => none
  | n + 1, s5, s6, s7, s8, s9, s10 => f50.s1 L N k1_e2 (f50.l1 L N k1_e2 n) s5 s6 s7 s8 s9 s10
def f50.T1 (s5 : LI) (s6 : Int) (s7 : Int) (s8 : Int) (s9 : LLM) (s10 : LI) : T := mkT 52 [(1, (.tv (.sl i64) s5)), (2, (.ptr 1002 0)), (5, (.row 1009)), (6, (.tv i64 s6)), (7, (.tv i64 s7)), (8, (.tv i64 s8))]
def f50.H1 (s5 : LI) (s6 : Int) (s7 : Int) (s8 : Int) (s9 : LLM) (s10 : LI) : H := [(1002, (.box [(.tv (.sl (.sl (.st 0))) s9)])), (1009, (.row 3 i64 s10))]
def f50.T1_e2 (z11 : LI) (z12 : Int) (z13 : Int) (z14 : LLM) (z15 : LI) : T := mkT 52 [(1, (.tv (.sl i64) z11)), (2, (.ptr 1002 0)), (5, (.row 1009)), (6, (.tv i64 z12)), (7, (.tv i64 z13))]
def f50.H1_e2 (z11 : LI) (z12 : Int) (z13 : Int) (z14 : LLM) (z15 : LI) : H := [(1002, (.box [(.tv (.sl (.sl (.st 0))) z14)])), (1009, (.row 3 i64 z15))]
def f50.p1_e2' {R : Type} (L N : Nat) (k0_e0 : LI → Option R) (rec0 : LI → Int → LLM → LI → Option R) (z11 : LI) (z12 : Int) (z13 : Int) (z14 : LLM) (z15 : LI) : Option R :=
  bif (decide (z15.length + ([z13] : LI).length ≤ lim)) then
    rec0 z11 (wi (z12 + (1 : Int))) z14 (z15 ++ ([z13] : LI))
  else none
def f50.p1_e2 {R : Type} (L N : Nat) (k0_e0 : LI → Option R) (rec0 : LI → Int → LLM → LI → Option R) (z11 : LI) (z12 : Int) (z13 : Int) (z14 : LLM) (z15 : LI) : Option R :=
  f50.p1_e2' L N k0_e0 rec0 z11 z12 z13 z14 z15
def f50.s0' {R : Type} (L N : Nat) (k0_e0 : LI → Option R) (rec0 : LI → Int → LLM → LI → Option R) (w1 : LI → Int → Int → Int → LLM → LI → Option R) (s0 : LI) (s1 : Int) (s2 : LLM) (s3 : LI) : Option R :=
  bif (decide (s1 < (s0.length : Int))) then
    w1 s0 s1 s1 (wi (s1 - (1 : Int))) s2 s3
  else k0_e0 s3
def f50.s0 {R : Type} (L N : Nat) (k0_e0 : LI → Option R) (rec0 : LI → Int → LLM → LI → Option R) (s0 : LI) (s1 : Int) (s2 : LLM) (s3 : LI) : Option R :=
  f50.s0' L N k0_e0 rec0 (fun s5 s6 s7 s8 s9 s10 => f50.l1 L N (fun z11 z12 z13 z14 z15 => f50.p1_e2 L N k0_e0 rec0 z11 z12 z13 z14 z15) L s5 s6 s7 s8 s9 s10) s0 s1 s2 s3
def f50.l0 {R : Type} (L N : Nat) (k0_e0 : LI → Option R) : Nat → LI → Int → LLM → LI → Option R
  | 0, _, _, _, _ => none
  | n + 1, s0, s1, s2, s3 => f50.s0 L N k0_e0 (f50.l0 L N k0_e0 n) s0 s1 s2 s3
def f50.T0 (s0 : LI) (s1 : Int) (s2 : LLM) (s3 : LI) : T := mkT 52 [(1, (.tv (.sl i64) s0)), (2, (.ptr 1002 0)), (5, (.row 1009)), (6, (.tv i64 s1))]
def f50.H0 (s0 : LI) (s1 : Int) (s2 : LLM) (s3 : LI) : H := [(1002, (.box [(.tv (.sl (.sl (.st 0))) s2)])), (1009, (.row 3 i64 s3))]
def f50.T0_e0 (z4 : LI) : T := mkT 52 [(5, (.row 1009))]
def f50.H0_e0 (z4 : LI) : H := [(1009, (.row 3 i64 z4))]
def f50.p0_e0' {R : Type} (L N : Nat) (k : LI → Option R) (z4 : LI) : Option R :=
  k z4
def f50.p0_e0 {R : Type} (L N : Nat) (k : LI → Option R) (z4 : LI) : Option R :=
  f50.p0_e0' L N k z4
def f50.b' {R : Type} (L N : Nat) (k : LI → Option R) (w0 : LI → Int → LLM → LI → Option R) (x0 : Graph) (x1 : LI) : Option R :=
  w0 x1 (0 : Int) x0.moves ([] : LI)
def f50.b {R : Type} (L N : Nat) (k : LI → Option R) (x0 : Graph) (x1 : LI) : Option R :=
  f50.b' L N k (fun s0 s1 s2 s3 => f50.l0 L N (fun z4 => f50.p0_e0 L N k z4) L s0 s1 s2 s3) x0 x1
def f50 (L N : Nat) (x0 : Graph) (x1 : LI) : Option (LI) := f50.b L N some x0 x1
def f50.ent (L N : Nat) := entDa [(.st 2), (.sl i64)] (.one (.sl i64)) fun d => f50 L N d.1 d.2.1
noncomputable def E50 (L N : Nat) : Env := { P := Try.prog, ty := tyOf, Φ := (Φ67 L N), inl := inlT, live := lives, liveX := livesX, L := L, dp := none, prom := promT, heal := healT, ren := renT }
noncomputable def f50.c0 : Code := loopAt 0 (codeOf Try.f50)
noncomputable def f50.c1 : Code := loopAt 2 f50.c0
def f50.X1_e2 {R : Type} (κ : KX R) := fun z11 z12 z13 z14 z15 => κ (.exit 2) (f50.T1_e2 z11 z12 z13 z14 z15) (f50.H1_e2 z11 z12 z13 z14 z15)
def f50.R1 {R : Type} (rec : KT R) := fun s5 s6 s7 s8 s9 s10 => rec (f50.T1 s5 s6 s7 s8 s9 s10) (f50.H1 s5 s6 s7 s8 s9 s10)
theorem f50.s1_eq {R : Type} (L N : Nat) (κ : KX R) (rec : KT R) (s5 : LI) (s6 : Int) (s7 : Int) (s8 : Int) (s9 : LLM) (s10 : LI) :
    evRd (E50 L N) (evCallI (E50 L N) 1 2000) 1000 50 52 2 f50.c1 κ rec (f50.T1 s5 s6 s7 s8 s9 s10) (f50.H1 s5 s6 s7 s8 s9 s10)
    = f50.s1 L N (f50.X1_e2 κ) (f50.R1 rec) s5 s6 s7 s8 s9 s10 := by kernel_rfl
theorem f50.l1_eq {R : Type} (L N : Nat) (κ : KX R) : ∀ (n : Nat) (s5 : LI) (s6 : Int) (s7 : Int) (s8 : Int) (s9 : LLM) (s10 : LI),
    evLp (E50 L N) (evCallI (E50 L N) 1 2000) 1000 50 52 2 f50.c1 κ n (f50.T1 s5 s6 s7 s8 s9 s10) (f50.H1 s5 s6 s7 s8 s9 s10)
    = f50.l1 L N (f50.X1_e2 κ) n s5 s6 s7 s8 s9 s10 := by
  intro n
  induction n with
  | zero => intros; rfl
  | succ n ih =>
    intro s5 s6 s7 s8 s9 s10
    rw [evLp_succ, f50.s1_eq]
    delta f50.R1
    simp only [ih]
    rfl
def f50.X0_e0 {R : Type} (κ : KX R) := fun z4 => κ (.exit 0) (f50.T0_e0 z4) (f50.H0_e0 z4)
def f50.R0 {R : Type} (rec : KT R) := fun s0 s1 s2 s3 => rec (f50.T0 s0 s1 s2 s3) (f50.H0 s0 s1 s2 s3)
theorem f50.p1_e2_eq {R : Type} (L N : Nat) (κ : KX R) (rec : KT R) (z11 : LI) (z12 : Int) (z13 : Int) (z14 : LLM) (z15 : LI) :
    (contAt (E50 L N) (evCallI (E50 L N) 1 2000) 1000 50 52 2 f50.c0 (rdK (E50 L N) 1000 50 52 0 κ rec)) (.exit 2) (f50.T1_e2 z11 z12 z13 z14 z15) (f50.H1_e2 z11 z12 z13 z14 z15)
    = f50.p1_e2 L N (f50.X0_e0 κ) (f50.R0 rec) z11 z12 z13 z14 z15 := by kernel_rfl
theorem f50.s0_eq {R : Type} (L N : Nat) (κ : KX R) (rec : KT R) (s0 : LI) (s1 : Int) (s2 : LLM) (s3 : LI) :
    evRd (E50 L N) (evCallI (E50 L N) 1 2000) 1000 50 52 0 f50.c0 κ rec (f50.T0 s0 s1 s2 s3) (f50.H0 s0 s1 s2 s3)
    = f50.s0 L N (f50.X0_e0 κ) (f50.R0 rec) s0 s1 s2 s3 := by
  refine Eq.trans (b := f50.s0' L N (f50.X0_e0 κ) (f50.R0 rec) (fun s5 s6 s7 s8 s9 s10 => evLp (E50 L N) (evCallI (E50 L N) 1 2000) 1000 50 52 2 f50.c1 (contAt (E50 L N) (evCallI (E50 L N) 1 2000) 1000 50 52 2 f50.c0 (rdK (E50 L N) 1000 50 52 0 κ rec)) L (f50.T1 s5 s6 s7 s8 s9 s10) (f50.H1 s5 s6 s7 s8 s9 s10)) s0 s1 s2 s3) (by kernel_rfl) ?_
  unfold f50.s0
  simp only [f50.l1_eq]
  delta f50.X1_e2
  simp only [f50.p1_e2_eq]
theorem f50.l0_eq {R : Type} (L N : Nat) (κ : KX R) : ∀ (n : Nat) (s0 : LI) (s1 : Int) (s2 : LLM) (s3 : LI),
    evLp (E50 L N) (evCallI (E50 L N) 1 2000) 1000 50 52 0 f50.c0 κ n (f50.T0 s0 s1 s2 s3) (f50.H0 s0 s1 s2 s3)
    = f50.l0 L N (f50.X0_e0 κ) n s0 s1 s2 s3 := by
  intro n
  induction n with
  | zero => intros; rfl
  | succ n ih =>
    intro s0 s1 s2 s3
    rw [evLp_succ, f50.s0_eq]
    delta f50.R0
    simp only [ih]
    rfl
theorem f50.p0_e0_eq {R : Type} (L N : Nat) (κ : AV → Option R) (z4 : LI) :
    (contAt (E50 L N) (evCallI (E50 L N) 1 2000) 1000 50 52 0 (codeOf Try.f50) (finK (E50 L N) 1000 Try.f50 (finC (.one (.sl i64)) κ))) (.exit 0) (f50.T0_e0 z4) (f50.H0_e0 z4)
    = f50.p0_e0 L N (fun a0 => κ (.tv (.sl i64) a0)) z4 := by kernel_rfl
theorem f50.b_eq {R : Type} (L N : Nat) (κ : AV → Option R) (x0 : Graph) (x1 : LI) :
    evBody (E50 L N) (evCallI (E50 L N) 1 2000) 1000 50 Try.f50 [(.tv (.st 2) x0), (.tv (.sl i64) x1)] [] [] (finC (.one (.sl i64)) κ)
    = f50.b L N (fun a0 => κ (.tv (.sl i64) a0)) x0 x1 := by
  refine Eq.trans (b := f50.b' L N (fun a0 => κ (.tv (.sl i64) a0)) (fun s0 s1 s2 s3 => evLp (E50 L N) (evCallI (E50 L N) 1 2000) 1000 50 52 0 f50.c0 (contAt (E50 L N) (evCallI (E50 L N) 1 2000) 1000 50 52 0 (codeOf Try.f50) (finK (E50 L N) 1000 Try.f50 (finC (.one (.sl i64)) κ))) L (f50.T0 s0 s1 s2 s3) (f50.H0 s0 s1 s2 s3)) x0 x1) (by kernel_rfl) ?_
  unfold f50.b
  simp only [f50.l0_eq]
  delta f50.X0_e0
  simp only [f50.p0_e0_eq]
theorem f50.ok (L N : Nat) (hΦ : TellsOk Try.prog ((Φ67 L N))) : EntOk Try.prog 50 (f50.ent L N) := entDa_ok (E := (E50 L N)) (dep := 1000) (f := Try.f50) (sound_of hΦ) okP (callI_sound (sound_of hΦ) okP 1 2000) rfl fun d _ hy => (f50.b_eq L N (unR (.one (.sl i64))) d.1 d.2.1).trans (Eq.trans (b := f50.b L N some d.1 d.2.1) (by kernel_rfl) hy)
def Φ50 (L N : Nat) : Tells := (addT (Φ67 L N) 50 (f50.ent L N))
theorem Φ50_ok (L N : Nat) : TellsOk Try.prog (Φ50 L N) := addT_ok (Φ67_ok L N) (f50.ok L N (Φ67_ok L N))
def f51.s0' {R : Type} (L N : Nat) (k0_e0 : Option R) (k0_r : Bool → Option R) (rec0 : LI → LI → Int → Option R) (s0 : LI) (s1 : LI) (s2 : Int) : Option R :=
  bif (decide (s2 < (s0.length : Int))) then
    bif (decide (0 ≤ s2) && decide (s2 < (s0.length : Int))) then
      bif (decide (0 ≤ s2) && decide (s2 < (s1.length : Int))) then
        bif ((listAt s0 (0 : Int) s2.toNat) != (listAt s1 (0 : Int) s2.toNat)) then
          k0_r false
        else rec0 s0 s1 (wi (s2 + (1 : Int)))
      else none
    else none
  else k0_e0
def f51.s0 {R : Type} (L N : Nat) (k0_e0 : Option R) (k0_r : Bool → Option R) (rec0 : LI → LI → Int → Option R) (s0 : LI) (s1 : LI) (s2 : Int) : Option R :=
  f51.s0' L N k0_e0 k0_r rec0 s0 s1 s2
def f51.l0 {R : Type} (L N : Nat) (k0_e0 : Option R) (k0_r : Bool → Option R) : Nat → LI → LI → Int → Option R
  | 0, _, _, _ => none
  | n + 1, s0, s1, s2 => f51.s0 L N k0_e0 k0_r (f51.l0 L N k0_e0 k0_r n) s0 s1 s2
def f51.T0 (s0 : LI) (s1 : LI) (s2 : Int) : T := mkT 26 [(0, (.tv (.sl i64) s0)), (1, (.tv (.sl i64) s1)), (5, (.tv i64 s2))]
def f51.H0 (s0 : LI) (s1 : LI) (s2 : Int) : H := []
def f51.T0_e0 : T := mkT 26 []
def f51.H0_e0 : H := []
def f51.T0_r (z3 : Bool) : T := mkT 26 [(4, (.tv .bool z3))]
def f51.H0_r (z3 : Bool) : H := []
def f51.p0_e0' {R : Type} (L N : Nat) (k : Bool → Option R) : Option R :=
  k true
def f51.p0_e0 {R : Type} (L N : Nat) (k : Bool → Option R) : Option R :=
  f51.p0_e0' L N k
def f51.p0_r' {R : Type} (L N : Nat) (k : Bool → Option R) (z3 : Bool) : Option R :=
  k z3
def f51.p0_r {R : Type} (L N : Nat) (k : Bool → Option R) (z3 : Bool) : Option R :=
  f51.p0_r' L N k z3
def f51.b' {R : Type} (L N : Nat) (k : Bool → Option R) (w0 : LI → LI → Int → Option R) (x0 : LI) (x1 : LI) : Option R :=
  bif ((x0.length : Int) != (x1.length : Int)) then
    k false
  else w0 x0 x1 (0 : Int)
def f51.b {R : Type} (L N : Nat) (k : Bool → Option R) (x0 : LI) (x1 : LI) : Option R :=
  f51.b' L N k (fun s0 s1 s2 => f51.l0 L N (f51.p0_e0 L N k) (fun z3 => f51.p0_r L N k z3) L s0 s1 s2) x0 x1
def f51 (L N : Nat) (x0 : LI) (x1 : LI) : Option (Bool) := f51.b L N some x0 x1
def f51.ent (L N : Nat) := entRo [(.sl i64), (.sl i64)] (.one .bool) fun d => f51 L N d.1 d.2.1
noncomputable def E51 (L N : Nat) : Env := { P := Try.prog, ty := tyOf, Φ := (Φ50 L N), inl := inlT, live := lives, liveX := livesX, L := L, dp := none, prom := promT, heal := healT, ren := renT }
noncomputable def f51.c0 : Code := loopAt 0 (codeOf Try.f51)
def f51.X0_e0 {R : Type} (κ : KX R) := κ (.exit 0) f51.T0_e0 f51.H0_e0
def f51.X0_r {R : Type} (κ : KX R) := fun z3 => κ .ret (f51.T0_r z3) (f51.H0_r z3)
def f51.R0 {R : Type} (rec : KT R) := fun s0 s1 s2 => rec (f51.T0 s0 s1 s2) (f51.H0 s0 s1 s2)
theorem f51.s0_eq {R : Type} (L N : Nat) (κ : KX R) (rec : KT R) (s0 : LI) (s1 : LI) (s2 : Int) :
    evRd (E51 L N) (evCallI (E51 L N) 1 2000) 1000 51 26 0 f51.c0 κ rec (f51.T0 s0 s1 s2) (f51.H0 s0 s1 s2)
    = f51.s0 L N (f51.X0_e0 κ) (f51.X0_r κ) (f51.R0 rec) s0 s1 s2 := by kernel_rfl
theorem f51.l0_eq {R : Type} (L N : Nat) (κ : KX R) : ∀ (n : Nat) (s0 : LI) (s1 : LI) (s2 : Int),
    evLp (E51 L N) (evCallI (E51 L N) 1 2000) 1000 51 26 0 f51.c0 κ n (f51.T0 s0 s1 s2) (f51.H0 s0 s1 s2)
    = f51.l0 L N (f51.X0_e0 κ) (f51.X0_r κ) n s0 s1 s2 := by
  intro n
  induction n with
  | zero => intros; rfl
  | succ n ih =>
    intro s0 s1 s2
    rw [evLp_succ, f51.s0_eq]
    delta f51.R0
    simp only [ih]
    rfl
theorem f51.p0_e0_eq {R : Type} (L N : Nat) (κ : AV → Option R) :
    (contAt (E51 L N) (evCallI (E51 L N) 1 2000) 1000 51 26 0 (codeOf Try.f51) (finK (E51 L N) 1000 Try.f51 (finC (.one .bool) κ))) (.exit 0) f51.T0_e0 f51.H0_e0
    = f51.p0_e0 L N (fun a0 => κ (.tv .bool a0)) := by kernel_rfl
theorem f51.p0_r_eq {R : Type} (L N : Nat) (κ : AV → Option R) (z3 : Bool) :
    (contAt (E51 L N) (evCallI (E51 L N) 1 2000) 1000 51 26 0 (codeOf Try.f51) (finK (E51 L N) 1000 Try.f51 (finC (.one .bool) κ))) .ret (f51.T0_r z3) (f51.H0_r z3)
    = f51.p0_r L N (fun a0 => κ (.tv .bool a0)) z3 := by kernel_rfl
theorem f51.b_eq {R : Type} (L N : Nat) (κ : AV → Option R) (x0 : LI) (x1 : LI) :
    evBody (E51 L N) (evCallI (E51 L N) 1 2000) 1000 51 Try.f51 [(.tv (.sl i64) x0), (.tv (.sl i64) x1)] [] [] (finC (.one .bool) κ)
    = f51.b L N (fun a0 => κ (.tv .bool a0)) x0 x1 := by
  refine Eq.trans (b := f51.b' L N (fun a0 => κ (.tv .bool a0)) (fun s0 s1 s2 => evLp (E51 L N) (evCallI (E51 L N) 1 2000) 1000 51 26 0 f51.c0 (contAt (E51 L N) (evCallI (E51 L N) 1 2000) 1000 51 26 0 (codeOf Try.f51) (finK (E51 L N) 1000 Try.f51 (finC (.one .bool) κ))) L (f51.T0 s0 s1 s2) (f51.H0 s0 s1 s2)) x0 x1) (by kernel_rfl) ?_
  unfold f51.b
  simp only [f51.l0_eq]
  delta f51.X0_e0 f51.X0_r
  simp only [f51.p0_e0_eq, f51.p0_r_eq]
theorem f51.ok (L N : Nat) (hΦ : TellsOk Try.prog ((Φ50 L N))) : EntOk Try.prog 51 (f51.ent L N) := entRo_ok (E := (E51 L N)) (dep := 1000) (f := Try.f51) (sound_of hΦ) okP (callI_sound (sound_of hΦ) okP 1 2000) rfl rfl fun d _ hy => (f51.b_eq L N (unR (.one .bool)) d.1 d.2.1).trans (Eq.trans (b := f51.b L N some d.1 d.2.1) (by kernel_rfl) hy)
def Φ51 (L N : Nat) : Tells := (addT (Φ50 L N) 51 (f51.ent L N))
theorem Φ51_ok (L N : Nat) : TellsOk Try.prog (Φ51 L N) := addT_ok (Φ50_ok L N) (f51.ok L N (Φ50_ok L N))
def f26.s0' {R : Type} (L N : Nat) (k0_r : LLI → Option R) (rec0 : LLM → LLI → Option R) (s0 : LLM) (s1 : LLI) : Option R :=
  bif (decide (0 ≤ (wi ((s1.length : Int) - (1 : Int)))) && decide ((wi ((s1.length : Int) - (1 : Int))) < (s1.length : Int))) then
    (f50 L N (Graph.mk s0) (listAt s1 [] (wi ((s1.length : Int) - (1 : Int))).toNat)).bind fun y2 =>
    bif (decide (0 ≤ (wi ((s1.length : Int) - (1 : Int)))) && decide ((wi ((s1.length : Int) - (1 : Int))) < (s1.length : Int))) then
      (f51 L N y2 (listAt s1 [] (wi ((s1.length : Int) - (1 : Int))).toNat)).bind fun y3 =>
      bif y3 then
        k0_r s1
      else bif (decide (s1.length + ([y2] : LLI).length ≤ lim)) then
        rec0 s0 (s1 ++ ([y2] : LLI))
      else none
    else none
  else none
def f26.s0 {R : Type} (L N : Nat) (k0_r : LLI → Option R) (rec0 : LLM → LLI → Option R) (s0 : LLM) (s1 : LLI) : Option R :=
  f26.s0' L N k0_r rec0 s0 s1
def f26.l0 {R : Type} (L N : Nat) (k0_r : LLI → Option R) : Nat → LLM → LLI → Option R
  | 0, _, _ => none
  | n + 1, s0, s1 => f26.s0 L N k0_r (f26.l0 L N k0_r n) s0 s1
def f26.T0 (s0 : LLM) (s1 : LLI) : T := mkT 31 [(1, (.ptr 1001 0)), (3, (.row 1009))]
def f26.H0 (s0 : LLM) (s1 : LLI) : H := [(1001, (.box [(.tv (.sl (.sl (.st 0))) s0)])), (1009, (.row 43 (.sl i64) s1))]
def f26.T0_r (z4 : LLI) : T := mkT 31 [(2, (.row 1009))]
def f26.H0_r (z4 : LLI) : H := [(1009, (.row 43 (.sl i64) z4))]
def f26.p0_r' {R : Type} (L N : Nat) (k : LLI → Option R) (z4 : LLI) : Option R :=
  k z4
def f26.p0_r {R : Type} (L N : Nat) (k : LLI → Option R) (z4 : LLI) : Option R :=
  f26.p0_r' L N k z4
def f26.b' {R : Type} (L N : Nat) (k : LLI → Option R) (w0 : LLM → LLI → Option R) (x0 : Graph) : Option R :=
  bif (decide (0 ≤ (x0.moves.length : Int)) && decide ((x0.moves.length : Int) ≤ (lim : Int))) then
    w0 x0.moves ([(List.replicate (x0.moves.length : Int).toNat (0 : Int))] : LLI)
  else none
def f26.b {R : Type} (L N : Nat) (k : LLI → Option R) (x0 : Graph) : Option R :=
  f26.b' L N k (fun s0 s1 => f26.l0 L N (fun z4 => f26.p0_r L N k z4) L s0 s1) x0
def f26 (L N : Nat) (x0 : Graph) : Option (LLI) := f26.b L N some x0
def f26.ent (L N : Nat) := entDa [(.st 2)] (.one (.sl (.sl i64))) fun d => f26 L N d.1
noncomputable def E26 (L N : Nat) : Env := { P := Try.prog, ty := tyOf, Φ := (Φ51 L N), inl := inlT, live := lives, liveX := livesX, L := L, dp := none, prom := promT, heal := healT, ren := renT }
noncomputable def f26.c0 : Code := loopAt 0 (codeOf Try.f26)
def f26.X0_r {R : Type} (κ : KX R) := fun z4 => κ .ret (f26.T0_r z4) (f26.H0_r z4)
def f26.R0 {R : Type} (rec : KT R) := fun s0 s1 => rec (f26.T0 s0 s1) (f26.H0 s0 s1)
theorem f26.s0_eq {R : Type} (L N : Nat) (κ : KX R) (rec : KT R) (s0 : LLM) (s1 : LLI) :
    evRd (E26 L N) (evCallI (E26 L N) 1 2000) 1000 26 31 0 f26.c0 κ rec (f26.T0 s0 s1) (f26.H0 s0 s1)
    = f26.s0 L N (f26.X0_r κ) (f26.R0 rec) s0 s1 := by kernel_rfl
theorem f26.l0_eq {R : Type} (L N : Nat) (κ : KX R) : ∀ (n : Nat) (s0 : LLM) (s1 : LLI),
    evLp (E26 L N) (evCallI (E26 L N) 1 2000) 1000 26 31 0 f26.c0 κ n (f26.T0 s0 s1) (f26.H0 s0 s1)
    = f26.l0 L N (f26.X0_r κ) n s0 s1 := by
  intro n
  induction n with
  | zero => intros; rfl
  | succ n ih =>
    intro s0 s1
    rw [evLp_succ, f26.s0_eq]
    delta f26.R0
    simp only [ih]
    rfl
theorem f26.p0_r_eq {R : Type} (L N : Nat) (κ : AV → Option R) (z4 : LLI) :
    (contAt (E26 L N) (evCallI (E26 L N) 1 2000) 1000 26 31 0 (codeOf Try.f26) (finK (E26 L N) 1000 Try.f26 (finC (.one (.sl (.sl i64))) κ))) .ret (f26.T0_r z4) (f26.H0_r z4)
    = f26.p0_r L N (fun a0 => κ (.tv (.sl (.sl i64)) a0)) z4 := by kernel_rfl
theorem f26.b_eq {R : Type} (L N : Nat) (κ : AV → Option R) (x0 : Graph) :
    evBody (E26 L N) (evCallI (E26 L N) 1 2000) 1000 26 Try.f26 [(.tv (.st 2) x0)] [] [] (finC (.one (.sl (.sl i64))) κ)
    = f26.b L N (fun a0 => κ (.tv (.sl (.sl i64)) a0)) x0 := by
  refine Eq.trans (b := f26.b' L N (fun a0 => κ (.tv (.sl (.sl i64)) a0)) (fun s0 s1 => evLp (E26 L N) (evCallI (E26 L N) 1 2000) 1000 26 31 0 f26.c0 (contAt (E26 L N) (evCallI (E26 L N) 1 2000) 1000 26 31 0 (codeOf Try.f26) (finK (E26 L N) 1000 Try.f26 (finC (.one (.sl (.sl i64))) κ))) L (f26.T0 s0 s1) (f26.H0 s0 s1)) x0) (by kernel_rfl) ?_
  unfold f26.b
  simp only [f26.l0_eq]
  delta f26.X0_r
  simp only [f26.p0_r_eq]
theorem f26.ok (L N : Nat) (hΦ : TellsOk Try.prog ((Φ51 L N))) : EntOk Try.prog 26 (f26.ent L N) := entDa_ok (E := (E26 L N)) (dep := 1000) (f := Try.f26) (sound_of hΦ) okP (callI_sound (sound_of hΦ) okP 1 2000) rfl fun d _ hy => (f26.b_eq L N (unR (.one (.sl (.sl i64)))) d.1).trans (Eq.trans (b := f26.b L N some d.1) (by kernel_rfl) hy)
def Φ26 (L N : Nat) : Tells := (addT (Φ51 L N) 26 (f26.ent L N))
theorem Φ26_ok (L N : Nat) : TellsOk Try.prog (Φ26 L N) := addT_ok (Φ51_ok L N) (f26.ok L N (Φ51_ok L N))
def f27.s0' {R : Type} (L N : Nat) (k0_e0 : Option R) (k0_r : Int → Option R) (rec0 : LLI → Int → Int → Int → Option R) (s0 : LLI) (s1 : Int) (s2 : Int) (s3 : Int) : Option R :=
  bif (decide (s3 < (s0.length : Int))) then
    bif (decide (0 ≤ s3) && decide (s3 < (s0.length : Int))) then
      bif (decide (0 ≤ s1) && decide (s1 < ((listAt s0 [] s3.toNat).length : Int))) then
        bif (decide (0 ≤ s3) && decide (s3 < (s0.length : Int))) then
          bif (decide (0 ≤ s2) && decide (s2 < ((listAt s0 [] s3.toNat).length : Int))) then
            bif ((listAt (listAt s0 [] s3.toNat) (0 : Int) s1.toNat) != (listAt (listAt s0 [] s3.toNat) (0 : Int) s2.toNat)) then
              k0_r s3
            else rec0 s0 s1 s2 (wi (s3 + (1 : Int)))
          else none
        else none
      else none
    else none
  else k0_e0
def f27.s0 {R : Type} (L N : Nat) (k0_e0 : Option R) (k0_r : Int → Option R) (rec0 : LLI → Int → Int → Int → Option R) (s0 : LLI) (s1 : Int) (s2 : Int) (s3 : Int) : Option R :=
  f27.s0' L N k0_e0 k0_r rec0 s0 s1 s2 s3
def f27.l0 {R : Type} (L N : Nat) (k0_e0 : Option R) (k0_r : Int → Option R) : Nat → LLI → Int → Int → Int → Option R
  | 0, _, _, _, _ => none
  | n + 1, s0, s1, s2, s3 => f27.s0 L N k0_e0 k0_r (f27.l0 L N k0_e0 k0_r n) s0 s1 s2 s3
def f27.T0 (s0 : LLI) (s1 : Int) (s2 : Int) (s3 : Int) : T := mkT 30 [(0, (.tv (.sl (.sl i64)) s0)), (1, (.tv i64 s1)), (2, (.tv i64 s2)), (7, (.tv i64 s3))]
def f27.H0 (s0 : LLI) (s1 : Int) (s2 : Int) (s3 : Int) : H := []
def f27.T0_e0 : T := mkT 30 []
def f27.H0_e0 : H := []
def f27.T0_r (z4 : Int) : T := mkT 30 [(6, (.tv i64 z4))]
def f27.H0_r (z4 : Int) : H := []
def f27.p0_e0' {R : Type} (L N : Nat) (k : Int → Option R) : Option R :=
  k (-1 : Int)
def f27.p0_e0 {R : Type} (L N : Nat) (k : Int → Option R) : Option R :=
  f27.p0_e0' L N k
def f27.p0_r' {R : Type} (L N : Nat) (k : Int → Option R) (z4 : Int) : Option R :=
  k z4
def f27.p0_r {R : Type} (L N : Nat) (k : Int → Option R) (z4 : Int) : Option R :=
  f27.p0_r' L N k z4
def f27.b' {R : Type} (L N : Nat) (k : Int → Option R) (w0 : LLI → Int → Int → Int → Option R) (x0 : LLI) (x1 : Int) (x2 : Int) : Option R :=
  w0 x0 x1 x2 (0 : Int)
def f27.b {R : Type} (L N : Nat) (k : Int → Option R) (x0 : LLI) (x1 : Int) (x2 : Int) : Option R :=
  f27.b' L N k (fun s0 s1 s2 s3 => f27.l0 L N (f27.p0_e0 L N k) (fun z4 => f27.p0_r L N k z4) L s0 s1 s2 s3) x0 x1 x2
def f27 (L N : Nat) (x0 : LLI) (x1 : Int) (x2 : Int) : Option (Int) := f27.b L N some x0 x1 x2
def f27.ent (L N : Nat) := entRo [(.sl (.sl i64)), i64, i64] (.one i64) fun d => f27 L N d.1 d.2.1 d.2.2.1
noncomputable def E27 (L N : Nat) : Env := { P := Try.prog, ty := tyOf, Φ := (Φ26 L N), inl := inlT, live := lives, liveX := livesX, L := L, dp := none, prom := promT, heal := healT, ren := renT }
noncomputable def f27.c0 : Code := loopAt 0 (codeOf Try.f27)
def f27.X0_e0 {R : Type} (κ : KX R) := κ (.exit 0) f27.T0_e0 f27.H0_e0
def f27.X0_r {R : Type} (κ : KX R) := fun z4 => κ .ret (f27.T0_r z4) (f27.H0_r z4)
def f27.R0 {R : Type} (rec : KT R) := fun s0 s1 s2 s3 => rec (f27.T0 s0 s1 s2 s3) (f27.H0 s0 s1 s2 s3)
theorem f27.s0_eq {R : Type} (L N : Nat) (κ : KX R) (rec : KT R) (s0 : LLI) (s1 : Int) (s2 : Int) (s3 : Int) :
    evRd (E27 L N) (evCallI (E27 L N) 1 2000) 1000 27 30 0 f27.c0 κ rec (f27.T0 s0 s1 s2 s3) (f27.H0 s0 s1 s2 s3)
    = f27.s0 L N (f27.X0_e0 κ) (f27.X0_r κ) (f27.R0 rec) s0 s1 s2 s3 := by kernel_rfl
theorem f27.l0_eq {R : Type} (L N : Nat) (κ : KX R) : ∀ (n : Nat) (s0 : LLI) (s1 : Int) (s2 : Int) (s3 : Int),
    evLp (E27 L N) (evCallI (E27 L N) 1 2000) 1000 27 30 0 f27.c0 κ n (f27.T0 s0 s1 s2 s3) (f27.H0 s0 s1 s2 s3)
    = f27.l0 L N (f27.X0_e0 κ) (f27.X0_r κ) n s0 s1 s2 s3 := by
  intro n
  induction n with
  | zero => intros; rfl
  | succ n ih =>
    intro s0 s1 s2 s3
    rw [evLp_succ, f27.s0_eq]
    delta f27.R0
    simp only [ih]
    rfl
theorem f27.p0_e0_eq {R : Type} (L N : Nat) (κ : AV → Option R) :
    (contAt (E27 L N) (evCallI (E27 L N) 1 2000) 1000 27 30 0 (codeOf Try.f27) (finK (E27 L N) 1000 Try.f27 (finC (.one i64) κ))) (.exit 0) f27.T0_e0 f27.H0_e0
    = f27.p0_e0 L N (fun a0 => κ (.tv i64 a0)) := by kernel_rfl
theorem f27.p0_r_eq {R : Type} (L N : Nat) (κ : AV → Option R) (z4 : Int) :
    (contAt (E27 L N) (evCallI (E27 L N) 1 2000) 1000 27 30 0 (codeOf Try.f27) (finK (E27 L N) 1000 Try.f27 (finC (.one i64) κ))) .ret (f27.T0_r z4) (f27.H0_r z4)
    = f27.p0_r L N (fun a0 => κ (.tv i64 a0)) z4 := by kernel_rfl
theorem f27.b_eq {R : Type} (L N : Nat) (κ : AV → Option R) (x0 : LLI) (x1 : Int) (x2 : Int) :
    evBody (E27 L N) (evCallI (E27 L N) 1 2000) 1000 27 Try.f27 [(.tv (.sl (.sl i64)) x0), (.tv i64 x1), (.tv i64 x2)] [] [] (finC (.one i64) κ)
    = f27.b L N (fun a0 => κ (.tv i64 a0)) x0 x1 x2 := by
  refine Eq.trans (b := f27.b' L N (fun a0 => κ (.tv i64 a0)) (fun s0 s1 s2 s3 => evLp (E27 L N) (evCallI (E27 L N) 1 2000) 1000 27 30 0 f27.c0 (contAt (E27 L N) (evCallI (E27 L N) 1 2000) 1000 27 30 0 (codeOf Try.f27) (finK (E27 L N) 1000 Try.f27 (finC (.one i64) κ))) L (f27.T0 s0 s1 s2 s3) (f27.H0 s0 s1 s2 s3)) x0 x1 x2) (by kernel_rfl) ?_
  unfold f27.b
  simp only [f27.l0_eq]
  delta f27.X0_e0 f27.X0_r
  simp only [f27.p0_e0_eq, f27.p0_r_eq]
theorem f27.ok (L N : Nat) (hΦ : TellsOk Try.prog ((Φ26 L N))) : EntOk Try.prog 27 (f27.ent L N) := entRo_ok (E := (E27 L N)) (dep := 1000) (f := Try.f27) (sound_of hΦ) okP (callI_sound (sound_of hΦ) okP 1 2000) rfl rfl fun d _ hy => (f27.b_eq L N (unR (.one i64)) d.1 d.2.1 d.2.2.1).trans (Eq.trans (b := f27.b L N some d.1 d.2.1 d.2.2.1) (by kernel_rfl) hy)
def Φ27 (L N : Nat) : Tells := (addT (Φ26 L N) 27 (f27.ent L N))
theorem Φ27_ok (L N : Nat) : TellsOk Try.prog (Φ27 L N) := addT_ok (Φ26_ok L N) (f27.ok L N (Φ26_ok L N))
def f53.s0' {R : Type} (L N : Nat) (self53 : Tree → Option (Int)) (k0_e0 : Int → Option R) (k0_r : Int → Int → Option R) (rec0 : Int → Int → Int → Int → LT → Option R) (s9 : Int) (s10 : Int) (s11 : Int) (s12 : Int) (s13 : LT) : Option R :=
  bif (decide (s10 < (s13.length : Int))) then
    bif (decide (0 ≤ s10) && decide (s10 < (s13.length : Int))) then
      (self53 (listAt s13 (Ty.dflt (.st 1)) s10.toNat)).bind fun y15 =>
      bif (y15 == (0 : Int)) then
        k0_r (0 : Int) s9
      else rec0 (bif decide ((wi (s9 + y15)) < (1000 : Int)) then (wi (s9 + y15)) else (1000 : Int)) (wi (s10 + (1 : Int))) s11 s12 s13
    else none
  else k0_e0 s9
def f53.s0 {R : Type} (L N : Nat) (self53 : Tree → Option (Int)) (k0_e0 : Int → Option R) (k0_r : Int → Int → Option R) (rec0 : Int → Int → Int → Int → LT → Option R) (s9 : Int) (s10 : Int) (s11 : Int) (s12 : Int) (s13 : LT) : Option R :=
  f53.s0' L N self53 k0_e0 k0_r rec0 s9 s10 s11 s12 s13
def f53.l0 {R : Type} (L N : Nat) (self53 : Tree → Option (Int)) (k0_e0 : Int → Option R) (k0_r : Int → Int → Option R) : Nat → Int → Int → Int → Int → LT → Option R
  | 0, _, _, _, _, _ => none
  | n + 1, s9, s10, s11, s12, s13 => f53.s0 L N self53 k0_e0 k0_r (f53.l0 L N self53 k0_e0 k0_r n) s9 s10 s11 s12 s13
def f53.T0 (s9 : Int) (s10 : Int) (s11 : Int) (s12 : Int) (s13 : LT) : T := mkT 59 [(1, (.ptr 1001 0)), (4, (.tv i64 s9)), (5, (.tv i64 s10))]
def f53.H0 (s9 : Int) (s10 : Int) (s11 : Int) (s12 : Int) (s13 : LT) : H := [(1001, (.box [(.tv i64 s11), (.tv i64 s12), (.tv (.sl (.st 1)) s13)]))]
def f53.T0_e0 (z14 : Int) : T := mkT 59 [(4, (.tv i64 z14))]
def f53.H0_e0 (z14 : Int) : H := []
def f53.T0_r (z16 : Int) (z17 : Int) : T := mkT 59 [(2, (.tv i64 z16)), (4, (.tv i64 z17))]
def f53.H0_r (z16 : Int) (z17 : Int) : H := []
def f53.p0_e0' {R : Type} (L N : Nat) (self53 : Tree → Option (Int)) (k : Int → Option R) (z14 : Int) : Option R :=
  k z14
def f53.p0_e0 {R : Type} (L N : Nat) (self53 : Tree → Option (Int)) (k : Int → Option R) (z14 : Int) : Option R :=
  f53.p0_e0' L N self53 k z14
def f53.p0_r' {R : Type} (L N : Nat) (self53 : Tree → Option (Int)) (k : Int → Option R) (z16 : Int) (z17 : Int) : Option R :=
  k z16
def f53.p0_r {R : Type} (L N : Nat) (self53 : Tree → Option (Int)) (k : Int → Option R) (z16 : Int) (z17 : Int) : Option R :=
  f53.p0_r' L N self53 k z16 z17
def f53.j0' {R : Type} (L N : Nat) (self53 : Tree → Option (Int)) (k : Int → Option R) (w0 : Int → Int → Int → Int → LT → Option R) (v6 : Int) (v7 : Int) (v8 : LT) : Option R :=
  w0 (1 : Int) (0 : Int) v6 v7 v8
def f53.b' {R : Type} (L N : Nat) (self53 : Tree → Option (Int)) (k : Int → Option R) (w0 : Int → Int → Int → Int → LT → Option R) (x0 : Tree) : Option R :=
  (f25 L N x0.op (0 : Int) (3 : Int)).bind fun y0 =>
  bif (!y0) then
    k (0 : Int)
  else bif (decide (0 ≤ x0.op) && decide (x0.op < (([(0 : Int), (1 : Int), (2 : Int), (1 : Int)] : LI).length : Int))) then
    bif ((x0.parts.length : Int) != (listAt ([(0 : Int), (1 : Int), (2 : Int), (1 : Int)] : LI) (0 : Int) x0.op.toNat)) then
      k (0 : Int)
    else (f48 L N x0.n).bind fun y1 =>
    bif (!y1) then
      k (0 : Int)
    else bif (x0.op != (3 : Int)) then
      bif (x0.n != (0 : Int)) then
        k (0 : Int)
      else f53.j0' L N self53 k w0 x0.op x0.n x0.parts
    else f53.j0' L N self53 k w0 x0.op x0.n x0.parts
  else none
def f53.b {R : Type} (L N : Nat) (self53 : Tree → Option (Int)) (k : Int → Option R) (x0 : Tree) : Option R :=
  f53.b' L N self53 k (fun s9 s10 s11 s12 s13 => f53.l0 L N self53 (fun z14 => f53.p0_e0 L N self53 k z14) (fun z16 z17 => f53.p0_r L N self53 k z16 z17) L s9 s10 s11 s12 s13) x0
def f53 (L N : Nat) : Nat → Tree → Option (Int)
  | 0, _ => none
  | n + 1, x0 => f53.b L N (f53 L N n) some x0
def f53.ent (L N m : Nat) := entRo [(.st 1)] (.one i64) fun d => f53 L N m d.1
def Φ53s (L N m : Nat) : Tells := (addT (Φ27 L N) 53 (f53.ent L N m))
noncomputable def E53 (L N m : Nat) : Env := { P := Try.prog, ty := tyOf, Φ := Φ53s L N m, inl := inlT, live := lives, liveX := livesX, L := L, dp := none, prom := promT, heal := healT, ren := renT }
noncomputable def f53.c0 : Code := loopAt 0 (codeOf Try.f53)
def f53.X0_e0 {R : Type} (κ : KX R) := fun z14 => κ (.exit 0) (f53.T0_e0 z14) (f53.H0_e0 z14)
def f53.X0_r {R : Type} (κ : KX R) := fun z16 z17 => κ .ret (f53.T0_r z16 z17) (f53.H0_r z16 z17)
def f53.R0 {R : Type} (rec : KT R) := fun s9 s10 s11 s12 s13 => rec (f53.T0 s9 s10 s11 s12 s13) (f53.H0 s9 s10 s11 s12 s13)
theorem f53.s0_eq {R : Type} (L N m : Nat) (κ : KX R) (rec : KT R) (s9 : Int) (s10 : Int) (s11 : Int) (s12 : Int) (s13 : LT) :
    evRd (E53 L N m) (evCallI (E53 L N m) 1 2000) 1000 53 59 0 f53.c0 κ rec (f53.T0 s9 s10 s11 s12 s13) (f53.H0 s9 s10 s11 s12 s13)
    = f53.s0 L N (f53 L N m) (f53.X0_e0 κ) (f53.X0_r κ) (f53.R0 rec) s9 s10 s11 s12 s13 := by kernel_rfl
theorem f53.l0_eq {R : Type} (L N m : Nat) (κ : KX R) : ∀ (n : Nat) (s9 : Int) (s10 : Int) (s11 : Int) (s12 : Int) (s13 : LT),
    evLp (E53 L N m) (evCallI (E53 L N m) 1 2000) 1000 53 59 0 f53.c0 κ n (f53.T0 s9 s10 s11 s12 s13) (f53.H0 s9 s10 s11 s12 s13)
    = f53.l0 L N (f53 L N m) (f53.X0_e0 κ) (f53.X0_r κ) n s9 s10 s11 s12 s13 := by
  intro n
  induction n with
  | zero => intros; rfl
  | succ n ih =>
    intro s9 s10 s11 s12 s13
    rw [evLp_succ, f53.s0_eq]
    delta f53.R0
    simp only [ih]
    rfl
theorem f53.p0_e0_eq {R : Type} (L N m : Nat) (κ : AV → Option R) (z14 : Int) :
    (contAt (E53 L N m) (evCallI (E53 L N m) 1 2000) 1000 53 59 0 (codeOf Try.f53) (finK (E53 L N m) 1000 Try.f53 (finC (.one i64) κ))) (.exit 0) (f53.T0_e0 z14) (f53.H0_e0 z14)
    = f53.p0_e0 L N (f53 L N m) (fun a0 => κ (.tv i64 a0)) z14 := by kernel_rfl
theorem f53.p0_r_eq {R : Type} (L N m : Nat) (κ : AV → Option R) (z16 : Int) (z17 : Int) :
    (contAt (E53 L N m) (evCallI (E53 L N m) 1 2000) 1000 53 59 0 (codeOf Try.f53) (finK (E53 L N m) 1000 Try.f53 (finC (.one i64) κ))) .ret (f53.T0_r z16 z17) (f53.H0_r z16 z17)
    = f53.p0_r L N (f53 L N m) (fun a0 => κ (.tv i64 a0)) z16 z17 := by kernel_rfl
theorem f53.b_eq {R : Type} (L N m : Nat) (κ : AV → Option R) (x0 : Tree) :
    evBody (E53 L N m) (evCallI (E53 L N m) 1 2000) 1000 53 Try.f53 [(.tv (.st 1) x0)] [] [] (finC (.one i64) κ)
    = f53.b L N (f53 L N m) (fun a0 => κ (.tv i64 a0)) x0 := by
  refine Eq.trans (b := f53.b' L N (f53 L N m) (fun a0 => κ (.tv i64 a0)) (fun s9 s10 s11 s12 s13 => evLp (E53 L N m) (evCallI (E53 L N m) 1 2000) 1000 53 59 0 f53.c0 (contAt (E53 L N m) (evCallI (E53 L N m) 1 2000) 1000 53 59 0 (codeOf Try.f53) (finK (E53 L N m) 1000 Try.f53 (finC (.one i64) κ))) L (f53.T0 s9 s10 s11 s12 s13) (f53.H0 s9 s10 s11 s12 s13)) x0) (by kernel_rfl) ?_
  unfold f53.b
  simp only [f53.l0_eq]
  delta f53.X0_e0 f53.X0_r
  simp only [f53.p0_e0_eq, f53.p0_r_eq]
theorem f53.ok (L N m : Nat) (hΦ : TellsOk Try.prog (Φ53s L N m)) : EntOk Try.prog 53 (f53.ent L N (m + 1)) := entRo_ok (E := (E53 L N m)) (dep := 1000) (f := Try.f53) (sound_of hΦ) okP (callI_sound (sound_of hΦ) okP 1 2000) rfl rfl fun d _ hy => (f53.b_eq L N m (unR (.one i64)) d.1).trans (Eq.trans (b := f53.b L N (f53 L N m) some d.1) (by kernel_rfl) hy)
theorem Φ53s_ok (L N : Nat) : ∀ m, TellsOk Try.prog (Φ53s L N m) := by
  intro m
  induction m with
  | zero => exact (addT_ok (Φ27_ok L N) (entRo_no fun _ => rfl))
  | succ m ih => exact (addT_ok (Φ27_ok L N) (f53.ok L N m ih))
def Φ53 (L N : Nat) : Tells := (addT (Φ27 L N) 53 (f53.ent L N N))
theorem Φ53_ok (L N : Nat) : TellsOk Try.prog (Φ53 L N) := Φ53s_ok L N N
def f28.j0' {R : Type} (L N : Nat) (self28 : Graph → LLI → Int → Int → Option (Tree × Bool)) (k1_e2 : Int → Int → Int → Int → Int → Int → LT → Option R) (k1_r : Bool → Int → Int → LT → Int → Int → Int → Int → LT → Option R) (rec1 : LLI → Int → Int → Int → LLM → Int → Int → Int → Int → Int → Int → LT → Option R) (v45 : LLI) (v46 : Int) (v47 : Int) (v48 : Int) (v49 : LLM) (v50 : Int) (v51 : Int) (v52 : Int) (v53 : Int) (v54 : Int) (v55 : Int) (v56 : LT) (v57 : Int) (v58 : Int) (v59 : LT) : Option R :=
  (f53 L N N (Tree.mk ((Tree.mk v57 v58 v59).op) ((Tree.mk v57 v58 v59).n) ((Tree.mk v57 v58 v59).parts))).bind fun y60 =>
  bif (decide (y60 > (60 : Int))) then
    k1_r false ((Tree.mk (0 : Int) (0 : Int) []).op) ((Tree.mk (0 : Int) (0 : Int) []).n) ((Tree.mk (0 : Int) (0 : Int) []).parts) v52 v53 ((Tree.mk v57 v58 v59).op) ((Tree.mk v57 v58 v59).n) ((Tree.mk v57 v58 v59).parts)
  else rec1 v45 v46 (wi (v47 + (1 : Int))) (wi (v48 + (1 : Int))) v49 v50 v51 v52 v53 ((Tree.mk v57 v58 v59).op) ((Tree.mk v57 v58 v59).n) ((Tree.mk v57 v58 v59).parts)
def f28.s1' {R : Type} (L N : Nat) (self28 : Graph → LLI → Int → Int → Option (Tree × Bool)) (k1_e2 : Int → Int → Int → Int → Int → Int → LT → Option R) (k1_r : Bool → Int → Int → LT → Int → Int → Int → Int → LT → Option R) (rec1 : LLI → Int → Int → Int → LLM → Int → Int → Int → Int → Int → Int → LT → Option R) (s16 : LLI) (s17 : Int) (s18 : Int) (s19 : Int) (s20 : LLM) (s21 : Int) (s22 : Int) (s23 : Int) (s24 : Int) (s25 : Int) (s26 : Int) (s27 : LT) : Option R :=
  bif (decide (0 ≤ s17) && decide (s17 < (s20.length : Int))) then
    bif (decide (s19 < ((listAt s20 [] s17.toNat).length : Int))) then
      bif (decide (0 ≤ s17) && decide (s17 < (s20.length : Int))) then
        bif (decide (0 ≤ s19) && decide (s19 < ((listAt s20 [] s17.toNat).length : Int))) then
          bif ((listAt (listAt s20 [] s17.toNat) (Ty.dflt (.st 0)) s19.toNat).act != s23) then
            rec1 s16 s17 s18 (wi (s19 + (1 : Int))) s20 s21 s22 s23 s24 s25 s26 s27
          else bif (decide (0 ≤ s17) && decide (s17 < (s20.length : Int))) then
            bif (decide (0 ≤ s19) && decide (s19 < ((listAt s20 [] s17.toNat).length : Int))) then
              (self28 (Graph.mk s20) s16 s24 ((listAt (listAt s20 [] s17.toNat) (Ty.dflt (.st 0)) s19.toNat).to)).bind fun y35 =>
              bif (!y35.2) then
                k1_r false ((Tree.mk (0 : Int) (0 : Int) []).op) ((Tree.mk (0 : Int) (0 : Int) []).n) ((Tree.mk (0 : Int) (0 : Int) []).parts) s23 s24 s25 s26 s27
              else bif (decide (s18 > (0 : Int))) then
                f28.j0' L N self28 k1_e2 k1_r rec1 s16 s17 s18 s19 s20 s21 s22 s23 s24 s25 s26 s27 ((Tree.mk (2 : Int) (0 : Int) ([(Tree.mk s25 s26 s27), (Tree.mk y35.1.op y35.1.n y35.1.parts)] : LT)).op) ((Tree.mk (2 : Int) (0 : Int) ([(Tree.mk s25 s26 s27), (Tree.mk y35.1.op y35.1.n y35.1.parts)] : LT)).n) ((Tree.mk (2 : Int) (0 : Int) ([(Tree.mk s25 s26 s27), (Tree.mk y35.1.op y35.1.n y35.1.parts)] : LT)).parts)
              else f28.j0' L N self28 k1_e2 k1_r rec1 s16 s17 s18 s19 s20 s21 s22 s23 s24 s25 s26 s27 y35.1.op y35.1.n y35.1.parts
            else none
          else none
        else none
      else none
    else k1_e2 s21 s22 s23 s24 s25 s26 s27
  else none
def f28.s1 {R : Type} (L N : Nat) (self28 : Graph → LLI → Int → Int → Option (Tree × Bool)) (k1_e2 : Int → Int → Int → Int → Int → Int → LT → Option R) (k1_r : Bool → Int → Int → LT → Int → Int → Int → Int → LT → Option R) (rec1 : LLI → Int → Int → Int → LLM → Int → Int → Int → Int → Int → Int → LT → Option R) (s16 : LLI) (s17 : Int) (s18 : Int) (s19 : Int) (s20 : LLM) (s21 : Int) (s22 : Int) (s23 : Int) (s24 : Int) (s25 : Int) (s26 : Int) (s27 : LT) : Option R :=
  f28.s1' L N self28 k1_e2 k1_r rec1 s16 s17 s18 s19 s20 s21 s22 s23 s24 s25 s26 s27
def f28.l1 {R : Type} (L N : Nat) (self28 : Graph → LLI → Int → Int → Option (Tree × Bool)) (k1_e2 : Int → Int → Int → Int → Int → Int → LT → Option R) (k1_r : Bool → Int → Int → LT → Int → Int → Int → Int → LT → Option R) : Nat → LLI → Int → Int → Int → LLM → Int → Int → Int → Int → Int → Int → LT → Option R
  | 0, _, _, _, _, _, _, _, _, _, _, _, _ => none
  | n + 1, s16, s17, s18, s19, s20, s21, s22, s23, s24, s25, s26, s27 => f28.s1 L N self28 k1_e2 k1_r (f28.l1 L N self28 k1_e2 k1_r n) s16 s17 s18 s19 s20 s21 s22 s23 s24 s25 s26 s27
def f28.T1 (s16 : LLI) (s17 : Int) (s18 : Int) (s19 : Int) (s20 : LLM) (s21 : Int) (s22 : Int) (s23 : Int) (s24 : Int) (s25 : Int) (s26 : Int) (s27 : LT) : T := mkT 130 [(1, (.tv (.sl (.sl i64)) s16)), (3, (.tv i64 s17)), (4, (.ptr 1004 0)), (8, (.ptr 1008 0)), (12, (.ptr 1012 0)), (13, (.ptr 1013 0)), (14, (.tv i64 s18)), (15, (.tv i64 s19))]
def f28.H1 (s16 : LLI) (s17 : Int) (s18 : Int) (s19 : Int) (s20 : LLM) (s21 : Int) (s22 : Int) (s23 : Int) (s24 : Int) (s25 : Int) (s26 : Int) (s27 : LT) : H := [(1004, (.box [(.tv (.sl (.sl (.st 0))) s20)])), (1008, (.box [(.tv i64 s21), (.tv i64 s22), .nil])), (1012, (.box [(.tv i64 s23), (.tv i64 s24)])), (1013, (.box [(.tv i64 s25), (.tv i64 s26), (.tv (.sl (.st 1)) s27)]))]
def f28.T1_e2 (z28 : Int) (z29 : Int) (z30 : Int) (z31 : Int) (z32 : Int) (z33 : Int) (z34 : LT) : T := mkT 130 [(8, (.ptr 1008 0)), (12, (.ptr 1012 0)), (13, (.ptr 1013 0))]
def f28.H1_e2 (z28 : Int) (z29 : Int) (z30 : Int) (z31 : Int) (z32 : Int) (z33 : Int) (z34 : LT) : H := [(1008, (.box [(.tv i64 z28), (.tv i64 z29), .nil])), (1012, (.box [(.tv i64 z30), (.tv i64 z31)])), (1013, (.box [(.tv i64 z32), (.tv i64 z33), (.tv (.sl (.st 1)) z34)]))]
def f28.T1_r (z36 : Bool) (z37 : Int) (z38 : Int) (z39 : LT) (z40 : Int) (z41 : Int) (z42 : Int) (z43 : Int) (z44 : LT) : T := mkT 130 [(8, (.ptr 1008 0)), (9, (.tv .bool z36)), (12, (.ptr 1012 0)), (13, (.ptr 1013 0))]
def f28.H1_r (z36 : Bool) (z37 : Int) (z38 : Int) (z39 : LT) (z40 : Int) (z41 : Int) (z42 : Int) (z43 : Int) (z44 : LT) : H := [(1008, (.box [(.tv i64 z37), (.tv i64 z38), (.tv (.sl (.st 1)) z39)])), (1012, (.box [(.tv i64 z40), (.tv i64 z41)])), (1013, (.box [(.tv i64 z42), (.tv i64 z43), (.tv (.sl (.st 1)) z44)]))]
def f28.p1_e2' {R : Type} (L N : Nat) (self28 : Graph → LLI → Int → Int → Option (Tree × Bool)) (k0_e0 : LLI → Int → Int → LLM → Int → Int → Option R) (k0_r : Bool → Int → Int → LT → Option R) (rec0 : LLI → Int → Int → LI → Int → LLM → Int → Int → Option R) (z28 : Int) (z29 : Int) (z30 : Int) (z31 : Int) (z32 : Int) (z33 : Int) (z34 : LT) : Option R :=
  k0_r true ((Tree.mk (3 : Int) z30 ([(Tree.mk z32 z33 z34)] : LT)).op) ((Tree.mk (3 : Int) z30 ([(Tree.mk z32 z33 z34)] : LT)).n) ((Tree.mk (3 : Int) z30 ([(Tree.mk z32 z33 z34)] : LT)).parts)
def f28.p1_e2 {R : Type} (L N : Nat) (self28 : Graph → LLI → Int → Int → Option (Tree × Bool)) (k0_e0 : LLI → Int → Int → LLM → Int → Int → Option R) (k0_r : Bool → Int → Int → LT → Option R) (rec0 : LLI → Int → Int → LI → Int → LLM → Int → Int → Option R) (z28 : Int) (z29 : Int) (z30 : Int) (z31 : Int) (z32 : Int) (z33 : Int) (z34 : LT) : Option R :=
  f28.p1_e2' L N self28 k0_e0 k0_r rec0 z28 z29 z30 z31 z32 z33 z34
def f28.p1_r' {R : Type} (L N : Nat) (self28 : Graph → LLI → Int → Int → Option (Tree × Bool)) (k0_e0 : LLI → Int → Int → LLM → Int → Int → Option R) (k0_r : Bool → Int → Int → LT → Option R) (rec0 : LLI → Int → Int → LI → Int → LLM → Int → Int → Option R) (z36 : Bool) (z37 : Int) (z38 : Int) (z39 : LT) (z40 : Int) (z41 : Int) (z42 : Int) (z43 : Int) (z44 : LT) : Option R :=
  k0_r z36 z37 z38 z39
def f28.p1_r {R : Type} (L N : Nat) (self28 : Graph → LLI → Int → Int → Option (Tree × Bool)) (k0_e0 : LLI → Int → Int → LLM → Int → Int → Option R) (k0_r : Bool → Int → Int → LT → Option R) (rec0 : LLI → Int → Int → LI → Int → LLM → Int → Int → Option R) (z36 : Bool) (z37 : Int) (z38 : Int) (z39 : LT) (z40 : Int) (z41 : Int) (z42 : Int) (z43 : Int) (z44 : LT) : Option R :=
  f28.p1_r' L N self28 k0_e0 k0_r rec0 z36 z37 z38 z39 z40 z41 z42 z43 z44
def f28.s0' {R : Type} (L N : Nat) (self28 : Graph → LLI → Int → Int → Option (Tree × Bool)) (k0_e0 : LLI → Int → Int → LLM → Int → Int → Option R) (k0_r : Bool → Int → Int → LT → Option R) (rec0 : LLI → Int → Int → LI → Int → LLM → Int → Int → Option R) (w1 : LLI → Int → Int → Int → LLM → Int → Int → Int → Int → Int → Int → LT → Option R) (s1 : LLI) (s2 : Int) (s3 : Int) (s4 : LI) (s5 : Int) (s6 : LLM) (s7 : Int) (s8 : Int) : Option R :=
  bif (decide (0 ≤ s2) && decide (s2 < (s6.length : Int))) then
    bif (decide (s5 < ((listAt s6 [] s2.toNat).length : Int))) then
      bif (decide (0 ≤ s2) && decide (s2 < (s6.length : Int))) then
        bif (decide (0 ≤ s5) && decide (s5 < ((listAt s6 [] s2.toNat).length : Int))) then
          bif (decide (0 ≤ (listAt (listAt s6 [] s2.toNat) (Ty.dflt (.st 0)) s5.toNat).to) && decide ((listAt (listAt s6 [] s2.toNat) (Ty.dflt (.st 0)) s5.toNat).to < (s4.length : Int))) then
            (f52 L N (Graph.mk s6) s3 ((listAt (listAt s6 [] s2.toNat) (Ty.dflt (.st 0)) s5.toNat).act) s4 (listAt s4 (0 : Int) ((listAt (listAt s6 [] s2.toNat) (Ty.dflt (.st 0)) s5.toNat).to).toNat)).bind fun y15 =>
            bif y15 then
              rec0 s1 s2 s3 s4 (wi (s5 + (1 : Int))) s6 s7 s8
            else w1 s1 s3 (0 : Int) (0 : Int) s6 s7 s8 ((listAt (listAt s6 [] s2.toNat) (Ty.dflt (.st 0)) s5.toNat).act) ((listAt (listAt s6 [] s2.toNat) (Ty.dflt (.st 0)) s5.toNat).to) ((Tree.mk (0 : Int) (0 : Int) []).op) ((Tree.mk (0 : Int) (0 : Int) []).n) ((Tree.mk (0 : Int) (0 : Int) []).parts)
          else none
        else none
      else none
    else k0_e0 s1 s2 s3 s6 s7 s8
  else none
def f28.s0 {R : Type} (L N : Nat) (self28 : Graph → LLI → Int → Int → Option (Tree × Bool)) (k0_e0 : LLI → Int → Int → LLM → Int → Int → Option R) (k0_r : Bool → Int → Int → LT → Option R) (rec0 : LLI → Int → Int → LI → Int → LLM → Int → Int → Option R) (s1 : LLI) (s2 : Int) (s3 : Int) (s4 : LI) (s5 : Int) (s6 : LLM) (s7 : Int) (s8 : Int) : Option R :=
  f28.s0' L N self28 k0_e0 k0_r rec0 (fun s16 s17 s18 s19 s20 s21 s22 s23 s24 s25 s26 s27 => f28.l1 L N self28 (fun z28 z29 z30 z31 z32 z33 z34 => f28.p1_e2 L N self28 k0_e0 k0_r rec0 z28 z29 z30 z31 z32 z33 z34) (fun z36 z37 z38 z39 z40 z41 z42 z43 z44 => f28.p1_r L N self28 k0_e0 k0_r rec0 z36 z37 z38 z39 z40 z41 z42 z43 z44) L s16 s17 s18 s19 s20 s21 s22 s23 s24 s25 s26 s27) s1 s2 s3 s4 s5 s6 s7 s8
def f28.l0 {R : Type} (L N : Nat) (self28 : Graph → LLI → Int → Int → Option (Tree × Bool)) (k0_e0 : LLI → Int → Int → LLM → Int → Int → Option R) (k0_r : Bool → Int → Int → LT → Option R) : Nat → LLI → Int → Int → LI → Int → LLM → Int → Int → Option R
  | 0, _, _, _, _, _, _, _, _ => none
  | n + 1, s1, s2, s3, s4, s5, s6, s7, s8 => f28.s0 L N self28 k0_e0 k0_r (f28.l0 L N self28 k0_e0 k0_r n) s1 s2 s3 s4 s5 s6 s7 s8
def f28.T0 (s1 : LLI) (s2 : Int) (s3 : Int) (s4 : LI) (s5 : Int) (s6 : LLM) (s7 : Int) (s8 : Int) : T := mkT 130 [(1, (.tv (.sl (.sl i64)) s1)), (2, (.tv i64 s2)), (3, (.tv i64 s3)), (4, (.ptr 1004 0)), (8, (.ptr 1008 0)), (10, (.tv (.sl i64) s4)), (11, (.tv i64 s5))]
def f28.H0 (s1 : LLI) (s2 : Int) (s3 : Int) (s4 : LI) (s5 : Int) (s6 : LLM) (s7 : Int) (s8 : Int) : H := [(1004, (.box [(.tv (.sl (.sl (.st 0))) s6)])), (1008, (.box [(.tv i64 s7), (.tv i64 s8), .nil]))]
def f28.T0_e0 (z9 : LLI) (z10 : Int) (z11 : Int) (z12 : LLM) (z13 : Int) (z14 : Int) : T := mkT 130 [(1, (.tv (.sl (.sl i64)) z9)), (2, (.tv i64 z10)), (3, (.tv i64 z11)), (4, (.ptr 1004 0)), (8, (.ptr 1008 0))]
def f28.H0_e0 (z9 : LLI) (z10 : Int) (z11 : Int) (z12 : LLM) (z13 : Int) (z14 : Int) : H := [(1004, (.box [(.tv (.sl (.sl (.st 0))) z12)])), (1008, (.box [(.tv i64 z13), (.tv i64 z14), .nil]))]
def f28.T0_r (z73 : Bool) (z74 : Int) (z75 : Int) (z76 : LT) : T := mkT 130 [(8, (.ptr 1008 0)), (9, (.tv .bool z73))]
def f28.H0_r (z73 : Bool) (z74 : Int) (z75 : Int) (z76 : LT) : H := [(1008, (.box [(.tv i64 z74), (.tv i64 z75), (.tv (.sl (.st 1)) z76)]))]
def f28.p0_e0' {R : Type} (L N : Nat) (self28 : Graph → LLI → Int → Int → Option (Tree × Bool)) (k : Tree → Bool → Option R) (z9 : LLI) (z10 : Int) (z11 : Int) (z12 : LLM) (z13 : Int) (z14 : Int) : Option R :=
  (self28 (Graph.mk z12) z9 z11 z10).bind fun y77 =>
  k (Tree.mk ((Tree.mk (1 : Int) (0 : Int) ([(Tree.mk y77.1.op y77.1.n y77.1.parts)] : LT)).op) ((Tree.mk (1 : Int) (0 : Int) ([(Tree.mk y77.1.op y77.1.n y77.1.parts)] : LT)).n) ((Tree.mk (1 : Int) (0 : Int) ([(Tree.mk y77.1.op y77.1.n y77.1.parts)] : LT)).parts)) y77.2
def f28.p0_e0 {R : Type} (L N : Nat) (self28 : Graph → LLI → Int → Int → Option (Tree × Bool)) (k : Tree → Bool → Option R) (z9 : LLI) (z10 : Int) (z11 : Int) (z12 : LLM) (z13 : Int) (z14 : Int) : Option R :=
  f28.p0_e0' L N self28 k z9 z10 z11 z12 z13 z14
def f28.p0_r' {R : Type} (L N : Nat) (self28 : Graph → LLI → Int → Int → Option (Tree × Bool)) (k : Tree → Bool → Option R) (z73 : Bool) (z74 : Int) (z75 : Int) (z76 : LT) : Option R :=
  k (Tree.mk z74 z75 z76) z73
def f28.p0_r {R : Type} (L N : Nat) (self28 : Graph → LLI → Int → Int → Option (Tree × Bool)) (k : Tree → Bool → Option R) (z73 : Bool) (z74 : Int) (z75 : Int) (z76 : LT) : Option R :=
  f28.p0_r' L N self28 k z73 z74 z75 z76
def f28.b' {R : Type} (L N : Nat) (self28 : Graph → LLI → Int → Int → Option (Tree × Bool)) (k : Tree → Bool → Option R) (w0 : LLI → Int → Int → LI → Int → LLM → Int → Int → Option R) (x0 : Graph) (x1 : LLI) (x2 : Int) (x3 : Int) : Option R :=
  (f27 L N x1 x2 x3).bind fun y0 =>
  bif (decide (0 ≤ (wi (y0 - (1 : Int)))) && decide ((wi (y0 - (1 : Int))) < (x1.length : Int))) then
    w0 x1 x2 x3 (listAt x1 [] (wi (y0 - (1 : Int))).toNat) (0 : Int) x0.moves (0 : Int) (0 : Int)
  else none
def f28.b {R : Type} (L N : Nat) (self28 : Graph → LLI → Int → Int → Option (Tree × Bool)) (k : Tree → Bool → Option R) (x0 : Graph) (x1 : LLI) (x2 : Int) (x3 : Int) : Option R :=
  f28.b' L N self28 k (fun s1 s2 s3 s4 s5 s6 s7 s8 => f28.l0 L N self28 (fun z9 z10 z11 z12 z13 z14 => f28.p0_e0 L N self28 k z9 z10 z11 z12 z13 z14) (fun z73 z74 z75 z76 => f28.p0_r L N self28 k z73 z74 z75 z76) L s1 s2 s3 s4 s5 s6 s7 s8) x0 x1 x2 x3
def f28 (L N : Nat) : Nat → Graph → LLI → Int → Int → Option (Tree × Bool)
  | 0, _, _, _, _ => none
  | n + 1, x0, x1, x2, x3 => f28.b L N (f28 L N n) (fun a0 a1 => some (a0, a1)) x0 x1 x2 x3
def f28.ent (L N m : Nat) := entDa [(.st 2), (.sl (.sl i64)), i64, i64] (.many [(.st 1), .bool]) fun d => f28 L N m d.1 d.2.1 d.2.2.1 d.2.2.2.1
def Φ28s (L N m : Nat) : Tells := (addT (Φ53 L N) 28 (f28.ent L N m))
noncomputable def E28 (L N m : Nat) : Env := { P := Try.prog, ty := tyOf, Φ := Φ28s L N m, inl := inlT, live := lives, liveX := livesX, L := L, dp := none, prom := promT, heal := healT, ren := renT, zd := true }
noncomputable def f28.c0 : Code := loopAt 0 (codeOf Try.f28)
noncomputable def f28.c1 : Code := loopAt 2 f28.c0
def f28.X1_e2 {R : Type} (κ : KX R) := fun z28 z29 z30 z31 z32 z33 z34 => κ (.exit 2) (f28.T1_e2 z28 z29 z30 z31 z32 z33 z34) (f28.H1_e2 z28 z29 z30 z31 z32 z33 z34)
def f28.X1_r {R : Type} (κ : KX R) := fun z36 z37 z38 z39 z40 z41 z42 z43 z44 => κ .ret (f28.T1_r z36 z37 z38 z39 z40 z41 z42 z43 z44) (f28.H1_r z36 z37 z38 z39 z40 z41 z42 z43 z44)
def f28.R1 {R : Type} (rec : KT R) := fun s16 s17 s18 s19 s20 s21 s22 s23 s24 s25 s26 s27 => rec (f28.T1 s16 s17 s18 s19 s20 s21 s22 s23 s24 s25 s26 s27) (f28.H1 s16 s17 s18 s19 s20 s21 s22 s23 s24 s25 s26 s27)
theorem f28.s1_eq {R : Type} (L N m : Nat) (κ : KX R) (rec : KT R) (s16 : LLI) (s17 : Int) (s18 : Int) (s19 : Int) (s20 : LLM) (s21 : Int) (s22 : Int) (s23 : Int) (s24 : Int) (s25 : Int) (s26 : Int) (s27 : LT) :
    evRd (E28 L N m) (evCallI (E28 L N m) 1 2000) 1000 28 130 2 f28.c1 κ rec (f28.T1 s16 s17 s18 s19 s20 s21 s22 s23 s24 s25 s26 s27) (f28.H1 s16 s17 s18 s19 s20 s21 s22 s23 s24 s25 s26 s27)
    = f28.s1 L N (f28 L N m) (f28.X1_e2 κ) (f28.X1_r κ) (f28.R1 rec) s16 s17 s18 s19 s20 s21 s22 s23 s24 s25 s26 s27 := by kernel_rfl
theorem f28.l1_eq {R : Type} (L N m : Nat) (κ : KX R) : ∀ (n : Nat) (s16 : LLI) (s17 : Int) (s18 : Int) (s19 : Int) (s20 : LLM) (s21 : Int) (s22 : Int) (s23 : Int) (s24 : Int) (s25 : Int) (s26 : Int) (s27 : LT),
    evLp (E28 L N m) (evCallI (E28 L N m) 1 2000) 1000 28 130 2 f28.c1 κ n (f28.T1 s16 s17 s18 s19 s20 s21 s22 s23 s24 s25 s26 s27) (f28.H1 s16 s17 s18 s19 s20 s21 s22 s23 s24 s25 s26 s27)
    = f28.l1 L N (f28 L N m) (f28.X1_e2 κ) (f28.X1_r κ) n s16 s17 s18 s19 s20 s21 s22 s23 s24 s25 s26 s27 := by
  intro n
  induction n with
  | zero => intros; rfl
  | succ n ih =>
    intro s16 s17 s18 s19 s20 s21 s22 s23 s24 s25 s26 s27
    rw [evLp_succ, f28.s1_eq]
    delta f28.R1
    simp only [ih]
    rfl
def f28.X0_e0 {R : Type} (κ : KX R) := fun z9 z10 z11 z12 z13 z14 => κ (.exit 0) (f28.T0_e0 z9 z10 z11 z12 z13 z14) (f28.H0_e0 z9 z10 z11 z12 z13 z14)
def f28.X0_r {R : Type} (κ : KX R) := fun z73 z74 z75 z76 => κ .ret (f28.T0_r z73 z74 z75 z76) (f28.H0_r z73 z74 z75 z76)
def f28.R0 {R : Type} (rec : KT R) := fun s1 s2 s3 s4 s5 s6 s7 s8 => rec (f28.T0 s1 s2 s3 s4 s5 s6 s7 s8) (f28.H0 s1 s2 s3 s4 s5 s6 s7 s8)
theorem f28.p1_e2_eq {R : Type} (L N m : Nat) (κ : KX R) (rec : KT R) (z28 : Int) (z29 : Int) (z30 : Int) (z31 : Int) (z32 : Int) (z33 : Int) (z34 : LT) :
    (contAt (E28 L N m) (evCallI (E28 L N m) 1 2000) 1000 28 130 2 f28.c0 (rdK (E28 L N m) 1000 28 130 0 κ rec)) (.exit 2) (f28.T1_e2 z28 z29 z30 z31 z32 z33 z34) (f28.H1_e2 z28 z29 z30 z31 z32 z33 z34)
    = f28.p1_e2 L N (f28 L N m) (f28.X0_e0 κ) (f28.X0_r κ) (f28.R0 rec) z28 z29 z30 z31 z32 z33 z34 := by kernel_rfl
theorem f28.p1_r_eq {R : Type} (L N m : Nat) (κ : KX R) (rec : KT R) (z36 : Bool) (z37 : Int) (z38 : Int) (z39 : LT) (z40 : Int) (z41 : Int) (z42 : Int) (z43 : Int) (z44 : LT) :
    (contAt (E28 L N m) (evCallI (E28 L N m) 1 2000) 1000 28 130 2 f28.c0 (rdK (E28 L N m) 1000 28 130 0 κ rec)) .ret (f28.T1_r z36 z37 z38 z39 z40 z41 z42 z43 z44) (f28.H1_r z36 z37 z38 z39 z40 z41 z42 z43 z44)
    = f28.p1_r L N (f28 L N m) (f28.X0_e0 κ) (f28.X0_r κ) (f28.R0 rec) z36 z37 z38 z39 z40 z41 z42 z43 z44 := by kernel_rfl
theorem f28.s0_eq {R : Type} (L N m : Nat) (κ : KX R) (rec : KT R) (s1 : LLI) (s2 : Int) (s3 : Int) (s4 : LI) (s5 : Int) (s6 : LLM) (s7 : Int) (s8 : Int) :
    evRd (E28 L N m) (evCallI (E28 L N m) 1 2000) 1000 28 130 0 f28.c0 κ rec (f28.T0 s1 s2 s3 s4 s5 s6 s7 s8) (f28.H0 s1 s2 s3 s4 s5 s6 s7 s8)
    = f28.s0 L N (f28 L N m) (f28.X0_e0 κ) (f28.X0_r κ) (f28.R0 rec) s1 s2 s3 s4 s5 s6 s7 s8 := by
  refine Eq.trans (b := f28.s0' L N (f28 L N m) (f28.X0_e0 κ) (f28.X0_r κ) (f28.R0 rec) (fun s16 s17 s18 s19 s20 s21 s22 s23 s24 s25 s26 s27 => evLp (E28 L N m) (evCallI (E28 L N m) 1 2000) 1000 28 130 2 f28.c1 (contAt (E28 L N m) (evCallI (E28 L N m) 1 2000) 1000 28 130 2 f28.c0 (rdK (E28 L N m) 1000 28 130 0 κ rec)) L (f28.T1 s16 s17 s18 s19 s20 s21 s22 s23 s24 s25 s26 s27) (f28.H1 s16 s17 s18 s19 s20 s21 s22 s23 s24 s25 s26 s27)) s1 s2 s3 s4 s5 s6 s7 s8) (by kernel_rfl) ?_
  unfold f28.s0
  simp only [f28.l1_eq]
  delta f28.X1_e2 f28.X1_r
  simp only [f28.p1_e2_eq, f28.p1_r_eq]
theorem f28.l0_eq {R : Type} (L N m : Nat) (κ : KX R) : ∀ (n : Nat) (s1 : LLI) (s2 : Int) (s3 : Int) (s4 : LI) (s5 : Int) (s6 : LLM) (s7 : Int) (s8 : Int),
    evLp (E28 L N m) (evCallI (E28 L N m) 1 2000) 1000 28 130 0 f28.c0 κ n (f28.T0 s1 s2 s3 s4 s5 s6 s7 s8) (f28.H0 s1 s2 s3 s4 s5 s6 s7 s8)
    = f28.l0 L N (f28 L N m) (f28.X0_e0 κ) (f28.X0_r κ) n s1 s2 s3 s4 s5 s6 s7 s8 := by
  intro n
  induction n with
  | zero => intros; rfl
  | succ n ih =>
    intro s1 s2 s3 s4 s5 s6 s7 s8
    rw [evLp_succ, f28.s0_eq]
    delta f28.R0
    simp only [ih]
    rfl
theorem f28.p0_e0_eq {R : Type} (L N m : Nat) (κ : AV → Option R) (z9 : LLI) (z10 : Int) (z11 : Int) (z12 : LLM) (z13 : Int) (z14 : Int) :
    (contAt (E28 L N m) (evCallI (E28 L N m) 1 2000) 1000 28 130 0 (codeOf Try.f28) (finK (E28 L N m) 1000 Try.f28 (finC (.many [(.st 1), .bool]) κ))) (.exit 0) (f28.T0_e0 z9 z10 z11 z12 z13 z14) (f28.H0_e0 z9 z10 z11 z12 z13 z14)
    = f28.p0_e0 L N (f28 L N m) (fun a0 a1 => κ (.tup [(.tv (.st 1) a0), (.tv .bool a1)])) z9 z10 z11 z12 z13 z14 := by kernel_rfl
theorem f28.p0_r_eq {R : Type} (L N m : Nat) (κ : AV → Option R) (z73 : Bool) (z74 : Int) (z75 : Int) (z76 : LT) :
    (contAt (E28 L N m) (evCallI (E28 L N m) 1 2000) 1000 28 130 0 (codeOf Try.f28) (finK (E28 L N m) 1000 Try.f28 (finC (.many [(.st 1), .bool]) κ))) .ret (f28.T0_r z73 z74 z75 z76) (f28.H0_r z73 z74 z75 z76)
    = f28.p0_r L N (f28 L N m) (fun a0 a1 => κ (.tup [(.tv (.st 1) a0), (.tv .bool a1)])) z73 z74 z75 z76 := by kernel_rfl
theorem f28.b_eq {R : Type} (L N m : Nat) (κ : AV → Option R) (x0 : Graph) (x1 : LLI) (x2 : Int) (x3 : Int) :
    evBody (E28 L N m) (evCallI (E28 L N m) 1 2000) 1000 28 Try.f28 [(.tv (.st 2) x0), (.tv (.sl (.sl i64)) x1), (.tv i64 x2), (.tv i64 x3)] [] [] (finC (.many [(.st 1), .bool]) κ)
    = f28.b L N (f28 L N m) (fun a0 a1 => κ (.tup [(.tv (.st 1) a0), (.tv .bool a1)])) x0 x1 x2 x3 := by
  refine Eq.trans (b := f28.b' L N (f28 L N m) (fun a0 a1 => κ (.tup [(.tv (.st 1) a0), (.tv .bool a1)])) (fun s1 s2 s3 s4 s5 s6 s7 s8 => evLp (E28 L N m) (evCallI (E28 L N m) 1 2000) 1000 28 130 0 f28.c0 (contAt (E28 L N m) (evCallI (E28 L N m) 1 2000) 1000 28 130 0 (codeOf Try.f28) (finK (E28 L N m) 1000 Try.f28 (finC (.many [(.st 1), .bool]) κ))) L (f28.T0 s1 s2 s3 s4 s5 s6 s7 s8) (f28.H0 s1 s2 s3 s4 s5 s6 s7 s8)) x0 x1 x2 x3) (by kernel_rfl) ?_
  unfold f28.b
  simp only [f28.l0_eq]
  delta f28.X0_e0 f28.X0_r
  simp only [f28.p0_e0_eq, f28.p0_r_eq]
theorem f28.ok (L N m : Nat) (hΦ : TellsOk Try.prog (Φ28s L N m)) : EntOk Try.prog 28 (f28.ent L N (m + 1)) := entDa_ok (E := (E28 L N m)) (dep := 1000) (f := Try.f28) (sound_of hΦ) okP (callI_sound (sound_of hΦ) okP 1 2000) rfl fun d _ hy => (f28.b_eq L N m (unR (.many [(.st 1), .bool])) d.1 d.2.1 d.2.2.1 d.2.2.2.1).trans (Eq.trans (b := f28.b L N (f28 L N m) (fun a0 a1 => some (a0, a1)) d.1 d.2.1 d.2.2.1 d.2.2.2.1) (by kernel_rfl) hy)
theorem Φ28s_ok (L N : Nat) : ∀ m, TellsOk Try.prog (Φ28s L N m) := by
  intro m
  induction m with
  | zero => exact (addT_ok (Φ53_ok L N) (entDa_no fun _ => rfl))
  | succ m ih => exact (addT_ok (Φ53_ok L N) (f28.ok L N m ih))
def Φ28 (L N : Nat) : Tells := (addT (Φ53 L N) 28 (f28.ent L N N))
theorem Φ28_ok (L N : Nat) : TellsOk Try.prog (Φ28 L N) := Φ28s_ok L N N
def f29.b' {R : Type} (L N : Nat) (k : Bool → Option R) (x0 : Tree) : Option R :=
  (f53 L N N (Tree.mk x0.op x0.n x0.parts)).bind fun y0 =>
  (f25 L N y0 (1 : Int) (60 : Int)).bind fun y1 =>
  k y1
def f29.b {R : Type} (L N : Nat) (k : Bool → Option R) (x0 : Tree) : Option R :=
  f29.b' L N k x0
def f29 (L N : Nat) (x0 : Tree) : Option (Bool) := f29.b L N some x0
def f29.ent (L N : Nat) := entRo [(.st 1)] (.one .bool) fun d => f29 L N d.1
noncomputable def E29 (L N : Nat) : Env := { P := Try.prog, ty := tyOf, Φ := (Φ28 L N), inl := inlT, live := lives, liveX := livesX, L := L, dp := none, prom := promT, heal := healT, ren := renT }
theorem f29.b_eq {R : Type} (L N : Nat) (κ : AV → Option R) (x0 : Tree) :
    evBody (E29 L N) (evCallI (E29 L N) 1 2000) 1000 29 Try.f29 [(.tv (.st 1) x0)] [] [] (finC (.one .bool) κ)
    = f29.b L N (fun a0 => κ (.tv .bool a0)) x0 := by kernel_rfl
theorem f29.ok (L N : Nat) (hΦ : TellsOk Try.prog ((Φ28 L N))) : EntOk Try.prog 29 (f29.ent L N) := entRo_ok (E := (E29 L N)) (dep := 1000) (f := Try.f29) (sound_of hΦ) okP (callI_sound (sound_of hΦ) okP 1 2000) rfl rfl fun d _ hy => (f29.b_eq L N (unR (.one .bool)) d.1).trans (Eq.trans (b := f29.b L N some d.1) (by kernel_rfl) hy)
def Φ29 (L N : Nat) : Tells := (addT (Φ28 L N) 29 (f29.ent L N))
theorem Φ29_ok (L N : Nat) : TellsOk Try.prog (Φ29 L N) := addT_ok (Φ28_ok L N) (f29.ok L N (Φ28_ok L N))
def f7.j0' {R : Type} (L N : Nat) (k : Tree → Bool → Option R) (v9 : Int) (v10 : Int) (v11 : LLM) (v12 : Int) (v13 : Int) : Option R :=
  (f26 L N (Graph.mk v11)).bind fun y14 =>
  (f27 L N y14 v9 v10).bind fun y15 =>
  bif (decide (y15 < (0 : Int))) then
    k (Tree.mk (0 : Int) (0 : Int) []) false
  else (f28 L N N (Graph.mk v11) y14 v9 v10).bind fun y16 =>
  bif (!y16.2) then
    k (Tree.mk (0 : Int) (0 : Int) []) false
  else (f29 L N (Tree.mk y16.1.op y16.1.n y16.1.parts)).bind fun y17 =>
  bif (!y17) then
    k (Tree.mk (0 : Int) (0 : Int) []) false
  else k (Tree.mk ((Tree.mk y16.1.op y16.1.n y16.1.parts).op) ((Tree.mk y16.1.op y16.1.n y16.1.parts).n) ((Tree.mk y16.1.op y16.1.n y16.1.parts).parts)) true
def f7.b' {R : Type} (L N : Nat) (k : Tree → Bool → Option R) (x0 : Graph) (x1 : Int) (x2 : Int) : Option R :=
  (f24 L N (Graph.mk x0.moves)).bind fun y0 =>
  bif (!y0) then
    k (Tree.mk (0 : Int) (0 : Int) []) false
  else (f25 L N x1 (0 : Int) (wi ((x0.moves.length : Int) - (1 : Int)))).bind fun y1 =>
  bif (!y1) then
    k (Tree.mk (0 : Int) (0 : Int) []) false
  else (f25 L N x2 (0 : Int) (wi ((x0.moves.length : Int) - (1 : Int)))).bind fun y2 =>
  bif (!y2) then
    k (Tree.mk (0 : Int) (0 : Int) []) false
  else f7.j0' L N k x1 x2 x0.moves (0 : Int) (0 : Int)
def f7.b {R : Type} (L N : Nat) (k : Tree → Bool → Option R) (x0 : Graph) (x1 : Int) (x2 : Int) : Option R :=
  f7.b' L N k x0 x1 x2
def f7 (L N : Nat) (x0 : Graph) (x1 : Int) (x2 : Int) : Option (Tree × Bool) := f7.b L N (fun a0 a1 => some (a0, a1)) x0 x1 x2
def f7.ent (L N : Nat) := entDa [(.st 2), i64, i64] (.many [(.st 1), .bool]) fun d => f7 L N d.1 d.2.1 d.2.2.1
noncomputable def E7 (L N : Nat) : Env := { P := Try.prog, ty := tyOf, Φ := (Φ29 L N), inl := inlT, live := lives, liveX := livesX, L := L, dp := none, prom := promT, heal := healT, ren := renT }
theorem f7.b_eq {R : Type} (L N : Nat) (κ : AV → Option R) (x0 : Graph) (x1 : Int) (x2 : Int) :
    evBody (E7 L N) (evCallI (E7 L N) 1 2000) 1000 7 Try.f7 [(.tv (.st 2) x0), (.tv i64 x1), (.tv i64 x2)] [] [] (finC (.many [(.st 1), .bool]) κ)
    = f7.b L N (fun a0 a1 => κ (.tup [(.tv (.st 1) a0), (.tv .bool a1)])) x0 x1 x2 := by kernel_rfl
theorem f7.ok (L N : Nat) (hΦ : TellsOk Try.prog ((Φ29 L N))) : EntOk Try.prog 7 (f7.ent L N) := entDa_ok (E := (E7 L N)) (dep := 1000) (f := Try.f7) (sound_of hΦ) okP (callI_sound (sound_of hΦ) okP 1 2000) rfl fun d _ hy => (f7.b_eq L N (unR (.many [(.st 1), .bool])) d.1 d.2.1 d.2.2.1).trans (Eq.trans (b := f7.b L N (fun a0 a1 => some (a0, a1)) d.1 d.2.1 d.2.2.1) (by kernel_rfl) hy)
def Φ7 (L N : Nat) : Tells := (addT (Φ29 L N) 7 (f7.ent L N))
theorem Φ7_ok (L N : Nat) : TellsOk Try.prog (Φ7 L N) := addT_ok (Φ29_ok L N) (f7.ok L N (Φ29_ok L N))
def f68.b' {R : Type} (L N : Nat) (k : Move → Option R) (x0 : Move) : Option R :=
  k (Move.mk ((Move.mk x0.act x0.to).act) ((Move.mk x0.act x0.to).to))
def f68.b {R : Type} (L N : Nat) (k : Move → Option R) (x0 : Move) : Option R :=
  f68.b' L N k x0
def f68 (L N : Nat) (x0 : Move) : Option (Move) := f68.b L N some x0
def f68.ent (L N : Nat) := entDa [(.st 0)] (.one (.st 0)) fun d => f68 L N d.1
noncomputable def E68 (L N : Nat) : Env := { P := Try.prog, ty := tyOf, Φ := (Φ7 L N), inl := inlT, live := lives, liveX := livesX, L := L, dp := none, prom := promT, heal := healT, ren := renT }
theorem f68.b_eq {R : Type} (L N : Nat) (κ : AV → Option R) (x0 : Move) :
    evBody (E68 L N) (evCallI (E68 L N) 1 2000) 1000 68 Try.f68 [(.tv (.st 0) x0)] [] [] (finC (.one (.st 0)) κ)
    = f68.b L N (fun a0 => κ (.tv (.st 0) a0)) x0 := by kernel_rfl
theorem f68.ok (L N : Nat) (hΦ : TellsOk Try.prog ((Φ7 L N))) : EntOk Try.prog 68 (f68.ent L N) := entDa_ok (E := (E68 L N)) (dep := 1000) (f := Try.f68) (sound_of hΦ) okP (callI_sound (sound_of hΦ) okP 1 2000) rfl fun d _ hy => (f68.b_eq L N (unR (.one (.st 0))) d.1).trans (Eq.trans (b := f68.b L N some d.1) (by kernel_rfl) hy)
def Φ68 (L N : Nat) : Tells := (addT (Φ7 L N) 68 (f68.ent L N))
theorem Φ68_ok (L N : Nat) : TellsOk Try.prog (Φ68 L N) := addT_ok (Φ7_ok L N) (f68.ok L N (Φ7_ok L N))
def f54.s0' {R : Type} (L N : Nat) (k0_e0 : LM → Option R) (rec0 : LM → Int → LM → Option R) (s0 : LM) (s1 : Int) (s2 : LM) : Option R :=
  bif (decide (s1 < (s0.length : Int))) then
    bif (decide (0 ≤ s1) && decide (s1 < (s0.length : Int))) then
      (f68 L N (listAt s0 (Ty.dflt (.st 0)) s1.toNat)).bind fun y4 =>
      bif (decide (0 ≤ s1) && decide (s1 < (s2.length : Int))) then
        rec0 s0 (wi (s1 + (1 : Int))) (s2.set s1.toNat y4)
      else none
    else none
  else k0_e0 s2
def f54.s0 {R : Type} (L N : Nat) (k0_e0 : LM → Option R) (rec0 : LM → Int → LM → Option R) (s0 : LM) (s1 : Int) (s2 : LM) : Option R :=
  f54.s0' L N k0_e0 rec0 s0 s1 s2
def f54.l0 {R : Type} (L N : Nat) (k0_e0 : LM → Option R) : Nat → LM → Int → LM → Option R
  | 0, _, _, _ => none
  | n + 1, s0, s1, s2 => f54.s0 L N k0_e0 (f54.l0 L N k0_e0 n) s0 s1 s2
def f54.T0 (s0 : LM) (s1 : Int) (s2 : LM) : T := mkT 23 [(0, (.tv (.sl (.st 0)) s0)), (3, (.row 1007)), (4, (.tv i64 s1))]
def f54.H0 (s0 : LM) (s1 : Int) (s2 : LM) : H := [(1007, (.row 72 (.st 0) s2))]
def f54.T0_e0 (z3 : LM) : T := mkT 23 [(3, (.row 1007))]
def f54.H0_e0 (z3 : LM) : H := [(1007, (.row 72 (.st 0) z3))]
def f54.p0_e0' {R : Type} (L N : Nat) (k : LM → Option R) (z3 : LM) : Option R :=
  k z3
def f54.p0_e0 {R : Type} (L N : Nat) (k : LM → Option R) (z3 : LM) : Option R :=
  f54.p0_e0' L N k z3
def f54.b' {R : Type} (L N : Nat) (k : LM → Option R) (w0 : LM → Int → LM → Option R) (x0 : LM) : Option R :=
  bif (decide (0 ≤ (x0.length : Int)) && decide ((x0.length : Int) ≤ (lim : Int))) then
    w0 x0 (0 : Int) (List.replicate (x0.length : Int).toNat (Ty.dflt (.st 0)))
  else none
def f54.b {R : Type} (L N : Nat) (k : LM → Option R) (x0 : LM) : Option R :=
  f54.b' L N k (fun s0 s1 s2 => f54.l0 L N (fun z3 => f54.p0_e0 L N k z3) L s0 s1 s2) x0
def f54 (L N : Nat) (x0 : LM) : Option (LM) := f54.b L N some x0
def f54.ent (L N : Nat) (args : List AV) (vw : View) (site : Nat) : Ans := match roD [(.sl (.st 0))] vw args with
  | some d => ⟨LM, f54 L N d.1, fun y => (RN.av site .row (), [(site, some (mkO none 72 (.st 0) y))], [])⟩
  | none => Ans.no
noncomputable def E54 (L N : Nat) : Env := { P := Try.prog, ty := tyOf, Φ := (Φ68 L N), inl := inlT, live := lives, liveX := livesX, L := L, dp := none, prom := promT, heal := healT, ren := renT }
noncomputable def f54.c0 : Code := loopAt 0 (codeOf Try.f54)
def f54.X0_e0 {R : Type} (κ : KX R) := fun z3 => κ (.exit 0) (f54.T0_e0 z3) (f54.H0_e0 z3)
def f54.R0 {R : Type} (rec : KT R) := fun s0 s1 s2 => rec (f54.T0 s0 s1 s2) (f54.H0 s0 s1 s2)
theorem f54.s0_eq {R : Type} (L N : Nat) (κ : KX R) (rec : KT R) (s0 : LM) (s1 : Int) (s2 : LM) :
    evRd (E54 L N) (evCallI (E54 L N) 1 2000) 1000 54 23 0 f54.c0 κ rec (f54.T0 s0 s1 s2) (f54.H0 s0 s1 s2)
    = f54.s0 L N (f54.X0_e0 κ) (f54.R0 rec) s0 s1 s2 := by kernel_rfl
theorem f54.l0_eq {R : Type} (L N : Nat) (κ : KX R) : ∀ (n : Nat) (s0 : LM) (s1 : Int) (s2 : LM),
    evLp (E54 L N) (evCallI (E54 L N) 1 2000) 1000 54 23 0 f54.c0 κ n (f54.T0 s0 s1 s2) (f54.H0 s0 s1 s2)
    = f54.l0 L N (f54.X0_e0 κ) n s0 s1 s2 := by
  intro n
  induction n with
  | zero => intros; rfl
  | succ n ih =>
    intro s0 s1 s2
    rw [evLp_succ, f54.s0_eq]
    delta f54.R0
    simp only [ih]
    rfl
theorem f54.p0_e0_eq {R : Type} (L N : Nat) (κ : RN.Den .row → List Move → Option R) (z3 : LM) :
    (contAt (E54 L N) (evCallI (E54 L N) 1 2000) 1000 54 23 0 (codeOf Try.f54) (finK (E54 L N) 1000 Try.f54 (finN .row none 72 (.st 0) κ))) (.exit 0) (f54.T0_e0 z3) (f54.H0_e0 z3)
    = f54.p0_e0 L N (fun a0 => κ () a0) z3 := by kernel_rfl
theorem f54.b_eq {R : Type} (L N : Nat) (κ : RN.Den .row → List Move → Option R) (x0 : LM) :
    evBody (E54 L N) (evCallI (E54 L N) 1 2000) 1000 54 Try.f54 [(.tv (.sl (.st 0)) x0)] [] [] (finN .row none 72 (.st 0) κ)
    = f54.b L N (fun a0 => κ () a0) x0 := by
  refine Eq.trans (b := f54.b' L N (fun a0 => κ () a0) (fun s0 s1 s2 => evLp (E54 L N) (evCallI (E54 L N) 1 2000) 1000 54 23 0 f54.c0 (contAt (E54 L N) (evCallI (E54 L N) 1 2000) 1000 54 23 0 (codeOf Try.f54) (finK (E54 L N) 1000 Try.f54 (finN .row none 72 (.st 0) κ))) L (f54.T0 s0 s1 s2) (f54.H0 s0 s1 s2)) x0) (by kernel_rfl) ?_
  unfold f54.b
  simp only [f54.l0_eq]
  delta f54.X0_e0
  simp only [f54.p0_e0_eq]
theorem f54.ok (L N : Nat) (hΦ : TellsOk Try.prog ((Φ68 L N))) : EntOk Try.prog 54 (f54.ent L N) := by
  intro args vw site h
  unfold f54.ent
  split
  · rename_i d ha
    intro y hy hs
    refine call_ron (y := y) (dep := 1000) (E := (E54 L N)) (ts := [(.sl (.st 0))]) (rn := .row) (q := none) (el := 72) (ty := (.st 0)) (d1 := ()) (xs := y) (κ := (fun d xs => some xs)) (sound_of hΦ) okP (callI_sound (sound_of hΦ) okP 1 2000) (f := Try.f54) rfl hs ha ?_ (fun _ _ h => by obtain rfl := Option.some.inj h; exact ⟨rfl, rfl⟩) rfl site
    exact (f54.b_eq L N (fun d xs => some xs) d.1).trans (Eq.trans (b := f54.b L N some d.1) (by kernel_rfl) hy)
  · intro y hy
    cases hy
def Φ54 (L N : Nat) : Tells := (addT (Φ68 L N) 54 (f54.ent L N))
theorem Φ54_ok (L N : Nat) : TellsOk Try.prog (Φ54 L N) := addT_ok (Φ68_ok L N) (f54.ok L N (Φ68_ok L N))
def f30.s0' {R : Type} (L N : Nat) (k0_e0 : LLM → Option R) (rec0 : LLM → Int → LLM → Option R) (s0 : LLM) (s1 : Int) (s2 : LLM) : Option R :=
  bif (decide (s1 < (s0.length : Int))) then
    bif (decide (0 ≤ s1) && decide (s1 < (s0.length : Int))) then
      (f54 L N (listAt s0 [] s1.toNat)).bind fun y4 =>
      bif (decide (0 ≤ s1) && decide (s1 < (s2.length : Int))) then
        rec0 s0 (wi (s1 + (1 : Int))) (s2.set s1.toNat y4)
      else none
    else none
  else k0_e0 s2
def f30.s0 {R : Type} (L N : Nat) (k0_e0 : LLM → Option R) (rec0 : LLM → Int → LLM → Option R) (s0 : LLM) (s1 : Int) (s2 : LLM) : Option R :=
  f30.s0' L N k0_e0 rec0 s0 s1 s2
def f30.l0 {R : Type} (L N : Nat) (k0_e0 : LLM → Option R) : Nat → LLM → Int → LLM → Option R
  | 0, _, _, _ => none
  | n + 1, s0, s1, s2 => f30.s0 L N k0_e0 (f30.l0 L N k0_e0 n) s0 s1 s2
def f30.T0 (s0 : LLM) (s1 : Int) (s2 : LLM) : T := mkT 23 [(0, (.tv (.sl (.sl (.st 0))) s0)), (3, (.row 1007)), (4, (.tv i64 s1))]
def f30.H0 (s0 : LLM) (s1 : Int) (s2 : LLM) : H := [(1007, (.deep 0 (.sl (.st 0)) s2 none))]
def f30.T0_e0 (z3 : LLM) : T := mkT 23 [(3, (.row 1007))]
def f30.H0_e0 (z3 : LLM) : H := [(1007, (.deep 0 (.sl (.st 0)) z3 none))]
def f30.p0_e0' {R : Type} (L N : Nat) (k : LLM → Option R) (z3 : LLM) : Option R :=
  k z3
def f30.p0_e0 {R : Type} (L N : Nat) (k : LLM → Option R) (z3 : LLM) : Option R :=
  f30.p0_e0' L N k z3
def f30.b' {R : Type} (L N : Nat) (k : LLM → Option R) (w0 : LLM → Int → LLM → Option R) (x0 : LLM) : Option R :=
  bif (decide (0 ≤ (x0.length : Int)) && decide ((x0.length : Int) ≤ (lim : Int))) then
    w0 x0 (0 : Int) (List.replicate (x0.length : Int).toNat [])
  else none
def f30.b {R : Type} (L N : Nat) (k : LLM → Option R) (x0 : LLM) : Option R :=
  f30.b' L N k (fun s0 s1 s2 => f30.l0 L N (fun z3 => f30.p0_e0 L N k z3) L s0 s1 s2) x0
def f30 (L N : Nat) (x0 : LLM) : Option (LLM) := f30.b L N some x0
def f30.ent (L N : Nat) (args : List AV) (vw : View) (site : Nat) : Ans := match roD [(.sl (.sl (.st 0)))] vw args with
  | some d => ⟨LLM, f30 L N d.1, fun y => (RN.av site .row (), [(site, some (mkO (some 0) 70 (.sl (.st 0)) y))], [])⟩
  | none => Ans.no
noncomputable def E30 (L N : Nat) : Env := { P := Try.prog, ty := tyOf, Φ := (Φ54 L N), inl := inlT, live := lives, liveX := livesX, L := L, dp := (some 0), prom := promT, heal := healT, ren := renT }
noncomputable def f30.c0 : Code := loopAt 0 (codeOf Try.f30)
def f30.X0_e0 {R : Type} (κ : KX R) := fun z3 => κ (.exit 0) (f30.T0_e0 z3) (f30.H0_e0 z3)
def f30.R0 {R : Type} (rec : KT R) := fun s0 s1 s2 => rec (f30.T0 s0 s1 s2) (f30.H0 s0 s1 s2)
theorem f30.s0_eq {R : Type} (L N : Nat) (κ : KX R) (rec : KT R) (s0 : LLM) (s1 : Int) (s2 : LLM) :
    evRd (E30 L N) (evCallI (E30 L N) 1 2000) 1000 30 23 0 f30.c0 κ rec (f30.T0 s0 s1 s2) (f30.H0 s0 s1 s2)
    = f30.s0 L N (f30.X0_e0 κ) (f30.R0 rec) s0 s1 s2 := by kernel_rfl
theorem f30.l0_eq {R : Type} (L N : Nat) (κ : KX R) : ∀ (n : Nat) (s0 : LLM) (s1 : Int) (s2 : LLM),
    evLp (E30 L N) (evCallI (E30 L N) 1 2000) 1000 30 23 0 f30.c0 κ n (f30.T0 s0 s1 s2) (f30.H0 s0 s1 s2)
    = f30.l0 L N (f30.X0_e0 κ) n s0 s1 s2 := by
  intro n
  induction n with
  | zero => intros; rfl
  | succ n ih =>
    intro s0 s1 s2
    rw [evLp_succ, f30.s0_eq]
    delta f30.R0
    simp only [ih]
    rfl
theorem f30.p0_e0_eq {R : Type} (L N : Nat) (κ : RN.Den .row → List LM → Option R) (z3 : LLM) :
    (contAt (E30 L N) (evCallI (E30 L N) 1 2000) 1000 30 23 0 (codeOf Try.f30) (finK (E30 L N) 1000 Try.f30 (finN .row (some 0) 70 (.sl (.st 0)) κ))) (.exit 0) (f30.T0_e0 z3) (f30.H0_e0 z3)
    = f30.p0_e0 L N (fun a0 => κ () a0) z3 := by kernel_rfl
theorem f30.b_eq {R : Type} (L N : Nat) (κ : RN.Den .row → List LM → Option R) (x0 : LLM) :
    evBody (E30 L N) (evCallI (E30 L N) 1 2000) 1000 30 Try.f30 [(.tv (.sl (.sl (.st 0))) x0)] [] [] (finN .row (some 0) 70 (.sl (.st 0)) κ)
    = f30.b L N (fun a0 => κ () a0) x0 := by
  refine Eq.trans (b := f30.b' L N (fun a0 => κ () a0) (fun s0 s1 s2 => evLp (E30 L N) (evCallI (E30 L N) 1 2000) 1000 30 23 0 f30.c0 (contAt (E30 L N) (evCallI (E30 L N) 1 2000) 1000 30 23 0 (codeOf Try.f30) (finK (E30 L N) 1000 Try.f30 (finN .row (some 0) 70 (.sl (.st 0)) κ))) L (f30.T0 s0 s1 s2) (f30.H0 s0 s1 s2)) x0) (by kernel_rfl) ?_
  unfold f30.b
  simp only [f30.l0_eq]
  delta f30.X0_e0
  simp only [f30.p0_e0_eq]
theorem f30.ok (L N : Nat) (hΦ : TellsOk Try.prog ((Φ54 L N))) : EntOk Try.prog 30 (f30.ent L N) := by
  intro args vw site h
  unfold f30.ent
  split
  · rename_i d ha
    intro y hy hs
    refine call_ron (y := y) (dep := 1000) (E := (E30 L N)) (ts := [(.sl (.sl (.st 0)))]) (rn := .row) (q := (some 0)) (el := 70) (ty := (.sl (.st 0))) (d1 := ()) (xs := y) (κ := (fun d xs => some xs)) (sound_of hΦ) okP (callI_sound (sound_of hΦ) okP 1 2000) (f := Try.f30) rfl hs ha ?_ (fun _ _ h => by obtain rfl := Option.some.inj h; exact ⟨rfl, rfl⟩) rfl site
    exact (f30.b_eq L N (fun d xs => some xs) d.1).trans (Eq.trans (b := f30.b L N some d.1) (by kernel_rfl) hy)
  · intro y hy
    cases hy
def Φ30 (L N : Nat) : Tells := (addT (Φ54 L N) 30 (f30.ent L N))
theorem Φ30_ok (L N : Nat) : TellsOk Try.prog (Φ30 L N) := addT_ok (Φ54_ok L N) (f30.ok L N (Φ54_ok L N))
def f8.b' {R : Type} (L N : Nat) (k : LLM → Option R) (x0 : Graph) : Option R :=
  (f30 L N x0.moves).bind fun y0 =>
  k y0
def f8.b {R : Type} (L N : Nat) (k : LLM → Option R) (x0 : Graph) : Option R :=
  f8.b' L N k x0
def f8 (L N : Nat) (x0 : Graph) : Option (LLM) := f8.b L N some x0
def f8.ent (L N : Nat) (args : List AV) (vw : View) (site : Nat) : Ans := match roD [(.st 2)] vw args with
  | some d => ⟨LLM, f8 L N d.1, fun y => (RN.av site (.agg []) (()), [(site, some (mkO (some 0) 70 (.sl (.st 0)) y))], [])⟩
  | none => Ans.no
noncomputable def E8 (L N : Nat) : Env := { P := Try.prog, ty := tyOf, Φ := (Φ30 L N), inl := inlT, live := lives, liveX := livesX, L := L, dp := (some 0), prom := promT, heal := healT, ren := renT }
theorem f8.b_eq {R : Type} (L N : Nat) (κ : RN.Den (.agg []) → List LM → Option R) (x0 : Graph) :
    evBody (E8 L N) (evCallI (E8 L N) 1 2000) 1000 8 Try.f8 [(.tv (.st 2) x0)] [] [] (finN (.agg []) (some 0) 70 (.sl (.st 0)) κ)
    = f8.b L N (fun a0 => κ (()) a0) x0 := by kernel_rfl
theorem f8.ok (L N : Nat) (hΦ : TellsOk Try.prog ((Φ30 L N))) : EntOk Try.prog 8 (f8.ent L N) := by
  intro args vw site h
  unfold f8.ent
  split
  · rename_i d ha
    intro y hy hs
    refine call_ron (y := y) (dep := 1000) (E := (E8 L N)) (ts := [(.st 2)]) (rn := (.agg [])) (q := (some 0)) (el := 70) (ty := (.sl (.st 0))) (d1 := (())) (xs := y) (κ := (fun d xs => some xs)) (sound_of hΦ) okP (callI_sound (sound_of hΦ) okP 1 2000) (f := Try.f8) rfl hs ha ?_ (fun _ _ h => by obtain rfl := Option.some.inj h; exact ⟨rfl, rfl⟩) rfl site
    exact (f8.b_eq L N (fun d xs => some xs) d.1).trans (Eq.trans (b := f8.b L N some d.1) (by kernel_rfl) hy)
  · intro y hy
    cases hy
def Φ8 (L N : Nat) : Tells := (addT (Φ30 L N) 8 (f8.ent L N))
theorem Φ8_ok (L N : Nat) : TellsOk Try.prog (Φ8 L N) := addT_ok (Φ30_ok L N) (f8.ok L N (Φ30_ok L N))
def f55.b' {R : Type} (L N : Nat) (k : Bool → Option R) (x0 : Int) : Option R :=
  bif (decide (x0 ≥ (-4 : Int))) then
    k (decide (x0 ≤ (4 : Int)))
  else k false
def f55.b {R : Type} (L N : Nat) (k : Bool → Option R) (x0 : Int) : Option R :=
  f55.b' L N k x0
def f55 (L N : Nat) (x0 : Int) : Option (Bool) := f55.b L N some x0
def f55.ent (L N : Nat) := entRo [i64] (.one .bool) fun d => f55 L N d.1
noncomputable def E55 (L N : Nat) : Env := { P := Try.prog, ty := tyOf, Φ := (Φ8 L N), inl := inlT, live := lives, liveX := livesX, L := L, dp := none, prom := promT, heal := healT, ren := renT }
theorem f55.b_eq {R : Type} (L N : Nat) (κ : AV → Option R) (x0 : Int) :
    evBody (E55 L N) (evCallI (E55 L N) 1 2000) 1000 55 Try.f55 [(.tv i64 x0)] [] [] (finC (.one .bool) κ)
    = f55.b L N (fun a0 => κ (.tv .bool a0)) x0 := by kernel_rfl
theorem f55.ok (L N : Nat) (hΦ : TellsOk Try.prog ((Φ8 L N))) : EntOk Try.prog 55 (f55.ent L N) := entRo_ok (E := (E55 L N)) (dep := 1000) (f := Try.f55) (sound_of hΦ) okP (callI_sound (sound_of hΦ) okP 1 2000) rfl rfl fun d _ hy => (f55.b_eq L N (unR (.one .bool)) d.1).trans (Eq.trans (b := f55.b L N some d.1) (by kernel_rfl) hy)
def Φ55 (L N : Nat) : Tells := (addT (Φ8 L N) 55 (f55.ent L N))
theorem Φ55_ok (L N : Nat) : TellsOk Try.prog (Φ55 L N) := addT_ok (Φ8_ok L N) (f55.ok L N (Φ8_ok L N))
def f82.b' {R : Type} (L N : Nat) (k : Bool → Option R) (x0 : Int) : Option R :=
  k (x0 != x0)
def f82.b {R : Type} (L N : Nat) (k : Bool → Option R) (x0 : Int) : Option R :=
  f82.b' L N k x0
def f82 (L N : Nat) (x0 : Int) : Option (Bool) := f82.b L N some x0
def f82.ent (L N : Nat) := entRo [i64] (.one .bool) fun d => f82 L N d.1
noncomputable def E82 (L N : Nat) : Env := { P := Try.prog, ty := tyOf, Φ := (Φ55 L N), inl := inlT, live := lives, liveX := livesX, L := L, dp := none, prom := promT, heal := healT, ren := renT }
theorem f82.b_eq {R : Type} (L N : Nat) (κ : AV → Option R) (x0 : Int) :
    evBody (E82 L N) (evCallI (E82 L N) 1 2000) 1000 82 Try.f82 [(.tv i64 x0)] [] [] (finC (.one .bool) κ)
    = f82.b L N (fun a0 => κ (.tv .bool a0)) x0 := by kernel_rfl
theorem f82.ok (L N : Nat) (hΦ : TellsOk Try.prog ((Φ55 L N))) : EntOk Try.prog 82 (f82.ent L N) := entRo_ok (E := (E82 L N)) (dep := 1000) (f := Try.f82) (sound_of hΦ) okP (callI_sound (sound_of hΦ) okP 1 2000) rfl rfl fun d _ hy => (f82.b_eq L N (unR (.one .bool)) d.1).trans (Eq.trans (b := f82.b L N some d.1) (by kernel_rfl) hy)
def Φ82 (L N : Nat) : Tells := (addT (Φ55 L N) 82 (f82.ent L N))
theorem Φ82_ok (L N : Nat) : TellsOk Try.prog (Φ82 L N) := addT_ok (Φ55_ok L N) (f82.ok L N (Φ55_ok L N))
def f69.b' {R : Type} (L N : Nat) (k : Int → Option R) (x0 : Int) (x1 : Int) : Option R :=
  (f82 L N x0).bind fun y0 =>
  (f82 L N x1).bind fun y1 =>
  bif y0 then
    bif y1 then
      k (0 : Int)
    else k (-1 : Int)
  else bif y1 then
    k (1 : Int)
  else bif (decide (x0 < x1)) then
    k (-1 : Int)
  else bif (decide (x0 > x1)) then
    k (1 : Int)
  else k (0 : Int)
def f69.b {R : Type} (L N : Nat) (k : Int → Option R) (x0 : Int) (x1 : Int) : Option R :=
  f69.b' L N k x0 x1
def f69 (L N : Nat) (x0 : Int) (x1 : Int) : Option (Int) := f69.b L N some x0 x1
def f69.ent (L N : Nat) := entRo [i64, i64] (.one i64) fun d => f69 L N d.1 d.2.1
noncomputable def E69 (L N : Nat) : Env := { P := Try.prog, ty := tyOf, Φ := (Φ82 L N), inl := inlT, live := lives, liveX := livesX, L := L, dp := none, prom := promT, heal := healT, ren := renT }
theorem f69.b_eq {R : Type} (L N : Nat) (κ : AV → Option R) (x0 : Int) (x1 : Int) :
    evBody (E69 L N) (evCallI (E69 L N) 1 2000) 1000 69 Try.f69 [(.tv i64 x0), (.tv i64 x1)] [] [] (finC (.one i64) κ)
    = f69.b L N (fun a0 => κ (.tv i64 a0)) x0 x1 := by kernel_rfl
theorem f69.ok (L N : Nat) (hΦ : TellsOk Try.prog ((Φ82 L N))) : EntOk Try.prog 69 (f69.ent L N) := entRo_ok (E := (E69 L N)) (dep := 1000) (f := Try.f69) (sound_of hΦ) okP (callI_sound (sound_of hΦ) okP 1 2000) rfl rfl fun d _ hy => (f69.b_eq L N (unR (.one i64)) d.1 d.2.1).trans (Eq.trans (b := f69.b L N some d.1 d.2.1) (by kernel_rfl) hy)
def Φ69 (L N : Nat) : Tells := (addT (Φ82 L N) 69 (f69.ent L N))
theorem Φ69_ok (L N : Nat) : TellsOk Try.prog (Φ69 L N) := addT_ok (Φ82_ok L N) (f69.ok L N (Φ82_ok L N))
def f56.b' {R : Type} (L N : Nat) (k : Int → Option R) (x0 : Move) (x1 : Move) : Option R :=
  (f69 L N x0.act x1.act).bind fun y0 =>
  bif (y0 != (0 : Int)) then
    k y0
  else (f69 L N x0.to x1.to).bind fun y1 =>
  k y1
def f56.b {R : Type} (L N : Nat) (k : Int → Option R) (x0 : Move) (x1 : Move) : Option R :=
  f56.b' L N k x0 x1
def f56 (L N : Nat) (x0 : Move) (x1 : Move) : Option (Int) := f56.b L N some x0 x1
def f56.ent (L N : Nat) := entRo [(.st 0), (.st 0)] (.one i64) fun d => f56 L N d.1 d.2.1
noncomputable def E56 (L N : Nat) : Env := { P := Try.prog, ty := tyOf, Φ := (Φ69 L N), inl := inlT, live := lives, liveX := livesX, L := L, dp := none, prom := promT, heal := healT, ren := renT }
theorem f56.b_eq {R : Type} (L N : Nat) (κ : AV → Option R) (x0 : Move) (x1 : Move) :
    evBody (E56 L N) (evCallI (E56 L N) 1 2000) 1000 56 Try.f56 [(.tv (.st 0) x0), (.tv (.st 0) x1)] [] [] (finC (.one i64) κ)
    = f56.b L N (fun a0 => κ (.tv i64 a0)) x0 x1 := by kernel_rfl
theorem f56.ok (L N : Nat) (hΦ : TellsOk Try.prog ((Φ69 L N))) : EntOk Try.prog 56 (f56.ent L N) := entRo_ok (E := (E56 L N)) (dep := 1000) (f := Try.f56) (sound_of hΦ) okP (callI_sound (sound_of hΦ) okP 1 2000) rfl rfl fun d _ hy => (f56.b_eq L N (unR (.one i64)) d.1 d.2.1).trans (Eq.trans (b := f56.b L N some d.1 d.2.1) (by kernel_rfl) hy)
def Φ56 (L N : Nat) : Tells := (addT (Φ69 L N) 56 (f56.ent L N))
theorem Φ56_ok (L N : Nat) : TellsOk Try.prog (Φ56 L N) := addT_ok (Φ69_ok L N) (f56.ok L N (Φ69_ok L N))
def f31.s1' {R : Type} (L N : Nat) (k1_e2 : LLM → Int → Int → LLM → Option R) (k1_r : Bool → LLM → Int → Int → LLM → Option R) (rec1 : LM → LLM → Int → Int → LM → Int → Int → LLM → Option R) (s7 : LM) (s8 : LLM) (s9 : Int) (s10 : Int) (s11 : LM) (s12 : Int) (s13 : Int) (s14 : LLM) : Option R :=
  bif (decide (s13 < s12)) then
    bif (decide (0 ≤ s13) && decide (s13 < (s11.length : Int))) then
      (f55 L N ((listAt s11 (Ty.dflt (.st 0)) s13.toNat).act)).bind fun y19 =>
      bif (!y19) then
        k1_r false s8 s9 s10 s14
      else bif (decide ((listAt s11 (Ty.dflt (.st 0)) s13.toNat).to < (0 : Int))) then
        k1_r false s8 s9 s10 s14
      else bif (decide ((listAt s11 (Ty.dflt (.st 0)) s13.toNat).to ≥ (s14.length : Int))) then
        k1_r false s8 s9 s10 s14
      else bif (decide (s13 > (0 : Int))) then
        bif (decide (0 ≤ (wi (s13 - (1 : Int)))) && decide ((wi (s13 - (1 : Int))) < (s7.length : Int))) then
          (f56 L N (listAt s7 (Ty.dflt (.st 0)) (wi (s13 - (1 : Int))).toNat) (Move.mk ((listAt s11 (Ty.dflt (.st 0)) s13.toNat).act) ((listAt s11 (Ty.dflt (.st 0)) s13.toNat).to))).bind fun y20 =>
          bif (decide (y20 ≥ (0 : Int))) then
            k1_r false s8 s9 s10 s14
          else rec1 s7 s8 s9 s10 s11 s12 (wi (s13 + (1 : Int))) s14
        else none
      else rec1 s7 s8 s9 s10 s11 s12 (wi (s13 + (1 : Int))) s14
    else none
  else k1_e2 s8 s9 s10 s14
def f31.s1 {R : Type} (L N : Nat) (k1_e2 : LLM → Int → Int → LLM → Option R) (k1_r : Bool → LLM → Int → Int → LLM → Option R) (rec1 : LM → LLM → Int → Int → LM → Int → Int → LLM → Option R) (s7 : LM) (s8 : LLM) (s9 : Int) (s10 : Int) (s11 : LM) (s12 : Int) (s13 : Int) (s14 : LLM) : Option R :=
  f31.s1' L N k1_e2 k1_r rec1 s7 s8 s9 s10 s11 s12 s13 s14
def f31.l1 {R : Type} (L N : Nat) (k1_e2 : LLM → Int → Int → LLM → Option R) (k1_r : Bool → LLM → Int → Int → LLM → Option R) : Nat → LM → LLM → Int → Int → LM → Int → Int → LLM → Option R
  | 0, _, _, _, _, _, _, _, _ => none
  | n + 1, s7, s8, s9, s10, s11, s12, s13, s14 => f31.s1 L N k1_e2 k1_r (f31.l1 L N k1_e2 k1_r n) s7 s8 s9 s10 s11 s12 s13 s14
def f31.T1 (s7 : LM) (s8 : LLM) (s9 : Int) (s10 : Int) (s11 : LM) (s12 : Int) (s13 : Int) (s14 : LLM) : T := mkT 64 [(1, (.ptr 1001 0)), (4, (.tv (.sl (.st 0)) s7)), (18, (.tv (.sl (.sl (.st 0))) s8)), (19, (.tv i64 s9)), (20, (.tv i64 s10)), (24, (.tv (.sl (.st 0)) s11)), (25, (.tv i64 s12)), (26, (.tv i64 s13))]
def f31.H1 (s7 : LM) (s8 : LLM) (s9 : Int) (s10 : Int) (s11 : LM) (s12 : Int) (s13 : Int) (s14 : LLM) : H := [(1001, (.box [(.tv (.sl (.sl (.st 0))) s14)]))]
def f31.T1_e2 (z15 : LLM) (z16 : Int) (z17 : Int) (z18 : LLM) : T := mkT 64 [(1, (.ptr 1001 0)), (18, (.tv (.sl (.sl (.st 0))) z15)), (19, (.tv i64 z16)), (20, (.tv i64 z17))]
def f31.H1_e2 (z15 : LLM) (z16 : Int) (z17 : Int) (z18 : LLM) : H := [(1001, (.box [(.tv (.sl (.sl (.st 0))) z18)]))]
def f31.T1_r (z30 : Bool) (z31 : LLM) (z32 : Int) (z33 : Int) (z34 : LLM) : T := mkT 64 [(1, (.ptr 1001 0)), (2, (.tv .bool z30)), (18, (.tv (.sl (.sl (.st 0))) z31)), (19, (.tv i64 z32)), (20, (.tv i64 z33))]
def f31.H1_r (z30 : Bool) (z31 : LLM) (z32 : Int) (z33 : Int) (z34 : LLM) : H := [(1001, (.box [(.tv (.sl (.sl (.st 0))) z34)]))]
def f31.p1_e2' {R : Type} (L N : Nat) (k0_e0 : Option R) (k0_r : Bool → Option R) (rec0 : LLM → Int → Int → LLM → Option R) (z15 : LLM) (z16 : Int) (z17 : Int) (z18 : LLM) : Option R :=
  rec0 z15 z16 (wi (z17 + (1 : Int))) z18
def f31.p1_e2 {R : Type} (L N : Nat) (k0_e0 : Option R) (k0_r : Bool → Option R) (rec0 : LLM → Int → Int → LLM → Option R) (z15 : LLM) (z16 : Int) (z17 : Int) (z18 : LLM) : Option R :=
  f31.p1_e2' L N k0_e0 k0_r rec0 z15 z16 z17 z18
def f31.p1_r' {R : Type} (L N : Nat) (k0_e0 : Option R) (k0_r : Bool → Option R) (rec0 : LLM → Int → Int → LLM → Option R) (z30 : Bool) (z31 : LLM) (z32 : Int) (z33 : Int) (z34 : LLM) : Option R :=
  k0_r z30
def f31.p1_r {R : Type} (L N : Nat) (k0_e0 : Option R) (k0_r : Bool → Option R) (rec0 : LLM → Int → Int → LLM → Option R) (z30 : Bool) (z31 : LLM) (z32 : Int) (z33 : Int) (z34 : LLM) : Option R :=
  f31.p1_r' L N k0_e0 k0_r rec0 z30 z31 z32 z33 z34
def f31.s0' {R : Type} (L N : Nat) (k0_e0 : Option R) (k0_r : Bool → Option R) (rec0 : LLM → Int → Int → LLM → Option R) (w1 : LM → LLM → Int → Int → LM → Int → Int → LLM → Option R) (s3 : LLM) (s4 : Int) (s5 : Int) (s6 : LLM) : Option R :=
  bif (decide (s5 < s4)) then
    bif (decide (0 ≤ s5) && decide (s5 < (s3.length : Int))) then
      w1 (listAt s3 [] s5.toNat) s3 s4 s5 (listAt s3 [] s5.toNat) ((listAt s3 [] s5.toNat).length : Int) (0 : Int) s6
    else none
  else k0_e0
def f31.s0 {R : Type} (L N : Nat) (k0_e0 : Option R) (k0_r : Bool → Option R) (rec0 : LLM → Int → Int → LLM → Option R) (s3 : LLM) (s4 : Int) (s5 : Int) (s6 : LLM) : Option R :=
  f31.s0' L N k0_e0 k0_r rec0 (fun s7 s8 s9 s10 s11 s12 s13 s14 => f31.l1 L N (fun z15 z16 z17 z18 => f31.p1_e2 L N k0_e0 k0_r rec0 z15 z16 z17 z18) (fun z30 z31 z32 z33 z34 => f31.p1_r L N k0_e0 k0_r rec0 z30 z31 z32 z33 z34) L s7 s8 s9 s10 s11 s12 s13 s14) s3 s4 s5 s6
def f31.l0 {R : Type} (L N : Nat) (k0_e0 : Option R) (k0_r : Bool → Option R) : Nat → LLM → Int → Int → LLM → Option R
  | 0, _, _, _, _ => none
  | n + 1, s3, s4, s5, s6 => f31.s0 L N k0_e0 k0_r (f31.l0 L N k0_e0 k0_r n) s3 s4 s5 s6
def f31.T0 (s3 : LLM) (s4 : Int) (s5 : Int) (s6 : LLM) : T := mkT 64 [(1, (.ptr 1001 0)), (18, (.tv (.sl (.sl (.st 0))) s3)), (19, (.tv i64 s4)), (20, (.tv i64 s5))]
def f31.H0 (s3 : LLM) (s4 : Int) (s5 : Int) (s6 : LLM) : H := [(1001, (.box [(.tv (.sl (.sl (.st 0))) s6)]))]
def f31.T0_e0 : T := mkT 64 []
def f31.H0_e0 : H := []
def f31.T0_r (z43 : Bool) : T := mkT 64 [(2, (.tv .bool z43))]
def f31.H0_r (z43 : Bool) : H := []
def f31.p0_e0' {R : Type} (L N : Nat) (k : Bool → Option R) : Option R :=
  k true
def f31.p0_e0 {R : Type} (L N : Nat) (k : Bool → Option R) : Option R :=
  f31.p0_e0' L N k
def f31.p0_r' {R : Type} (L N : Nat) (k : Bool → Option R) (z43 : Bool) : Option R :=
  k z43
def f31.p0_r {R : Type} (L N : Nat) (k : Bool → Option R) (z43 : Bool) : Option R :=
  f31.p0_r' L N k z43
def f31.j0' {R : Type} (L N : Nat) (k : Bool → Option R) (w0 : LLM → Int → Int → LLM → Option R) (v2 : LLM) : Option R :=
  w0 v2 (v2.length : Int) (0 : Int) v2
def f31.b' {R : Type} (L N : Nat) (k : Bool → Option R) (w0 : LLM → Int → Int → LLM → Option R) (x0 : Graph) : Option R :=
  bif (decide ((x0.moves.length : Int) < (1 : Int))) then
    k false
  else bif (decide ((x0.moves.length : Int) > (60 : Int))) then
    k false
  else f31.j0' L N k w0 x0.moves
def f31.b {R : Type} (L N : Nat) (k : Bool → Option R) (x0 : Graph) : Option R :=
  f31.b' L N k (fun s3 s4 s5 s6 => f31.l0 L N (f31.p0_e0 L N k) (fun z43 => f31.p0_r L N k z43) L s3 s4 s5 s6) x0
def f31 (L N : Nat) (x0 : Graph) : Option (Bool) := f31.b L N some x0
def f31.ent (L N : Nat) := entRo [(.st 2)] (.one .bool) fun d => f31 L N d.1
noncomputable def E31 (L N : Nat) : Env := { P := Try.prog, ty := tyOf, Φ := (Φ56 L N), inl := inlT, live := lives, liveX := livesX, L := L, dp := none, prom := promT, heal := healT, ren := renT }
noncomputable def f31.c0 : Code := loopAt 0 (codeOf Try.f31)
noncomputable def f31.c1 : Code := loopAt 2 f31.c0
def f31.X1_e2 {R : Type} (κ : KX R) := fun z15 z16 z17 z18 => κ (.exit 2) (f31.T1_e2 z15 z16 z17 z18) (f31.H1_e2 z15 z16 z17 z18)
def f31.X1_r {R : Type} (κ : KX R) := fun z30 z31 z32 z33 z34 => κ .ret (f31.T1_r z30 z31 z32 z33 z34) (f31.H1_r z30 z31 z32 z33 z34)
def f31.R1 {R : Type} (rec : KT R) := fun s7 s8 s9 s10 s11 s12 s13 s14 => rec (f31.T1 s7 s8 s9 s10 s11 s12 s13 s14) (f31.H1 s7 s8 s9 s10 s11 s12 s13 s14)
theorem f31.s1_eq {R : Type} (L N : Nat) (κ : KX R) (rec : KT R) (s7 : LM) (s8 : LLM) (s9 : Int) (s10 : Int) (s11 : LM) (s12 : Int) (s13 : Int) (s14 : LLM) :
    evRd (E31 L N) (evCallI (E31 L N) 1 2000) 1000 31 64 2 f31.c1 κ rec (f31.T1 s7 s8 s9 s10 s11 s12 s13 s14) (f31.H1 s7 s8 s9 s10 s11 s12 s13 s14)
    = f31.s1 L N (f31.X1_e2 κ) (f31.X1_r κ) (f31.R1 rec) s7 s8 s9 s10 s11 s12 s13 s14 := by kernel_rfl
theorem f31.l1_eq {R : Type} (L N : Nat) (κ : KX R) : ∀ (n : Nat) (s7 : LM) (s8 : LLM) (s9 : Int) (s10 : Int) (s11 : LM) (s12 : Int) (s13 : Int) (s14 : LLM),
    evLp (E31 L N) (evCallI (E31 L N) 1 2000) 1000 31 64 2 f31.c1 κ n (f31.T1 s7 s8 s9 s10 s11 s12 s13 s14) (f31.H1 s7 s8 s9 s10 s11 s12 s13 s14)
    = f31.l1 L N (f31.X1_e2 κ) (f31.X1_r κ) n s7 s8 s9 s10 s11 s12 s13 s14 := by
  intro n
  induction n with
  | zero => intros; rfl
  | succ n ih =>
    intro s7 s8 s9 s10 s11 s12 s13 s14
    rw [evLp_succ, f31.s1_eq]
    delta f31.R1
    simp only [ih]
    rfl
def f31.X0_e0 {R : Type} (κ : KX R) := κ (.exit 0) f31.T0_e0 f31.H0_e0
def f31.X0_r {R : Type} (κ : KX R) := fun z43 => κ .ret (f31.T0_r z43) (f31.H0_r z43)
def f31.R0 {R : Type} (rec : KT R) := fun s3 s4 s5 s6 => rec (f31.T0 s3 s4 s5 s6) (f31.H0 s3 s4 s5 s6)
theorem f31.p1_e2_eq {R : Type} (L N : Nat) (κ : KX R) (rec : KT R) (z15 : LLM) (z16 : Int) (z17 : Int) (z18 : LLM) :
    (contAt (E31 L N) (evCallI (E31 L N) 1 2000) 1000 31 64 2 f31.c0 (rdK (E31 L N) 1000 31 64 0 κ rec)) (.exit 2) (f31.T1_e2 z15 z16 z17 z18) (f31.H1_e2 z15 z16 z17 z18)
    = f31.p1_e2 L N (f31.X0_e0 κ) (f31.X0_r κ) (f31.R0 rec) z15 z16 z17 z18 := by kernel_rfl
theorem f31.p1_r_eq {R : Type} (L N : Nat) (κ : KX R) (rec : KT R) (z30 : Bool) (z31 : LLM) (z32 : Int) (z33 : Int) (z34 : LLM) :
    (contAt (E31 L N) (evCallI (E31 L N) 1 2000) 1000 31 64 2 f31.c0 (rdK (E31 L N) 1000 31 64 0 κ rec)) .ret (f31.T1_r z30 z31 z32 z33 z34) (f31.H1_r z30 z31 z32 z33 z34)
    = f31.p1_r L N (f31.X0_e0 κ) (f31.X0_r κ) (f31.R0 rec) z30 z31 z32 z33 z34 := by kernel_rfl
theorem f31.s0_eq {R : Type} (L N : Nat) (κ : KX R) (rec : KT R) (s3 : LLM) (s4 : Int) (s5 : Int) (s6 : LLM) :
    evRd (E31 L N) (evCallI (E31 L N) 1 2000) 1000 31 64 0 f31.c0 κ rec (f31.T0 s3 s4 s5 s6) (f31.H0 s3 s4 s5 s6)
    = f31.s0 L N (f31.X0_e0 κ) (f31.X0_r κ) (f31.R0 rec) s3 s4 s5 s6 := by
  refine Eq.trans (b := f31.s0' L N (f31.X0_e0 κ) (f31.X0_r κ) (f31.R0 rec) (fun s7 s8 s9 s10 s11 s12 s13 s14 => evLp (E31 L N) (evCallI (E31 L N) 1 2000) 1000 31 64 2 f31.c1 (contAt (E31 L N) (evCallI (E31 L N) 1 2000) 1000 31 64 2 f31.c0 (rdK (E31 L N) 1000 31 64 0 κ rec)) L (f31.T1 s7 s8 s9 s10 s11 s12 s13 s14) (f31.H1 s7 s8 s9 s10 s11 s12 s13 s14)) s3 s4 s5 s6) (by kernel_rfl) ?_
  unfold f31.s0
  simp only [f31.l1_eq]
  delta f31.X1_e2 f31.X1_r
  simp only [f31.p1_e2_eq, f31.p1_r_eq]
theorem f31.l0_eq {R : Type} (L N : Nat) (κ : KX R) : ∀ (n : Nat) (s3 : LLM) (s4 : Int) (s5 : Int) (s6 : LLM),
    evLp (E31 L N) (evCallI (E31 L N) 1 2000) 1000 31 64 0 f31.c0 κ n (f31.T0 s3 s4 s5 s6) (f31.H0 s3 s4 s5 s6)
    = f31.l0 L N (f31.X0_e0 κ) (f31.X0_r κ) n s3 s4 s5 s6 := by
  intro n
  induction n with
  | zero => intros; rfl
  | succ n ih =>
    intro s3 s4 s5 s6
    rw [evLp_succ, f31.s0_eq]
    delta f31.R0
    simp only [ih]
    rfl
theorem f31.p0_e0_eq {R : Type} (L N : Nat) (κ : AV → Option R) :
    (contAt (E31 L N) (evCallI (E31 L N) 1 2000) 1000 31 64 0 (codeOf Try.f31) (finK (E31 L N) 1000 Try.f31 (finC (.one .bool) κ))) (.exit 0) f31.T0_e0 f31.H0_e0
    = f31.p0_e0 L N (fun a0 => κ (.tv .bool a0)) := by kernel_rfl
theorem f31.p0_r_eq {R : Type} (L N : Nat) (κ : AV → Option R) (z43 : Bool) :
    (contAt (E31 L N) (evCallI (E31 L N) 1 2000) 1000 31 64 0 (codeOf Try.f31) (finK (E31 L N) 1000 Try.f31 (finC (.one .bool) κ))) .ret (f31.T0_r z43) (f31.H0_r z43)
    = f31.p0_r L N (fun a0 => κ (.tv .bool a0)) z43 := by kernel_rfl
theorem f31.b_eq {R : Type} (L N : Nat) (κ : AV → Option R) (x0 : Graph) :
    evBody (E31 L N) (evCallI (E31 L N) 1 2000) 1000 31 Try.f31 [(.tv (.st 2) x0)] [] [] (finC (.one .bool) κ)
    = f31.b L N (fun a0 => κ (.tv .bool a0)) x0 := by
  refine Eq.trans (b := f31.b' L N (fun a0 => κ (.tv .bool a0)) (fun s3 s4 s5 s6 => evLp (E31 L N) (evCallI (E31 L N) 1 2000) 1000 31 64 0 f31.c0 (contAt (E31 L N) (evCallI (E31 L N) 1 2000) 1000 31 64 0 (codeOf Try.f31) (finK (E31 L N) 1000 Try.f31 (finC (.one .bool) κ))) L (f31.T0 s3 s4 s5 s6) (f31.H0 s3 s4 s5 s6)) x0) (by kernel_rfl) ?_
  unfold f31.b
  simp only [f31.l0_eq]
  delta f31.X0_e0 f31.X0_r
  simp only [f31.p0_e0_eq, f31.p0_r_eq]
theorem f31.ok (L N : Nat) (hΦ : TellsOk Try.prog ((Φ56 L N))) : EntOk Try.prog 31 (f31.ent L N) := entRo_ok (E := (E31 L N)) (dep := 1000) (f := Try.f31) (sound_of hΦ) okP (callI_sound (sound_of hΦ) okP 1 2000) rfl rfl fun d _ hy => (f31.b_eq L N (unR (.one .bool)) d.1).trans (Eq.trans (b := f31.b L N some d.1) (by kernel_rfl) hy)
def Φ31 (L N : Nat) : Tells := (addT (Φ56 L N) 31 (f31.ent L N))
theorem Φ31_ok (L N : Nat) : TellsOk Try.prog (Φ31 L N) := addT_ok (Φ56_ok L N) (f31.ok L N (Φ56_ok L N))
def f72.s0' {R : Type} (L N : Nat) (k0_e0 : Option R) (k0_r : Bool → Option R) (rec0 : LI → LI → Int → Int → Option R) (s0 : LI) (s1 : LI) (s2 : Int) (s3 : Int) : Option R :=
  bif (decide (s3 < s2)) then
    bif (decide (0 ≤ s3) && decide (s3 < (s0.length : Int))) then
      bif (decide (0 ≤ s3) && decide (s3 < (s1.length : Int))) then
        bif ((listAt s0 (0 : Int) s3.toNat) != (listAt s1 (0 : Int) s3.toNat)) then
          k0_r false
        else rec0 s0 s1 s2 (wi (s3 + (1 : Int)))
      else none
    else none
  else k0_e0
def f72.s0 {R : Type} (L N : Nat) (k0_e0 : Option R) (k0_r : Bool → Option R) (rec0 : LI → LI → Int → Int → Option R) (s0 : LI) (s1 : LI) (s2 : Int) (s3 : Int) : Option R :=
  f72.s0' L N k0_e0 k0_r rec0 s0 s1 s2 s3
def f72.l0 {R : Type} (L N : Nat) (k0_e0 : Option R) (k0_r : Bool → Option R) : Nat → LI → LI → Int → Int → Option R
  | 0, _, _, _, _ => none
  | n + 1, s0, s1, s2, s3 => f72.s0 L N k0_e0 k0_r (f72.l0 L N k0_e0 k0_r n) s0 s1 s2 s3
def f72.T0 (s0 : LI) (s1 : LI) (s2 : Int) (s3 : Int) : T := mkT 26 [(0, (.tv (.sl i64) s0)), (1, (.tv (.sl i64) s1)), (12, (.tv i64 s2)), (13, (.tv i64 s3))]
def f72.H0 (s0 : LI) (s1 : LI) (s2 : Int) (s3 : Int) : H := []
def f72.T0_e0 : T := mkT 26 []
def f72.H0_e0 : H := []
def f72.T0_r (z4 : Bool) : T := mkT 26 [(4, (.tv .bool z4))]
def f72.H0_r (z4 : Bool) : H := []
def f72.p0_e0' {R : Type} (L N : Nat) (k : Bool → Option R) : Option R :=
  k true
def f72.p0_e0 {R : Type} (L N : Nat) (k : Bool → Option R) : Option R :=
  f72.p0_e0' L N k
def f72.p0_r' {R : Type} (L N : Nat) (k : Bool → Option R) (z4 : Bool) : Option R :=
  k z4
def f72.p0_r {R : Type} (L N : Nat) (k : Bool → Option R) (z4 : Bool) : Option R :=
  f72.p0_r' L N k z4
def f72.b' {R : Type} (L N : Nat) (k : Bool → Option R) (w0 : LI → LI → Int → Int → Option R) (x0 : LI) (x1 : LI) : Option R :=
  bif ((x0.length : Int) != (x1.length : Int)) then
    k false
  else w0 x0 x1 (x0.length : Int) (0 : Int)
def f72.b {R : Type} (L N : Nat) (k : Bool → Option R) (x0 : LI) (x1 : LI) : Option R :=
  f72.b' L N k (fun s0 s1 s2 s3 => f72.l0 L N (f72.p0_e0 L N k) (fun z4 => f72.p0_r L N k z4) L s0 s1 s2 s3) x0 x1
def f72 (L N : Nat) (x0 : LI) (x1 : LI) : Option (Bool) := f72.b L N some x0 x1
def f72.ent (L N : Nat) := entRo [(.sl i64), (.sl i64)] (.one .bool) fun d => f72 L N d.1 d.2.1
noncomputable def E72 (L N : Nat) : Env := { P := Try.prog, ty := tyOf, Φ := (Φ31 L N), inl := inlT, live := lives, liveX := livesX, L := L, dp := none, prom := promT, heal := healT, ren := renT }
noncomputable def f72.c0 : Code := loopAt 0 (codeOf Try.f72)
def f72.X0_e0 {R : Type} (κ : KX R) := κ (.exit 0) f72.T0_e0 f72.H0_e0
def f72.X0_r {R : Type} (κ : KX R) := fun z4 => κ .ret (f72.T0_r z4) (f72.H0_r z4)
def f72.R0 {R : Type} (rec : KT R) := fun s0 s1 s2 s3 => rec (f72.T0 s0 s1 s2 s3) (f72.H0 s0 s1 s2 s3)
theorem f72.s0_eq {R : Type} (L N : Nat) (κ : KX R) (rec : KT R) (s0 : LI) (s1 : LI) (s2 : Int) (s3 : Int) :
    evRd (E72 L N) (evCallI (E72 L N) 1 2000) 1000 72 26 0 f72.c0 κ rec (f72.T0 s0 s1 s2 s3) (f72.H0 s0 s1 s2 s3)
    = f72.s0 L N (f72.X0_e0 κ) (f72.X0_r κ) (f72.R0 rec) s0 s1 s2 s3 := by kernel_rfl
theorem f72.l0_eq {R : Type} (L N : Nat) (κ : KX R) : ∀ (n : Nat) (s0 : LI) (s1 : LI) (s2 : Int) (s3 : Int),
    evLp (E72 L N) (evCallI (E72 L N) 1 2000) 1000 72 26 0 f72.c0 κ n (f72.T0 s0 s1 s2 s3) (f72.H0 s0 s1 s2 s3)
    = f72.l0 L N (f72.X0_e0 κ) (f72.X0_r κ) n s0 s1 s2 s3 := by
  intro n
  induction n with
  | zero => intros; rfl
  | succ n ih =>
    intro s0 s1 s2 s3
    rw [evLp_succ, f72.s0_eq]
    delta f72.R0
    simp only [ih]
    rfl
theorem f72.p0_e0_eq {R : Type} (L N : Nat) (κ : AV → Option R) :
    (contAt (E72 L N) (evCallI (E72 L N) 1 2000) 1000 72 26 0 (codeOf Try.f72) (finK (E72 L N) 1000 Try.f72 (finC (.one .bool) κ))) (.exit 0) f72.T0_e0 f72.H0_e0
    = f72.p0_e0 L N (fun a0 => κ (.tv .bool a0)) := by kernel_rfl
theorem f72.p0_r_eq {R : Type} (L N : Nat) (κ : AV → Option R) (z4 : Bool) :
    (contAt (E72 L N) (evCallI (E72 L N) 1 2000) 1000 72 26 0 (codeOf Try.f72) (finK (E72 L N) 1000 Try.f72 (finC (.one .bool) κ))) .ret (f72.T0_r z4) (f72.H0_r z4)
    = f72.p0_r L N (fun a0 => κ (.tv .bool a0)) z4 := by kernel_rfl
theorem f72.b_eq {R : Type} (L N : Nat) (κ : AV → Option R) (x0 : LI) (x1 : LI) :
    evBody (E72 L N) (evCallI (E72 L N) 1 2000) 1000 72 Try.f72 [(.tv (.sl i64) x0), (.tv (.sl i64) x1)] [] [] (finC (.one .bool) κ)
    = f72.b L N (fun a0 => κ (.tv .bool a0)) x0 x1 := by
  refine Eq.trans (b := f72.b' L N (fun a0 => κ (.tv .bool a0)) (fun s0 s1 s2 s3 => evLp (E72 L N) (evCallI (E72 L N) 1 2000) 1000 72 26 0 f72.c0 (contAt (E72 L N) (evCallI (E72 L N) 1 2000) 1000 72 26 0 (codeOf Try.f72) (finK (E72 L N) 1000 Try.f72 (finC (.one .bool) κ))) L (f72.T0 s0 s1 s2 s3) (f72.H0 s0 s1 s2 s3)) x0 x1) (by kernel_rfl) ?_
  unfold f72.b
  simp only [f72.l0_eq]
  delta f72.X0_e0 f72.X0_r
  simp only [f72.p0_e0_eq, f72.p0_r_eq]
theorem f72.ok (L N : Nat) (hΦ : TellsOk Try.prog ((Φ31 L N))) : EntOk Try.prog 72 (f72.ent L N) := entRo_ok (E := (E72 L N)) (dep := 1000) (f := Try.f72) (sound_of hΦ) okP (callI_sound (sound_of hΦ) okP 1 2000) rfl rfl fun d _ hy => (f72.b_eq L N (unR (.one .bool)) d.1 d.2.1).trans (Eq.trans (b := f72.b L N some d.1 d.2.1) (by kernel_rfl) hy)
def Φ72 (L N : Nat) : Tells := (addT (Φ31 L N) 72 (f72.ent L N))
theorem Φ72_ok (L N : Nat) : TellsOk Try.prog (Φ72 L N) := addT_ok (Φ31_ok L N) (f72.ok L N (Φ31_ok L N))
def f83.s0' {R : Type} (L N : Nat) (k0_e0 : Option R) (k0_r : Bool → Option R) (rec0 : LM → LM → Int → Int → Option R) (s0 : LM) (s1 : LM) (s2 : Int) (s3 : Int) : Option R :=
  bif (decide (s3 < s2)) then
    bif (decide (0 ≤ s3) && decide (s3 < (s0.length : Int))) then
      bif (decide (0 ≤ s3) && decide (s3 < (s1.length : Int))) then
        bif (!(Move.eqb (listAt s0 (Ty.dflt (.st 0)) s3.toNat) (listAt s1 (Ty.dflt (.st 0)) s3.toNat))) then
          k0_r false
        else rec0 s0 s1 s2 (wi (s3 + (1 : Int)))
      else none
    else none
  else k0_e0
def f83.s0 {R : Type} (L N : Nat) (k0_e0 : Option R) (k0_r : Bool → Option R) (rec0 : LM → LM → Int → Int → Option R) (s0 : LM) (s1 : LM) (s2 : Int) (s3 : Int) : Option R :=
  f83.s0' L N k0_e0 k0_r rec0 s0 s1 s2 s3
def f83.l0 {R : Type} (L N : Nat) (k0_e0 : Option R) (k0_r : Bool → Option R) : Nat → LM → LM → Int → Int → Option R
  | 0, _, _, _, _ => none
  | n + 1, s0, s1, s2, s3 => f83.s0 L N k0_e0 k0_r (f83.l0 L N k0_e0 k0_r n) s0 s1 s2 s3
def f83.T0 (s0 : LM) (s1 : LM) (s2 : Int) (s3 : Int) : T := mkT 26 [(0, (.tv (.sl (.st 0)) s0)), (1, (.tv (.sl (.st 0)) s1)), (12, (.tv i64 s2)), (13, (.tv i64 s3))]
def f83.H0 (s0 : LM) (s1 : LM) (s2 : Int) (s3 : Int) : H := []
def f83.T0_e0 : T := mkT 26 []
def f83.H0_e0 : H := []
def f83.T0_r (z4 : Bool) : T := mkT 26 [(4, (.tv .bool z4))]
def f83.H0_r (z4 : Bool) : H := []
def f83.p0_e0' {R : Type} (L N : Nat) (k : Bool → Option R) : Option R :=
  k true
def f83.p0_e0 {R : Type} (L N : Nat) (k : Bool → Option R) : Option R :=
  f83.p0_e0' L N k
def f83.p0_r' {R : Type} (L N : Nat) (k : Bool → Option R) (z4 : Bool) : Option R :=
  k z4
def f83.p0_r {R : Type} (L N : Nat) (k : Bool → Option R) (z4 : Bool) : Option R :=
  f83.p0_r' L N k z4
def f83.b' {R : Type} (L N : Nat) (k : Bool → Option R) (w0 : LM → LM → Int → Int → Option R) (x0 : LM) (x1 : LM) : Option R :=
  bif ((x0.length : Int) != (x1.length : Int)) then
    k false
  else w0 x0 x1 (x0.length : Int) (0 : Int)
def f83.b {R : Type} (L N : Nat) (k : Bool → Option R) (x0 : LM) (x1 : LM) : Option R :=
  f83.b' L N k (fun s0 s1 s2 s3 => f83.l0 L N (f83.p0_e0 L N k) (fun z4 => f83.p0_r L N k z4) L s0 s1 s2 s3) x0 x1
def f83 (L N : Nat) (x0 : LM) (x1 : LM) : Option (Bool) := f83.b L N some x0 x1
def f83.ent (L N : Nat) := entRo [(.sl (.st 0)), (.sl (.st 0))] (.one .bool) fun d => f83 L N d.1 d.2.1
noncomputable def E83 (L N : Nat) : Env := { P := Try.prog, ty := tyOf, Φ := (Φ72 L N), inl := inlT, live := lives, liveX := livesX, L := L, dp := none, prom := promT, heal := healT, ren := renT }
noncomputable def f83.c0 : Code := loopAt 0 (codeOf Try.f83)
def f83.X0_e0 {R : Type} (κ : KX R) := κ (.exit 0) f83.T0_e0 f83.H0_e0
def f83.X0_r {R : Type} (κ : KX R) := fun z4 => κ .ret (f83.T0_r z4) (f83.H0_r z4)
def f83.R0 {R : Type} (rec : KT R) := fun s0 s1 s2 s3 => rec (f83.T0 s0 s1 s2 s3) (f83.H0 s0 s1 s2 s3)
theorem f83.s0_eq {R : Type} (L N : Nat) (κ : KX R) (rec : KT R) (s0 : LM) (s1 : LM) (s2 : Int) (s3 : Int) :
    evRd (E83 L N) (evCallI (E83 L N) 1 2000) 1000 83 26 0 f83.c0 κ rec (f83.T0 s0 s1 s2 s3) (f83.H0 s0 s1 s2 s3)
    = f83.s0 L N (f83.X0_e0 κ) (f83.X0_r κ) (f83.R0 rec) s0 s1 s2 s3 := by kernel_rfl
theorem f83.l0_eq {R : Type} (L N : Nat) (κ : KX R) : ∀ (n : Nat) (s0 : LM) (s1 : LM) (s2 : Int) (s3 : Int),
    evLp (E83 L N) (evCallI (E83 L N) 1 2000) 1000 83 26 0 f83.c0 κ n (f83.T0 s0 s1 s2 s3) (f83.H0 s0 s1 s2 s3)
    = f83.l0 L N (f83.X0_e0 κ) (f83.X0_r κ) n s0 s1 s2 s3 := by
  intro n
  induction n with
  | zero => intros; rfl
  | succ n ih =>
    intro s0 s1 s2 s3
    rw [evLp_succ, f83.s0_eq]
    delta f83.R0
    simp only [ih]
    rfl
theorem f83.p0_e0_eq {R : Type} (L N : Nat) (κ : AV → Option R) :
    (contAt (E83 L N) (evCallI (E83 L N) 1 2000) 1000 83 26 0 (codeOf Try.f83) (finK (E83 L N) 1000 Try.f83 (finC (.one .bool) κ))) (.exit 0) f83.T0_e0 f83.H0_e0
    = f83.p0_e0 L N (fun a0 => κ (.tv .bool a0)) := by kernel_rfl
theorem f83.p0_r_eq {R : Type} (L N : Nat) (κ : AV → Option R) (z4 : Bool) :
    (contAt (E83 L N) (evCallI (E83 L N) 1 2000) 1000 83 26 0 (codeOf Try.f83) (finK (E83 L N) 1000 Try.f83 (finC (.one .bool) κ))) .ret (f83.T0_r z4) (f83.H0_r z4)
    = f83.p0_r L N (fun a0 => κ (.tv .bool a0)) z4 := by kernel_rfl
theorem f83.b_eq {R : Type} (L N : Nat) (κ : AV → Option R) (x0 : LM) (x1 : LM) :
    evBody (E83 L N) (evCallI (E83 L N) 1 2000) 1000 83 Try.f83 [(.tv (.sl (.st 0)) x0), (.tv (.sl (.st 0)) x1)] [] [] (finC (.one .bool) κ)
    = f83.b L N (fun a0 => κ (.tv .bool a0)) x0 x1 := by
  refine Eq.trans (b := f83.b' L N (fun a0 => κ (.tv .bool a0)) (fun s0 s1 s2 s3 => evLp (E83 L N) (evCallI (E83 L N) 1 2000) 1000 83 26 0 f83.c0 (contAt (E83 L N) (evCallI (E83 L N) 1 2000) 1000 83 26 0 (codeOf Try.f83) (finK (E83 L N) 1000 Try.f83 (finC (.one .bool) κ))) L (f83.T0 s0 s1 s2 s3) (f83.H0 s0 s1 s2 s3)) x0 x1) (by kernel_rfl) ?_
  unfold f83.b
  simp only [f83.l0_eq]
  delta f83.X0_e0 f83.X0_r
  simp only [f83.p0_e0_eq, f83.p0_r_eq]
theorem f83.ok (L N : Nat) (hΦ : TellsOk Try.prog ((Φ72 L N))) : EntOk Try.prog 83 (f83.ent L N) := entRo_ok (E := (E83 L N)) (dep := 1000) (f := Try.f83) (sound_of hΦ) okP (callI_sound (sound_of hΦ) okP 1 2000) rfl rfl fun d _ hy => (f83.b_eq L N (unR (.one .bool)) d.1 d.2.1).trans (Eq.trans (b := f83.b L N some d.1 d.2.1) (by kernel_rfl) hy)
def Φ83 (L N : Nat) : Tells := (addT (Φ72 L N) 83 (f83.ent L N))
theorem Φ83_ok (L N : Nat) : TellsOk Try.prog (Φ83 L N) := addT_ok (Φ72_ok L N) (f83.ok L N (Φ72_ok L N))
def f58_1.s0' {R : Type} (L N : Nat) (k0_e0 : LM → Option R) (rec0 : LI → LM → Int → Int → LM → Option R) (s0 : LI) (s1 : LM) (s2 : Int) (s3 : Int) (s4 : LM) : Option R :=
  bif (decide (s3 < s2)) then
    bif (decide (0 ≤ s3) && decide (s3 < (s1.length : Int))) then
      bif (decide (0 ≤ (listAt s1 (Ty.dflt (.st 0)) s3.toNat).to) && decide ((listAt s1 (Ty.dflt (.st 0)) s3.toNat).to < (s0.length : Int))) then
        bif (decide (s4.length + ([(Move.mk ((listAt s1 (Ty.dflt (.st 0)) s3.toNat).act) (listAt s0 (0 : Int) ((listAt s1 (Ty.dflt (.st 0)) s3.toNat).to).toNat))] : LM).length ≤ lim)) then
          rec0 s0 s1 s2 (wi (s3 + (1 : Int))) (s4 ++ ([(Move.mk ((listAt s1 (Ty.dflt (.st 0)) s3.toNat).act) (listAt s0 (0 : Int) ((listAt s1 (Ty.dflt (.st 0)) s3.toNat).to).toNat))] : LM))
        else none
      else none
    else none
  else k0_e0 s4
def f58_1.s0 {R : Type} (L N : Nat) (k0_e0 : LM → Option R) (rec0 : LI → LM → Int → Int → LM → Option R) (s0 : LI) (s1 : LM) (s2 : Int) (s3 : Int) (s4 : LM) : Option R :=
  f58_1.s0' L N k0_e0 rec0 s0 s1 s2 s3 s4
def f58_1.l0 {R : Type} (L N : Nat) (k0_e0 : LM → Option R) : Nat → LI → LM → Int → Int → LM → Option R
  | 0, _, _, _, _, _ => none
  | n + 1, s0, s1, s2, s3, s4 => f58_1.s0 L N k0_e0 (f58_1.l0 L N k0_e0 n) s0 s1 s2 s3 s4
def f58_1.T0 (s0 : LI) (s1 : LM) (s2 : Int) (s3 : Int) (s4 : LM) : T := mkT 34 [(0, (.tv (.sl i64) s0)), (6, (.row 1009)), (14, (.tv (.sl (.st 0)) s1)), (15, (.tv i64 s2)), (16, (.tv i64 s3))]
def f58_1.H0 (s0 : LI) (s1 : LM) (s2 : Int) (s3 : Int) (s4 : LM) : H := [(1009, (.row 72 (.st 0) s4))]
def f58_1.T0_e0 (z5 : LM) : T := mkT 34 [(6, (.row 1009))]
def f58_1.H0_e0 (z5 : LM) : H := [(1009, (.row 72 (.st 0) z5))]
def f58_1.p0_e0' {R : Type} (L N : Nat) (k : LM → Option R) (z5 : LM) : Option R :=
  ((fsortM z5)).bind fun y6 =>
  k (tidyM z5)
def f58_1.p0_e0 {R : Type} (L N : Nat) (k : LM → Option R) (z5 : LM) : Option R :=
  f58_1.p0_e0' L N k z5
def f58_1.b' {R : Type} (L N : Nat) (k : LM → Option R) (w0 : LI → LM → Int → Int → LM → Option R) (x0 : LI) (x1 : Int) (x2 : LLM) : Option R :=
  bif (decide (0 ≤ x1) && decide (x1 < (x2.length : Int))) then
    w0 x0 (listAt x2 [] x1.toNat) ((listAt x2 [] x1.toNat).length : Int) (0 : Int) ([] : LM)
  else none
def f58_1.b {R : Type} (L N : Nat) (k : LM → Option R) (x0 : LI) (x1 : Int) (x2 : LLM) : Option R :=
  f58_1.b' L N k (fun s0 s1 s2 s3 s4 => f58_1.l0 L N (fun z5 => f58_1.p0_e0 L N k z5) L s0 s1 s2 s3 s4) x0 x1 x2
def f58_1 (L N : Nat) (x0 : LI) (x1 : Int) (x2 : LLM) : Option (LM) := f58_1.b L N some x0 x1 x2
def f58_1.ent (L N : Nat) := entDf [(.dat (.sl i64)), (.dat i64), (.imp (.sl (.sl (.st 0))) 0)] (.one (.sl (.st 0))) fun d => f58_1 L N d.1 d.2.1 d.2.2.1
noncomputable def E58_1 (L N : Nat) : Env := { P := Try.prog, ty := tyOf, Φ := (Φ83 L N), inl := inlT, live := lives, liveX := livesX, L := L, dp := none, prom := promT, heal := healT, ren := renT }
noncomputable def f58_1.c0 : Code := loopAt 0 (codeOf Try.f58)
def f58_1.X0_e0 {R : Type} (κ : KX R) := fun z5 => κ (.exit 0) (f58_1.T0_e0 z5) (f58_1.H0_e0 z5)
def f58_1.R0 {R : Type} (rec : KT R) := fun s0 s1 s2 s3 s4 => rec (f58_1.T0 s0 s1 s2 s3 s4) (f58_1.H0 s0 s1 s2 s3 s4)
theorem f58_1.s0_eq {R : Type} (L N : Nat) (κ : KX R) (rec : KT R) (s0 : LI) (s1 : LM) (s2 : Int) (s3 : Int) (s4 : LM) :
    evRd (E58_1 L N) (evCallI (E58_1 L N) 1 2000) 1000 58 34 0 f58_1.c0 κ rec (f58_1.T0 s0 s1 s2 s3 s4) (f58_1.H0 s0 s1 s2 s3 s4)
    = f58_1.s0 L N (f58_1.X0_e0 κ) (f58_1.R0 rec) s0 s1 s2 s3 s4 := by kernel_rfl
theorem f58_1.l0_eq {R : Type} (L N : Nat) (κ : KX R) : ∀ (n : Nat) (s0 : LI) (s1 : LM) (s2 : Int) (s3 : Int) (s4 : LM),
    evLp (E58_1 L N) (evCallI (E58_1 L N) 1 2000) 1000 58 34 0 f58_1.c0 κ n (f58_1.T0 s0 s1 s2 s3 s4) (f58_1.H0 s0 s1 s2 s3 s4)
    = f58_1.l0 L N (f58_1.X0_e0 κ) n s0 s1 s2 s3 s4 := by
  intro n
  induction n with
  | zero => intros; rfl
  | succ n ih =>
    intro s0 s1 s2 s3 s4
    rw [evLp_succ, f58_1.s0_eq]
    delta f58_1.R0
    simp only [ih]
    rfl
theorem f58_1.p0_e0_eq {R : Type} (L N : Nat) (κ : AV → Option R) (z5 : LM) :
    (contAt (E58_1 L N) (evCallI (E58_1 L N) 1 2000) 1000 58 34 0 (codeOf Try.f58) (finK (E58_1 L N) 1000 Try.f58 (finC (.one (.sl (.st 0))) κ))) (.exit 0) (f58_1.T0_e0 z5) (f58_1.H0_e0 z5)
    = f58_1.p0_e0 L N (fun a0 => κ (.tv (.sl (.st 0)) a0)) z5 := by kernel_rfl
theorem f58_1.b_eq {R : Type} (L N : Nat) (κ : AV → Option R) (x0 : LI) (x1 : Int) (x2 : LLM) :
    evBody (E58_1 L N) (evCallI (E58_1 L N) 1 2000) 1000 58 Try.f58 [(.tv (.sl i64) x0), (.tv i64 x1), (.imp (.sl (.sl (.st 0))) x2 0)] [] [] (finC (.one (.sl (.st 0))) κ)
    = f58_1.b L N (fun a0 => κ (.tv (.sl (.st 0)) a0)) x0 x1 x2 := by
  refine Eq.trans (b := f58_1.b' L N (fun a0 => κ (.tv (.sl (.st 0)) a0)) (fun s0 s1 s2 s3 s4 => evLp (E58_1 L N) (evCallI (E58_1 L N) 1 2000) 1000 58 34 0 f58_1.c0 (contAt (E58_1 L N) (evCallI (E58_1 L N) 1 2000) 1000 58 34 0 (codeOf Try.f58) (finK (E58_1 L N) 1000 Try.f58 (finC (.one (.sl (.st 0))) κ))) L (f58_1.T0 s0 s1 s2 s3 s4) (f58_1.H0 s0 s1 s2 s3 s4)) x0 x1 x2) (by kernel_rfl) ?_
  unfold f58_1.b
  simp only [f58_1.l0_eq]
  delta f58_1.X0_e0
  simp only [f58_1.p0_e0_eq]
theorem f58_1.ok (L N : Nat) (hΦ : TellsOk Try.prog ((Φ83 L N))) : EntOkO Try.prog 58 (f58_1.ent L N) := entDf_ok (E := (E58_1 L N)) (dep := 1000) (f := Try.f58) (sound_of hΦ) okP (callI_sound (sound_of hΦ) okP 1 2000) rfl fun d _ hy => (f58_1.b_eq L N (unR (.one (.sl (.st 0)))) d.1 d.2.1 d.2.2.1).trans (Eq.trans (b := f58_1.b L N some d.1 d.2.1 d.2.2.1) (by kernel_rfl) hy)
def Φ58_1 (L N : Nat) : Tells := (addO (Φ83 L N) 58 (f58_1.ent L N))
theorem Φ58_1_ok (L N : Nat) : TellsOk Try.prog (Φ58_1 L N) := addO_ok (Φ83_ok L N) (f58_1.ok L N (Φ83_ok L N))
def f71_1.b' {R : Type} (L N : Nat) (k : LM → Option R) (x0 : Int) (x1 : LLM) (x2 : LI) : Option R :=
  (f58_1 L N x2 x0 x1).bind fun y0 =>
  k y0
def f71_1.b {R : Type} (L N : Nat) (k : LM → Option R) (x0 : Int) (x1 : LLM) (x2 : LI) : Option R :=
  f71_1.b' L N k x0 x1 x2
def f71_1 (L N : Nat) (x0 : Int) (x1 : LLM) (x2 : LI) : Option (LM) := f71_1.b L N some x0 x1 x2
def f71_1.ent (L N : Nat) := entDf [(.dat i64), (.pfn 58 [(.imp (.sl (.sl (.st 0))) 0)]), (.imp (.sl i64) 0)] (.one (.sl (.st 0))) fun d => f71_1 L N d.1 d.2.1.1 d.2.2.1
noncomputable def E71_1 (L N : Nat) : Env := { P := Try.prog, ty := tyOf, Φ := (Φ58_1 L N), inl := inlT, live := lives, liveX := livesX, L := L, dp := none, prom := promT, heal := healT, ren := renT }
theorem f71_1.b_eq {R : Type} (L N : Nat) (κ : AV → Option R) (x0 : Int) (x1 : LLM) (x2 : LI) :
    evBody (E71_1 L N) (evCallI (E71_1 L N) 1 2000) 1000 71 Try.f71 [(.tv i64 x0), (.imf 58 [(.imp (.sl (.sl (.st 0))) x1 0)]), (.imp (.sl i64) x2 0)] [] [] (finC (.one (.sl (.st 0))) κ)
    = f71_1.b L N (fun a0 => κ (.tv (.sl (.st 0)) a0)) x0 x1 x2 := by kernel_rfl
theorem f71_1.ok (L N : Nat) (hΦ : TellsOk Try.prog ((Φ58_1 L N))) : EntOkO Try.prog 71 (f71_1.ent L N) := entDf_ok (E := (E71_1 L N)) (dep := 1000) (f := Try.f71) (sound_of hΦ) okP (callI_sound (sound_of hΦ) okP 1 2000) rfl fun d _ hy => (f71_1.b_eq L N (unR (.one (.sl (.st 0)))) d.1 d.2.1.1 d.2.2.1).trans (Eq.trans (b := f71_1.b L N some d.1 d.2.1.1 d.2.2.1) (by kernel_rfl) hy)
def Φ71_1 (L N : Nat) : Tells := (addO (Φ58_1 L N) 71 (f71_1.ent L N))
theorem Φ71_1_ok (L N : Nat) : TellsOk Try.prog (Φ71_1 L N) := addO_ok (Φ58_1_ok L N) (f71_1.ok L N (Φ58_1_ok L N))
def f70_1.j0' {R : Type} (L N : Nat) (k1_e2 : LI → LLM → LI → Int → Int → LI → LLM → Option R) (rec1 : LI → LLM → LI → Int → Int → Int → Int → LI → LLM → Option R) (v26 : LI) (v27 : LLM) (v28 : LI) (v29 : Int) (v30 : Int) (v31 : Int) (v32 : Int) (v33 : Bool) (v34 : LI) (v35 : LLM) : Option R :=
  bif v33 then
    bif (decide (0 ≤ v29) && decide (v29 < (v34.length : Int))) then
      k1_e2 v26 v27 v28 v31 v32 (v34.set v29.toNat v30) v35
    else none
  else rec1 v26 v27 v28 v29 (wi (v30 + (1 : Int))) v31 v32 v34 v35
def f70_1.s1' {R : Type} (L N : Nat) (k1_e2 : LI → LLM → LI → Int → Int → LI → LLM → Option R) (rec1 : LI → LLM → LI → Int → Int → Int → Int → LI → LLM → Option R) (s9 : LI) (s10 : LLM) (s11 : LI) (s12 : Int) (s13 : Int) (s14 : Int) (s15 : Int) (s16 : LI) (s17 : LLM) : Option R :=
  bif (decide (s13 < s12)) then
    bif (decide (0 ≤ s13) && decide (s13 < (s9.length : Int))) then
      bif (decide (0 ≤ s12) && decide (s12 < (s9.length : Int))) then
        bif ((listAt s9 (0 : Int) s13.toNat) == (listAt s9 (0 : Int) s12.toNat)) then
          bif (decide (0 ≤ s13) && decide (s13 < (s17.length : Int))) then
            bif (decide (0 ≤ s12) && decide (s12 < (s17.length : Int))) then
              (f83 L N (listAt s17 [] s13.toNat) (listAt s17 [] s12.toNat)).bind fun y25 =>
              f70_1.j0' L N k1_e2 rec1 s9 s10 s11 s12 s13 s14 s15 y25 s16 s17
            else none
          else none
        else f70_1.j0' L N k1_e2 rec1 s9 s10 s11 s12 s13 s14 s15 false s16 s17
      else none
    else none
  else k1_e2 s9 s10 s11 s14 s15 s16 s17
def f70_1.s1 {R : Type} (L N : Nat) (k1_e2 : LI → LLM → LI → Int → Int → LI → LLM → Option R) (rec1 : LI → LLM → LI → Int → Int → Int → Int → LI → LLM → Option R) (s9 : LI) (s10 : LLM) (s11 : LI) (s12 : Int) (s13 : Int) (s14 : Int) (s15 : Int) (s16 : LI) (s17 : LLM) : Option R :=
  f70_1.s1' L N k1_e2 rec1 s9 s10 s11 s12 s13 s14 s15 s16 s17
def f70_1.l1 {R : Type} (L N : Nat) (k1_e2 : LI → LLM → LI → Int → Int → LI → LLM → Option R) : Nat → LI → LLM → LI → Int → Int → Int → Int → LI → LLM → Option R
  | 0, _, _, _, _, _, _, _, _, _ => none
  | n + 1, s9, s10, s11, s12, s13, s14, s15, s16, s17 => f70_1.s1 L N k1_e2 (f70_1.l1 L N k1_e2 n) s9 s10 s11 s12 s13 s14 s15 s16 s17
def f70_1.T1 (s9 : LI) (s10 : LLM) (s11 : LI) (s12 : Int) (s13 : Int) (s14 : Int) (s15 : Int) (s16 : LI) (s17 : LLM) : T := mkT 61 [(0, (.tv (.sl i64) s9)), (1, (.fn 71 [(.imf 58 [(.imp (.sl (.sl (.st 0))) s10 0)]), (.imp (.sl i64) s11 0)])), (5, (.row 1011)), (6, (.row 1014)), (7, (.tv i64 s12)), (8, (.tv i64 s13)), (16, (.tv i64 s14)), (17, (.tv i64 s15))]
def f70_1.H1 (s9 : LI) (s10 : LLM) (s11 : LI) (s12 : Int) (s13 : Int) (s14 : Int) (s15 : Int) (s16 : LI) (s17 : LLM) : H := [(1011, (.row 3 i64 s16)), (1014, (.row 70 (.sl (.st 0)) s17))]
def f70_1.T1_e2 (z18 : LI) (z19 : LLM) (z20 : LI) (z21 : Int) (z22 : Int) (z23 : LI) (z24 : LLM) : T := mkT 61 [(0, (.tv (.sl i64) z18)), (1, (.fn 71 [(.imf 58 [(.imp (.sl (.sl (.st 0))) z19 0)]), (.imp (.sl i64) z20 0)])), (5, (.row 1011)), (6, (.row 1014)), (16, (.tv i64 z21)), (17, (.tv i64 z22))]
def f70_1.H1_e2 (z18 : LI) (z19 : LLM) (z20 : LI) (z21 : Int) (z22 : Int) (z23 : LI) (z24 : LLM) : H := [(1011, (.row 3 i64 z23)), (1014, (.row 70 (.sl (.st 0)) z24))]
def f70_1.p1_e2' {R : Type} (L N : Nat) (k0_e0 : LI → Option R) (rec0 : LI → LLM → LI → Int → Int → LI → LLM → Option R) (z18 : LI) (z19 : LLM) (z20 : LI) (z21 : Int) (z22 : Int) (z23 : LI) (z24 : LLM) : Option R :=
  rec0 z18 z19 z20 z21 (wi (z22 + (1 : Int))) z23 z24
def f70_1.p1_e2 {R : Type} (L N : Nat) (k0_e0 : LI → Option R) (rec0 : LI → LLM → LI → Int → Int → LI → LLM → Option R) (z18 : LI) (z19 : LLM) (z20 : LI) (z21 : Int) (z22 : Int) (z23 : LI) (z24 : LLM) : Option R :=
  f70_1.p1_e2' L N k0_e0 rec0 z18 z19 z20 z21 z22 z23 z24
def f70_1.s0' {R : Type} (L N : Nat) (k0_e0 : LI → Option R) (rec0 : LI → LLM → LI → Int → Int → LI → LLM → Option R) (w1 : LI → LLM → LI → Int → Int → Int → Int → LI → LLM → Option R) (s0 : LI) (s1 : LLM) (s2 : LI) (s3 : Int) (s4 : Int) (s5 : LI) (s6 : LLM) : Option R :=
  bif (decide (s4 < s3)) then
    (f71_1 L N s4 s1 s2).bind fun y8 =>
    bif (decide (0 ≤ s4) && decide (s4 < (s6.length : Int))) then
      bif (decide (0 ≤ s4) && decide (s4 < (s5.length : Int))) then
        w1 s0 s1 s2 s4 (0 : Int) s3 s4 (s5.set s4.toNat s4) (s6.set s4.toNat y8)
      else none
    else none
  else k0_e0 s5
def f70_1.s0 {R : Type} (L N : Nat) (k0_e0 : LI → Option R) (rec0 : LI → LLM → LI → Int → Int → LI → LLM → Option R) (s0 : LI) (s1 : LLM) (s2 : LI) (s3 : Int) (s4 : Int) (s5 : LI) (s6 : LLM) : Option R :=
  f70_1.s0' L N k0_e0 rec0 (fun s9 s10 s11 s12 s13 s14 s15 s16 s17 => f70_1.l1 L N (fun z18 z19 z20 z21 z22 z23 z24 => f70_1.p1_e2 L N k0_e0 rec0 z18 z19 z20 z21 z22 z23 z24) L s9 s10 s11 s12 s13 s14 s15 s16 s17) s0 s1 s2 s3 s4 s5 s6
def f70_1.l0 {R : Type} (L N : Nat) (k0_e0 : LI → Option R) : Nat → LI → LLM → LI → Int → Int → LI → LLM → Option R
  | 0, _, _, _, _, _, _, _ => none
  | n + 1, s0, s1, s2, s3, s4, s5, s6 => f70_1.s0 L N k0_e0 (f70_1.l0 L N k0_e0 n) s0 s1 s2 s3 s4 s5 s6
def f70_1.T0 (s0 : LI) (s1 : LLM) (s2 : LI) (s3 : Int) (s4 : Int) (s5 : LI) (s6 : LLM) : T := mkT 61 [(0, (.tv (.sl i64) s0)), (1, (.fn 71 [(.imf 58 [(.imp (.sl (.sl (.st 0))) s1 0)]), (.imp (.sl i64) s2 0)])), (5, (.row 1011)), (6, (.row 1014)), (16, (.tv i64 s3)), (17, (.tv i64 s4))]
def f70_1.H0 (s0 : LI) (s1 : LLM) (s2 : LI) (s3 : Int) (s4 : Int) (s5 : LI) (s6 : LLM) : H := [(1011, (.row 3 i64 s5)), (1014, (.row 70 (.sl (.st 0)) s6))]
def f70_1.T0_e0 (z7 : LI) : T := mkT 61 [(5, (.row 1011))]
def f70_1.H0_e0 (z7 : LI) : H := [(1011, (.row 3 i64 z7))]
def f70_1.p0_e0' {R : Type} (L N : Nat) (k : LI → Option R) (z7 : LI) : Option R :=
  k z7
def f70_1.p0_e0 {R : Type} (L N : Nat) (k : LI → Option R) (z7 : LI) : Option R :=
  f70_1.p0_e0' L N k z7
def f70_1.b' {R : Type} (L N : Nat) (k : LI → Option R) (w0 : LI → LLM → LI → Int → Int → LI → LLM → Option R) (x0 : LI) (x1 : LLM) (x2 : LI) : Option R :=
  bif (decide (0 ≤ (x0.length : Int)) && decide ((x0.length : Int) ≤ (lim : Int))) then
    bif (decide (0 ≤ (x0.length : Int)) && decide ((x0.length : Int) ≤ (lim : Int))) then
      w0 x0 x1 x2 (x0.length : Int) (0 : Int) (List.replicate (x0.length : Int).toNat (0 : Int)) (List.replicate (x0.length : Int).toNat [])
    else none
  else none
def f70_1.b {R : Type} (L N : Nat) (k : LI → Option R) (x0 : LI) (x1 : LLM) (x2 : LI) : Option R :=
  f70_1.b' L N k (fun s0 s1 s2 s3 s4 s5 s6 => f70_1.l0 L N (fun z7 => f70_1.p0_e0 L N k z7) L s0 s1 s2 s3 s4 s5 s6) x0 x1 x2
def f70_1 (L N : Nat) (x0 : LI) (x1 : LLM) (x2 : LI) : Option (LI) := f70_1.b L N some x0 x1 x2
def f70_1.ent (L N : Nat) (args : List AV) (vw : View) (site : Nat) : Option Ans := match shD [(.dat (.sl i64)), (.fn 71 [(.pfn 58 [(.imp (.sl (.sl (.st 0))) 0)]), (.imp (.sl i64) 0)])] vw args with
  | some d => some ⟨LI, f70_1 L N d.1 d.2.1.1.1 d.2.1.2.1, fun y => (RN.av site .row (), [(site, some (mkO none 3 i64 y))], [])⟩
  | none => none
noncomputable def E70_1 (L N : Nat) : Env := { P := Try.prog, ty := tyOf, Φ := (Φ71_1 L N), inl := inlT, live := lives, liveX := livesX, L := L, dp := none, prom := promT, heal := healT, ren := renT }
noncomputable def f70_1.c0 : Code := loopAt 0 (codeOf Try.f70)
noncomputable def f70_1.c1 : Code := loopAt 2 f70_1.c0
def f70_1.X1_e2 {R : Type} (κ : KX R) := fun z18 z19 z20 z21 z22 z23 z24 => κ (.exit 2) (f70_1.T1_e2 z18 z19 z20 z21 z22 z23 z24) (f70_1.H1_e2 z18 z19 z20 z21 z22 z23 z24)
def f70_1.R1 {R : Type} (rec : KT R) := fun s9 s10 s11 s12 s13 s14 s15 s16 s17 => rec (f70_1.T1 s9 s10 s11 s12 s13 s14 s15 s16 s17) (f70_1.H1 s9 s10 s11 s12 s13 s14 s15 s16 s17)
theorem f70_1.s1_eq {R : Type} (L N : Nat) (κ : KX R) (rec : KT R) (s9 : LI) (s10 : LLM) (s11 : LI) (s12 : Int) (s13 : Int) (s14 : Int) (s15 : Int) (s16 : LI) (s17 : LLM) :
    evRd (E70_1 L N) (evCallI (E70_1 L N) 1 2000) 1000 70 61 2 f70_1.c1 κ rec (f70_1.T1 s9 s10 s11 s12 s13 s14 s15 s16 s17) (f70_1.H1 s9 s10 s11 s12 s13 s14 s15 s16 s17)
    = f70_1.s1 L N (f70_1.X1_e2 κ) (f70_1.R1 rec) s9 s10 s11 s12 s13 s14 s15 s16 s17 := by kernel_rfl
theorem f70_1.l1_eq {R : Type} (L N : Nat) (κ : KX R) : ∀ (n : Nat) (s9 : LI) (s10 : LLM) (s11 : LI) (s12 : Int) (s13 : Int) (s14 : Int) (s15 : Int) (s16 : LI) (s17 : LLM),
    evLp (E70_1 L N) (evCallI (E70_1 L N) 1 2000) 1000 70 61 2 f70_1.c1 κ n (f70_1.T1 s9 s10 s11 s12 s13 s14 s15 s16 s17) (f70_1.H1 s9 s10 s11 s12 s13 s14 s15 s16 s17)
    = f70_1.l1 L N (f70_1.X1_e2 κ) n s9 s10 s11 s12 s13 s14 s15 s16 s17 := by
  intro n
  induction n with
  | zero => intros; rfl
  | succ n ih =>
    intro s9 s10 s11 s12 s13 s14 s15 s16 s17
    rw [evLp_succ, f70_1.s1_eq]
    delta f70_1.R1
    simp only [ih]
    rfl
def f70_1.X0_e0 {R : Type} (κ : KX R) := fun z7 => κ (.exit 0) (f70_1.T0_e0 z7) (f70_1.H0_e0 z7)
def f70_1.R0 {R : Type} (rec : KT R) := fun s0 s1 s2 s3 s4 s5 s6 => rec (f70_1.T0 s0 s1 s2 s3 s4 s5 s6) (f70_1.H0 s0 s1 s2 s3 s4 s5 s6)
theorem f70_1.p1_e2_eq {R : Type} (L N : Nat) (κ : KX R) (rec : KT R) (z18 : LI) (z19 : LLM) (z20 : LI) (z21 : Int) (z22 : Int) (z23 : LI) (z24 : LLM) :
    (contAt (E70_1 L N) (evCallI (E70_1 L N) 1 2000) 1000 70 61 2 f70_1.c0 (rdK (E70_1 L N) 1000 70 61 0 κ rec)) (.exit 2) (f70_1.T1_e2 z18 z19 z20 z21 z22 z23 z24) (f70_1.H1_e2 z18 z19 z20 z21 z22 z23 z24)
    = f70_1.p1_e2 L N (f70_1.X0_e0 κ) (f70_1.R0 rec) z18 z19 z20 z21 z22 z23 z24 := by kernel_rfl
theorem f70_1.s0_eq {R : Type} (L N : Nat) (κ : KX R) (rec : KT R) (s0 : LI) (s1 : LLM) (s2 : LI) (s3 : Int) (s4 : Int) (s5 : LI) (s6 : LLM) :
    evRd (E70_1 L N) (evCallI (E70_1 L N) 1 2000) 1000 70 61 0 f70_1.c0 κ rec (f70_1.T0 s0 s1 s2 s3 s4 s5 s6) (f70_1.H0 s0 s1 s2 s3 s4 s5 s6)
    = f70_1.s0 L N (f70_1.X0_e0 κ) (f70_1.R0 rec) s0 s1 s2 s3 s4 s5 s6 := by
  refine Eq.trans (b := f70_1.s0' L N (f70_1.X0_e0 κ) (f70_1.R0 rec) (fun s9 s10 s11 s12 s13 s14 s15 s16 s17 => evLp (E70_1 L N) (evCallI (E70_1 L N) 1 2000) 1000 70 61 2 f70_1.c1 (contAt (E70_1 L N) (evCallI (E70_1 L N) 1 2000) 1000 70 61 2 f70_1.c0 (rdK (E70_1 L N) 1000 70 61 0 κ rec)) L (f70_1.T1 s9 s10 s11 s12 s13 s14 s15 s16 s17) (f70_1.H1 s9 s10 s11 s12 s13 s14 s15 s16 s17)) s0 s1 s2 s3 s4 s5 s6) (by kernel_rfl) ?_
  unfold f70_1.s0
  simp only [f70_1.l1_eq]
  delta f70_1.X1_e2
  simp only [f70_1.p1_e2_eq]
theorem f70_1.l0_eq {R : Type} (L N : Nat) (κ : KX R) : ∀ (n : Nat) (s0 : LI) (s1 : LLM) (s2 : LI) (s3 : Int) (s4 : Int) (s5 : LI) (s6 : LLM),
    evLp (E70_1 L N) (evCallI (E70_1 L N) 1 2000) 1000 70 61 0 f70_1.c0 κ n (f70_1.T0 s0 s1 s2 s3 s4 s5 s6) (f70_1.H0 s0 s1 s2 s3 s4 s5 s6)
    = f70_1.l0 L N (f70_1.X0_e0 κ) n s0 s1 s2 s3 s4 s5 s6 := by
  intro n
  induction n with
  | zero => intros; rfl
  | succ n ih =>
    intro s0 s1 s2 s3 s4 s5 s6
    rw [evLp_succ, f70_1.s0_eq]
    delta f70_1.R0
    simp only [ih]
    rfl
theorem f70_1.p0_e0_eq {R : Type} (L N : Nat) (κ : RN.Den .row → List Int → Option R) (z7 : LI) :
    (contAt (E70_1 L N) (evCallI (E70_1 L N) 1 2000) 1000 70 61 0 (codeOf Try.f70) (finK (E70_1 L N) 1000 Try.f70 (finN .row none 3 i64 κ))) (.exit 0) (f70_1.T0_e0 z7) (f70_1.H0_e0 z7)
    = f70_1.p0_e0 L N (fun a0 => κ () a0) z7 := by kernel_rfl
theorem f70_1.b_eq {R : Type} (L N : Nat) (κ : RN.Den .row → List Int → Option R) (x0 : LI) (x1 : LLM) (x2 : LI) :
    evBody (E70_1 L N) (evCallI (E70_1 L N) 1 2000) 1000 70 Try.f70 [(.tv (.sl i64) x0), (.fn 71 [(.imf 58 [(.imp (.sl (.sl (.st 0))) x1 0)]), (.imp (.sl i64) x2 0)])] [] [] (finN .row none 3 i64 κ)
    = f70_1.b L N (fun a0 => κ () a0) x0 x1 x2 := by
  refine Eq.trans (b := f70_1.b' L N (fun a0 => κ () a0) (fun s0 s1 s2 s3 s4 s5 s6 => evLp (E70_1 L N) (evCallI (E70_1 L N) 1 2000) 1000 70 61 0 f70_1.c0 (contAt (E70_1 L N) (evCallI (E70_1 L N) 1 2000) 1000 70 61 0 (codeOf Try.f70) (finK (E70_1 L N) 1000 Try.f70 (finN .row none 3 i64 κ))) L (f70_1.T0 s0 s1 s2 s3 s4 s5 s6) (f70_1.H0 s0 s1 s2 s3 s4 s5 s6)) x0 x1 x2) (by kernel_rfl) ?_
  unfold f70_1.b
  simp only [f70_1.l0_eq]
  delta f70_1.X0_e0
  simp only [f70_1.p0_e0_eq]
theorem f70_1.ok (L N : Nat) (hΦ : TellsOk Try.prog ((Φ71_1 L N))) : EntOkO Try.prog 70 (f70_1.ent L N) := by
  intro args vw site h a ha
  unfold f70_1.ent at ha
  split at ha
  · rename_i d hd
    obtain rfl := Option.some.inj ha
    intro y hy hs
    refine call_ronF (y := y) (dep := 1000) (E := (E70_1 L N)) (rn := .row) (q := none) (el := 3) (ty := i64) (d1 := ()) (xs := y) (κ := (fun d xs => some xs)) (sound_of hΦ) okP (callI_sound (sound_of hΦ) okP 1 2000) (f := Try.f70) rfl hs hd ?_ (fun _ _ h => by obtain rfl := Option.some.inj h; exact ⟨rfl, rfl⟩) rfl site
    exact (f70_1.b_eq L N (fun d xs => some xs) d.1 d.2.1.1.1 d.2.1.2.1).trans (Eq.trans (b := f70_1.b L N some d.1 d.2.1.1.1 d.2.1.2.1) (by kernel_rfl) hy)
  · cases ha
def Φ70_1 (L N : Nat) : Tells := (addO (Φ71_1 L N) 70 (f70_1.ent L N))
theorem Φ70_1_ok (L N : Nat) : TellsOk Try.prog (Φ70_1 L N) := addO_ok (Φ71_1_ok L N) (f70_1.ok L N (Φ71_1_ok L N))
def f57_1.s0' {R : Type} (L N : Nat) (k0_r : LLI → Option R) (rec0 : LLM → LLI → Option R) (s0 : LLM) (s1 : LLI) : Option R :=
  bif (decide (0 ≤ (wi ((s1.length : Int) - (1 : Int)))) && decide ((wi ((s1.length : Int) - (1 : Int))) < (s1.length : Int))) then
    (f70_1 L N (listAt s1 [] (wi ((s1.length : Int) - (1 : Int))).toNat) s0 (listAt s1 [] (wi ((s1.length : Int) - (1 : Int))).toNat)).bind fun y2 =>
    (f72 L N y2 (listAt s1 [] (wi ((s1.length : Int) - (1 : Int))).toNat)).bind fun y3 =>
    bif y3 then
      k0_r s1
    else bif (decide (s1.length + ([y2] : LLI).length ≤ lim)) then
      rec0 s0 (s1 ++ ([y2] : LLI))
    else none
  else none
def f57_1.s0 {R : Type} (L N : Nat) (k0_r : LLI → Option R) (rec0 : LLM → LLI → Option R) (s0 : LLM) (s1 : LLI) : Option R :=
  f57_1.s0' L N k0_r rec0 s0 s1
def f57_1.l0 {R : Type} (L N : Nat) (k0_r : LLI → Option R) : Nat → LLM → LLI → Option R
  | 0, _, _ => none
  | n + 1, s0, s1 => f57_1.s0 L N k0_r (f57_1.l0 L N k0_r n) s0 s1
def f57_1.T0 (s0 : LLM) (s1 : LLI) : T := mkT 28 [(3, (.ptr 1003 0)), (5, (.row 1010))]
def f57_1.H0 (s0 : LLM) (s1 : LLI) : H := [(1003, (.box [(.fn 58 [(.imp (.sl (.sl (.st 0))) s0 0)])])), (1010, (.row 43 (.sl i64) s1))]
def f57_1.T0_r (z4 : LLI) : T := mkT 28 [(4, (.row 1010))]
def f57_1.H0_r (z4 : LLI) : H := [(1010, (.row 43 (.sl i64) z4))]
def f57_1.p0_r' {R : Type} (L N : Nat) (k : LLI → Option R) (z4 : LLI) : Option R :=
  k z4
def f57_1.p0_r {R : Type} (L N : Nat) (k : LLI → Option R) (z4 : LLI) : Option R :=
  f57_1.p0_r' L N k z4
def f57_1.b' {R : Type} (L N : Nat) (k : LLI → Option R) (w0 : LLM → LLI → Option R) (x0 : Int) (x1 : LLM) : Option R :=
  bif (decide (0 ≤ x0) && decide (x0 ≤ (lim : Int))) then
    w0 x1 ([(List.replicate x0.toNat (0 : Int))] : LLI)
  else none
def f57_1.b {R : Type} (L N : Nat) (k : LLI → Option R) (x0 : Int) (x1 : LLM) : Option R :=
  f57_1.b' L N k (fun s0 s1 => f57_1.l0 L N (fun z4 => f57_1.p0_r L N k z4) L s0 s1) x0 x1
def f57_1 (L N : Nat) (x0 : Int) (x1 : LLM) : Option (LLI) := f57_1.b L N some x0 x1
def f57_1.ent (L N : Nat) := entDf [(.dat i64), (.fn 58 [(.imp (.sl (.sl (.st 0))) 0)])] (.one (.sl (.sl i64))) fun d => f57_1 L N d.1 d.2.1.1
noncomputable def E57_1 (L N : Nat) : Env := { P := Try.prog, ty := tyOf, Φ := (Φ70_1 L N), inl := inlT, live := lives, liveX := livesX, L := L, dp := none, prom := promT, heal := healT, ren := renT }
noncomputable def f57_1.c0 : Code := loopAt 0 (codeOf Try.f57)
def f57_1.X0_r {R : Type} (κ : KX R) := fun z4 => κ .ret (f57_1.T0_r z4) (f57_1.H0_r z4)
def f57_1.R0 {R : Type} (rec : KT R) := fun s0 s1 => rec (f57_1.T0 s0 s1) (f57_1.H0 s0 s1)
theorem f57_1.s0_eq {R : Type} (L N : Nat) (κ : KX R) (rec : KT R) (s0 : LLM) (s1 : LLI) :
    evRd (E57_1 L N) (evCallI (E57_1 L N) 1 2000) 1000 57 28 0 f57_1.c0 κ rec (f57_1.T0 s0 s1) (f57_1.H0 s0 s1)
    = f57_1.s0 L N (f57_1.X0_r κ) (f57_1.R0 rec) s0 s1 := by kernel_rfl
theorem f57_1.l0_eq {R : Type} (L N : Nat) (κ : KX R) : ∀ (n : Nat) (s0 : LLM) (s1 : LLI),
    evLp (E57_1 L N) (evCallI (E57_1 L N) 1 2000) 1000 57 28 0 f57_1.c0 κ n (f57_1.T0 s0 s1) (f57_1.H0 s0 s1)
    = f57_1.l0 L N (f57_1.X0_r κ) n s0 s1 := by
  intro n
  induction n with
  | zero => intros; rfl
  | succ n ih =>
    intro s0 s1
    rw [evLp_succ, f57_1.s0_eq]
    delta f57_1.R0
    simp only [ih]
    rfl
theorem f57_1.p0_r_eq {R : Type} (L N : Nat) (κ : AV → Option R) (z4 : LLI) :
    (contAt (E57_1 L N) (evCallI (E57_1 L N) 1 2000) 1000 57 28 0 (codeOf Try.f57) (finK (E57_1 L N) 1000 Try.f57 (finC (.one (.sl (.sl i64))) κ))) .ret (f57_1.T0_r z4) (f57_1.H0_r z4)
    = f57_1.p0_r L N (fun a0 => κ (.tv (.sl (.sl i64)) a0)) z4 := by kernel_rfl
theorem f57_1.b_eq {R : Type} (L N : Nat) (κ : AV → Option R) (x0 : Int) (x1 : LLM) :
    evBody (E57_1 L N) (evCallI (E57_1 L N) 1 2000) 1000 57 Try.f57 [(.tv i64 x0), (.fn 58 [(.imp (.sl (.sl (.st 0))) x1 0)])] [] [] (finC (.one (.sl (.sl i64))) κ)
    = f57_1.b L N (fun a0 => κ (.tv (.sl (.sl i64)) a0)) x0 x1 := by
  refine Eq.trans (b := f57_1.b' L N (fun a0 => κ (.tv (.sl (.sl i64)) a0)) (fun s0 s1 => evLp (E57_1 L N) (evCallI (E57_1 L N) 1 2000) 1000 57 28 0 f57_1.c0 (contAt (E57_1 L N) (evCallI (E57_1 L N) 1 2000) 1000 57 28 0 (codeOf Try.f57) (finK (E57_1 L N) 1000 Try.f57 (finC (.one (.sl (.sl i64))) κ))) L (f57_1.T0 s0 s1) (f57_1.H0 s0 s1)) x0 x1) (by kernel_rfl) ?_
  unfold f57_1.b
  simp only [f57_1.l0_eq]
  delta f57_1.X0_r
  simp only [f57_1.p0_r_eq]
theorem f57_1.ok (L N : Nat) (hΦ : TellsOk Try.prog ((Φ70_1 L N))) : EntOkO Try.prog 57 (f57_1.ent L N) := entDf_ok (E := (E57_1 L N)) (dep := 1000) (f := Try.f57) (sound_of hΦ) okP (callI_sound (sound_of hΦ) okP 1 2000) rfl fun d _ hy => (f57_1.b_eq L N (unR (.one (.sl (.sl i64)))) d.1 d.2.1.1).trans (Eq.trans (b := f57_1.b L N some d.1 d.2.1.1) (by kernel_rfl) hy)
def Φ57_1 (L N : Nat) : Tells := (addO (Φ70_1 L N) 57 (f57_1.ent L N))
theorem Φ57_1_ok (L N : Nat) : TellsOk Try.prog (Φ57_1 L N) := addO_ok (Φ70_1_ok L N) (f57_1.ok L N (Φ70_1_ok L N))
def f32.b' {R : Type} (L N : Nat) (k : LLI → Option R) (x0 : Graph) : Option R :=
  (f57_1 L N (x0.moves.length : Int) x0.moves).bind fun y0 =>
  k y0
def f32.b {R : Type} (L N : Nat) (k : LLI → Option R) (x0 : Graph) : Option R :=
  f32.b' L N k x0
def f32 (L N : Nat) (x0 : Graph) : Option (LLI) := f32.b L N some x0
def f32.ent (L N : Nat) := entDa [(.st 2)] (.one (.sl (.sl i64))) fun d => f32 L N d.1
noncomputable def E32 (L N : Nat) : Env := { P := Try.prog, ty := tyOf, Φ := (Φ57_1 L N), inl := inlT, live := lives, liveX := livesX, L := L, dp := none, prom := promT, heal := healT, ren := renT }
theorem f32.b_eq {R : Type} (L N : Nat) (κ : AV → Option R) (x0 : Graph) :
    evBody (E32 L N) (evCallI (E32 L N) 1 2000) 1000 32 Try.f32 [(.tv (.st 2) x0)] [] [] (finC (.one (.sl (.sl i64))) κ)
    = f32.b L N (fun a0 => κ (.tv (.sl (.sl i64)) a0)) x0 := by kernel_rfl
theorem f32.ok (L N : Nat) (hΦ : TellsOk Try.prog ((Φ57_1 L N))) : EntOk Try.prog 32 (f32.ent L N) := entDa_ok (E := (E32 L N)) (dep := 1000) (f := Try.f32) (sound_of hΦ) okP (callI_sound (sound_of hΦ) okP 1 2000) rfl fun d _ hy => (f32.b_eq L N (unR (.one (.sl (.sl i64)))) d.1).trans (Eq.trans (b := f32.b L N some d.1) (by kernel_rfl) hy)
def Φ32 (L N : Nat) : Tells := (addT (Φ57_1 L N) 32 (f32.ent L N))
theorem Φ32_ok (L N : Nat) : TellsOk Try.prog (Φ32 L N) := addT_ok (Φ57_1_ok L N) (f32.ok L N (Φ57_1_ok L N))
def f44.s0' {R : Type} (L N : Nat) (self44 : Tree → Int → Option (Int)) (k0_e0 : Int → Option R) (k0_r : Int → Int → Option R) (rec0 : Int → Int → LT → Int → Int → Option R) (s0 : Int) (s1 : Int) (s2 : LT) (s3 : Int) (s4 : Int) : Option R :=
  bif (decide (s4 < s3)) then
    bif (decide (0 ≤ s4) && decide (s4 < (s2.length : Int))) then
      bif (decide (s1 > s0)) then
        k0_r s1 s1
      else (self44 (Tree.mk ((listAt s2 (Ty.dflt (.st 1)) s4.toNat).op) ((listAt s2 (Ty.dflt (.st 1)) s4.toNat).n) ((listAt s2 (Ty.dflt (.st 1)) s4.toNat).parts)) (wi (s0 - s1))).bind fun y8 =>
      rec0 s0 (wi (s1 + y8)) s2 s3 (wi (s4 + (1 : Int)))
    else none
  else k0_e0 s1
def f44.s0 {R : Type} (L N : Nat) (self44 : Tree → Int → Option (Int)) (k0_e0 : Int → Option R) (k0_r : Int → Int → Option R) (rec0 : Int → Int → LT → Int → Int → Option R) (s0 : Int) (s1 : Int) (s2 : LT) (s3 : Int) (s4 : Int) : Option R :=
  f44.s0' L N self44 k0_e0 k0_r rec0 s0 s1 s2 s3 s4
def f44.l0 {R : Type} (L N : Nat) (self44 : Tree → Int → Option (Int)) (k0_e0 : Int → Option R) (k0_r : Int → Int → Option R) : Nat → Int → Int → LT → Int → Int → Option R
  | 0, _, _, _, _, _ => none
  | n + 1, s0, s1, s2, s3, s4 => f44.s0 L N self44 k0_e0 k0_r (f44.l0 L N self44 k0_e0 k0_r n) s0 s1 s2 s3 s4
def f44.T0 (s0 : Int) (s1 : Int) (s2 : LT) (s3 : Int) (s4 : Int) : T := mkT 28 [(1, (.tv i64 s0)), (5, (.tv i64 s1)), (9, (.tv (.sl (.st 1)) s2)), (10, (.tv i64 s3)), (11, (.tv i64 s4))]
def f44.H0 (s0 : Int) (s1 : Int) (s2 : LT) (s3 : Int) (s4 : Int) : H := []
def f44.T0_e0 (z5 : Int) : T := mkT 28 [(5, (.tv i64 z5))]
def f44.H0_e0 (z5 : Int) : H := []
def f44.T0_r (z6 : Int) (z7 : Int) : T := mkT 28 [(4, (.tv i64 z6)), (5, (.tv i64 z7))]
def f44.H0_r (z6 : Int) (z7 : Int) : H := []
def f44.p0_e0' {R : Type} (L N : Nat) (self44 : Tree → Int → Option (Int)) (k : Int → Option R) (z5 : Int) : Option R :=
  k z5
def f44.p0_e0 {R : Type} (L N : Nat) (self44 : Tree → Int → Option (Int)) (k : Int → Option R) (z5 : Int) : Option R :=
  f44.p0_e0' L N self44 k z5
def f44.p0_r' {R : Type} (L N : Nat) (self44 : Tree → Int → Option (Int)) (k : Int → Option R) (z6 : Int) (z7 : Int) : Option R :=
  k z6
def f44.p0_r {R : Type} (L N : Nat) (self44 : Tree → Int → Option (Int)) (k : Int → Option R) (z6 : Int) (z7 : Int) : Option R :=
  f44.p0_r' L N self44 k z6 z7
def f44.b' {R : Type} (L N : Nat) (self44 : Tree → Int → Option (Int)) (k : Int → Option R) (w0 : Int → Int → LT → Int → Int → Option R) (x0 : Tree) (x1 : Int) : Option R :=
  w0 x1 (1 : Int) x0.parts (x0.parts.length : Int) (0 : Int)
def f44.b {R : Type} (L N : Nat) (self44 : Tree → Int → Option (Int)) (k : Int → Option R) (x0 : Tree) (x1 : Int) : Option R :=
  f44.b' L N self44 k (fun s0 s1 s2 s3 s4 => f44.l0 L N self44 (fun z5 => f44.p0_e0 L N self44 k z5) (fun z6 z7 => f44.p0_r L N self44 k z6 z7) L s0 s1 s2 s3 s4) x0 x1
def f44 (L N : Nat) : Nat → Tree → Int → Option (Int)
  | 0, _, _ => none
  | n + 1, x0, x1 => f44.b L N (f44 L N n) some x0 x1
def f44.ent (L N m : Nat) := entRo [(.st 1), i64] (.one i64) fun d => f44 L N m d.1 d.2.1
def Φ44s (L N m : Nat) : Tells := (addT (Φ32 L N) 44 (f44.ent L N m))
noncomputable def E44 (L N m : Nat) : Env := { P := Try.prog, ty := tyOf, Φ := Φ44s L N m, inl := inlT, live := lives, liveX := livesX, L := L, dp := none, prom := promT, heal := healT, ren := renT }
noncomputable def f44.c0 : Code := loopAt 0 (codeOf Try.f44)
def f44.X0_e0 {R : Type} (κ : KX R) := fun z5 => κ (.exit 0) (f44.T0_e0 z5) (f44.H0_e0 z5)
def f44.X0_r {R : Type} (κ : KX R) := fun z6 z7 => κ .ret (f44.T0_r z6 z7) (f44.H0_r z6 z7)
def f44.R0 {R : Type} (rec : KT R) := fun s0 s1 s2 s3 s4 => rec (f44.T0 s0 s1 s2 s3 s4) (f44.H0 s0 s1 s2 s3 s4)
theorem f44.s0_eq {R : Type} (L N m : Nat) (κ : KX R) (rec : KT R) (s0 : Int) (s1 : Int) (s2 : LT) (s3 : Int) (s4 : Int) :
    evRd (E44 L N m) (evCallI (E44 L N m) 1 2000) 1000 44 28 0 f44.c0 κ rec (f44.T0 s0 s1 s2 s3 s4) (f44.H0 s0 s1 s2 s3 s4)
    = f44.s0 L N (f44 L N m) (f44.X0_e0 κ) (f44.X0_r κ) (f44.R0 rec) s0 s1 s2 s3 s4 := by kernel_rfl
theorem f44.l0_eq {R : Type} (L N m : Nat) (κ : KX R) : ∀ (n : Nat) (s0 : Int) (s1 : Int) (s2 : LT) (s3 : Int) (s4 : Int),
    evLp (E44 L N m) (evCallI (E44 L N m) 1 2000) 1000 44 28 0 f44.c0 κ n (f44.T0 s0 s1 s2 s3 s4) (f44.H0 s0 s1 s2 s3 s4)
    = f44.l0 L N (f44 L N m) (f44.X0_e0 κ) (f44.X0_r κ) n s0 s1 s2 s3 s4 := by
  intro n
  induction n with
  | zero => intros; rfl
  | succ n ih =>
    intro s0 s1 s2 s3 s4
    rw [evLp_succ, f44.s0_eq]
    delta f44.R0
    simp only [ih]
    rfl
theorem f44.p0_e0_eq {R : Type} (L N m : Nat) (κ : AV → Option R) (z5 : Int) :
    (contAt (E44 L N m) (evCallI (E44 L N m) 1 2000) 1000 44 28 0 (codeOf Try.f44) (finK (E44 L N m) 1000 Try.f44 (finC (.one i64) κ))) (.exit 0) (f44.T0_e0 z5) (f44.H0_e0 z5)
    = f44.p0_e0 L N (f44 L N m) (fun a0 => κ (.tv i64 a0)) z5 := by kernel_rfl
theorem f44.p0_r_eq {R : Type} (L N m : Nat) (κ : AV → Option R) (z6 : Int) (z7 : Int) :
    (contAt (E44 L N m) (evCallI (E44 L N m) 1 2000) 1000 44 28 0 (codeOf Try.f44) (finK (E44 L N m) 1000 Try.f44 (finC (.one i64) κ))) .ret (f44.T0_r z6 z7) (f44.H0_r z6 z7)
    = f44.p0_r L N (f44 L N m) (fun a0 => κ (.tv i64 a0)) z6 z7 := by kernel_rfl
theorem f44.b_eq {R : Type} (L N m : Nat) (κ : AV → Option R) (x0 : Tree) (x1 : Int) :
    evBody (E44 L N m) (evCallI (E44 L N m) 1 2000) 1000 44 Try.f44 [(.tv (.st 1) x0), (.tv i64 x1)] [] [] (finC (.one i64) κ)
    = f44.b L N (f44 L N m) (fun a0 => κ (.tv i64 a0)) x0 x1 := by
  refine Eq.trans (b := f44.b' L N (f44 L N m) (fun a0 => κ (.tv i64 a0)) (fun s0 s1 s2 s3 s4 => evLp (E44 L N m) (evCallI (E44 L N m) 1 2000) 1000 44 28 0 f44.c0 (contAt (E44 L N m) (evCallI (E44 L N m) 1 2000) 1000 44 28 0 (codeOf Try.f44) (finK (E44 L N m) 1000 Try.f44 (finC (.one i64) κ))) L (f44.T0 s0 s1 s2 s3 s4) (f44.H0 s0 s1 s2 s3 s4)) x0 x1) (by kernel_rfl) ?_
  unfold f44.b
  simp only [f44.l0_eq]
  delta f44.X0_e0 f44.X0_r
  simp only [f44.p0_e0_eq, f44.p0_r_eq]
theorem f44.ok (L N m : Nat) (hΦ : TellsOk Try.prog (Φ44s L N m)) : EntOk Try.prog 44 (f44.ent L N (m + 1)) := entRo_ok (E := (E44 L N m)) (dep := 1000) (f := Try.f44) (sound_of hΦ) okP (callI_sound (sound_of hΦ) okP 1 2000) rfl rfl fun d _ hy => (f44.b_eq L N m (unR (.one i64)) d.1 d.2.1).trans (Eq.trans (b := f44.b L N (f44 L N m) some d.1 d.2.1) (by kernel_rfl) hy)
theorem Φ44s_ok (L N : Nat) : ∀ m, TellsOk Try.prog (Φ44s L N m) := by
  intro m
  induction m with
  | zero => exact (addT_ok (Φ32_ok L N) (entRo_no fun _ => rfl))
  | succ m ih => exact (addT_ok (Φ32_ok L N) (f44.ok L N m ih))
def Φ44 (L N : Nat) : Tells := (addT (Φ32 L N) 44 (f44.ent L N N))
theorem Φ44_ok (L N : Nat) : TellsOk Try.prog (Φ44 L N) := Φ44s_ok L N N
def f33.s0' {R : Type} (L N : Nat) (self33 : Graph → LLI → Int → Int → Option (Int × Int × LT × Bool)) (k0_e0 : LLI → Int → Int → Int → LLM → Int → Int → Option R) (rec0 : LLI → Int → Int → Int → LLM → Int → Int → Option R) (s0 : LLI) (s1 : Int) (s2 : Int) (s3 : Int) (s4 : LLM) (s5 : Int) (s6 : Int) : Option R :=
  bif (decide (0 ≤ s3) && decide (s3 < (s0.length : Int))) then
    bif (decide (0 ≤ s1) && decide (s1 < ((listAt s0 [] s3.toNat).length : Int))) then
      bif (decide (0 ≤ s3) && decide (s3 < (s0.length : Int))) then
        bif (decide (0 ≤ s2) && decide (s2 < ((listAt s0 [] s3.toNat).length : Int))) then
          bif ((listAt (listAt s0 [] s3.toNat) (0 : Int) s1.toNat) == (listAt (listAt s0 [] s3.toNat) (0 : Int) s2.toNat)) then
            rec0 s0 s1 s2 (wi (s3 + (1 : Int))) s4 s5 s6
          else k0_e0 s0 s1 s2 s3 s4 s5 s6
        else none
      else none
    else none
  else none
def f33.s0 {R : Type} (L N : Nat) (self33 : Graph → LLI → Int → Int → Option (Int × Int × LT × Bool)) (k0_e0 : LLI → Int → Int → Int → LLM → Int → Int → Option R) (rec0 : LLI → Int → Int → Int → LLM → Int → Int → Option R) (s0 : LLI) (s1 : Int) (s2 : Int) (s3 : Int) (s4 : LLM) (s5 : Int) (s6 : Int) : Option R :=
  f33.s0' L N self33 k0_e0 rec0 s0 s1 s2 s3 s4 s5 s6
def f33.l0 {R : Type} (L N : Nat) (self33 : Graph → LLI → Int → Int → Option (Int × Int × LT × Bool)) (k0_e0 : LLI → Int → Int → Int → LLM → Int → Int → Option R) : Nat → LLI → Int → Int → Int → LLM → Int → Int → Option R
  | 0, _, _, _, _, _, _, _ => none
  | n + 1, s0, s1, s2, s3, s4, s5, s6 => f33.s0 L N self33 k0_e0 (f33.l0 L N self33 k0_e0 n) s0 s1 s2 s3 s4 s5 s6
def f33.T0 (s0 : LLI) (s1 : Int) (s2 : Int) (s3 : Int) (s4 : LLM) (s5 : Int) (s6 : Int) : T := mkT 162 [(1, (.tv (.sl (.sl i64)) s0)), (2, (.tv i64 s1)), (3, (.tv i64 s2)), (4, (.ptr 1004 0)), (8, (.ptr 1008 0)), (10, (.tv i64 s3))]
def f33.H0 (s0 : LLI) (s1 : Int) (s2 : Int) (s3 : Int) (s4 : LLM) (s5 : Int) (s6 : Int) : H := [(1004, (.box [(.tv (.sl (.sl (.st 0))) s4)])), (1008, (.box [(.tv i64 s5), (.tv i64 s6), .nil]))]
def f33.T0_e0 (z7 : LLI) (z8 : Int) (z9 : Int) (z10 : Int) (z11 : LLM) (z12 : Int) (z13 : Int) : T := mkT 162 [(1, (.tv (.sl (.sl i64)) z7)), (2, (.tv i64 z8)), (3, (.tv i64 z9)), (4, (.ptr 1004 0)), (8, (.ptr 1008 0)), (10, (.tv i64 z10))]
def f33.H0_e0 (z7 : LLI) (z8 : Int) (z9 : Int) (z10 : Int) (z11 : LLM) (z12 : Int) (z13 : Int) : H := [(1004, (.box [(.tv (.sl (.sl (.st 0))) z11)])), (1008, (.box [(.tv i64 z12), (.tv i64 z13), .nil]))]
def f33.s2' {R : Type} (L N : Nat) (self33 : Graph → LLI → Int → Int → Option (Int × Int × LT × Bool)) (k2_e4 : LLI → Int → Int → LI → Bool → LM → Int → Int → LLM → Int → Int → Int → Int → LI → Option R) (rec2 : LLI → Int → Int → LI → Bool → LM → Int → Int → LM → Int → Int → LLM → Int → Int → Int → Int → LI → Option R) (s30 : LLI) (s31 : Int) (s32 : Int) (s33 : LI) (s34 : Bool) (s35 : LM) (s36 : Int) (s37 : Int) (s38 : LM) (s39 : Int) (s40 : Int) (s41 : LLM) (s42 : Int) (s43 : Int) (s44 : Int) (s45 : Int) (s46 : LI) : Option R :=
  bif (decide (s40 < s39)) then
    bif (decide (0 ≤ s40) && decide (s40 < (s38.length : Int))) then
      bif ((listAt s38 (Ty.dflt (.st 0)) s40.toNat).act == s44) then
        bif (decide (s46.length + ([(listAt s38 (Ty.dflt (.st 0)) s40.toNat).to] : LI).length ≤ lim)) then
          bif s34 then
            rec2 s30 s31 s32 s33 true s35 s36 s37 s38 s39 (wi (s40 + (1 : Int))) s41 s42 s43 s44 s45 (s46 ++ ([(listAt s38 (Ty.dflt (.st 0)) s40.toNat).to] : LI))
          else bif (decide (0 ≤ (listAt s38 (Ty.dflt (.st 0)) s40.toNat).to) && decide ((listAt s38 (Ty.dflt (.st 0)) s40.toNat).to < (s33.length : Int))) then
            bif (decide (0 ≤ s45) && decide (s45 < (s33.length : Int))) then
              rec2 s30 s31 s32 s33 ((listAt s33 (0 : Int) ((listAt s38 (Ty.dflt (.st 0)) s40.toNat).to).toNat) == (listAt s33 (0 : Int) s45.toNat)) s35 s36 s37 s38 s39 (wi (s40 + (1 : Int))) s41 s42 s43 s44 s45 (s46 ++ ([(listAt s38 (Ty.dflt (.st 0)) s40.toNat).to] : LI))
            else none
          else none
        else none
      else rec2 s30 s31 s32 s33 s34 s35 s36 s37 s38 s39 (wi (s40 + (1 : Int))) s41 s42 s43 s44 s45 s46
    else none
  else k2_e4 s30 s31 s32 s33 s34 s35 s36 s37 s41 s42 s43 s44 s45 s46
def f33.s2 {R : Type} (L N : Nat) (self33 : Graph → LLI → Int → Int → Option (Int × Int × LT × Bool)) (k2_e4 : LLI → Int → Int → LI → Bool → LM → Int → Int → LLM → Int → Int → Int → Int → LI → Option R) (rec2 : LLI → Int → Int → LI → Bool → LM → Int → Int → LM → Int → Int → LLM → Int → Int → Int → Int → LI → Option R) (s30 : LLI) (s31 : Int) (s32 : Int) (s33 : LI) (s34 : Bool) (s35 : LM) (s36 : Int) (s37 : Int) (s38 : LM) (s39 : Int) (s40 : Int) (s41 : LLM) (s42 : Int) (s43 : Int) (s44 : Int) (s45 : Int) (s46 : LI) : Option R :=
  f33.s2' L N self33 k2_e4 rec2 s30 s31 s32 s33 s34 s35 s36 s37 s38 s39 s40 s41 s42 s43 s44 s45 s46
def f33.l2 {R : Type} (L N : Nat) (self33 : Graph → LLI → Int → Int → Option (Int × Int × LT × Bool)) (k2_e4 : LLI → Int → Int → LI → Bool → LM → Int → Int → LLM → Int → Int → Int → Int → LI → Option R) : Nat → LLI → Int → Int → LI → Bool → LM → Int → Int → LM → Int → Int → LLM → Int → Int → Int → Int → LI → Option R
  | 0, _, _, _, _, _, _, _, _, _, _, _, _, _, _, _, _, _ => none
  | n + 1, s30, s31, s32, s33, s34, s35, s36, s37, s38, s39, s40, s41, s42, s43, s44, s45, s46 => f33.s2 L N self33 k2_e4 (f33.l2 L N self33 k2_e4 n) s30 s31 s32 s33 s34 s35 s36 s37 s38 s39 s40 s41 s42 s43 s44 s45 s46
def f33.T2 (s30 : LLI) (s31 : Int) (s32 : Int) (s33 : LI) (s34 : Bool) (s35 : LM) (s36 : Int) (s37 : Int) (s38 : LM) (s39 : Int) (s40 : Int) (s41 : LLM) (s42 : Int) (s43 : Int) (s44 : Int) (s45 : Int) (s46 : LI) : T := mkT 162 [(1, (.tv (.sl (.sl i64)) s30)), (2, (.tv i64 s31)), (3, (.tv i64 s32)), (4, (.ptr 1004 0)), (8, (.ptr 1008 0)), (11, (.tv (.sl i64) s33)), (13, (.ptr 1013 0)), (14, (.row 1060)), (15, (.tv .bool s34)), (54, (.tv (.sl (.st 0)) s35)), (55, (.tv i64 s36)), (56, (.tv i64 s37)), (65, (.tv (.sl (.st 0)) s38)), (66, (.tv i64 s39)), (67, (.tv i64 s40))]
def f33.H2 (s30 : LLI) (s31 : Int) (s32 : Int) (s33 : LI) (s34 : Bool) (s35 : LM) (s36 : Int) (s37 : Int) (s38 : LM) (s39 : Int) (s40 : Int) (s41 : LLM) (s42 : Int) (s43 : Int) (s44 : Int) (s45 : Int) (s46 : LI) : H := [(1004, (.box [(.tv (.sl (.sl (.st 0))) s41)])), (1008, (.box [(.tv i64 s42), (.tv i64 s43), .nil])), (1013, (.box [(.tv i64 s44), (.tv i64 s45)])), (1060, (.row 3 i64 s46))]
def f33.T2_e4 (z47 : LLI) (z48 : Int) (z49 : Int) (z50 : LI) (z51 : Bool) (z52 : LM) (z53 : Int) (z54 : Int) (z55 : LLM) (z56 : Int) (z57 : Int) (z58 : Int) (z59 : Int) (z60 : LI) : T := mkT 162 [(1, (.tv (.sl (.sl i64)) z47)), (2, (.tv i64 z48)), (3, (.tv i64 z49)), (4, (.ptr 1004 0)), (8, (.ptr 1008 0)), (11, (.tv (.sl i64) z50)), (13, (.ptr 1013 0)), (14, (.row 1060)), (15, (.tv .bool z51)), (54, (.tv (.sl (.st 0)) z52)), (55, (.tv i64 z53)), (56, (.tv i64 z54))]
def f33.H2_e4 (z47 : LLI) (z48 : Int) (z49 : Int) (z50 : LI) (z51 : Bool) (z52 : LM) (z53 : Int) (z54 : Int) (z55 : LLM) (z56 : Int) (z57 : Int) (z58 : Int) (z59 : Int) (z60 : LI) : H := [(1004, (.box [(.tv (.sl (.sl (.st 0))) z55)])), (1008, (.box [(.tv i64 z56), (.tv i64 z57), .nil])), (1013, (.box [(.tv i64 z58), (.tv i64 z59)])), (1060, (.row 3 i64 z60))]
def f33.s3' {R : Type} (L N : Nat) (self33 : Graph → LLI → Int → Int → Option (Int × Int × LT × Bool)) (k3_e6 : Int → Int → Int → Int → Int → Int → LT → Option R) (k3_r : Bool → Int → Int → Int → Int → Int → Int → LT → Option R) (rec3 : LLI → Int → Int → Int → LLM → Int → Int → Int → Int → Int → Int → LI → LT → Option R) (s78 : LLI) (s79 : Int) (s80 : Int) (s81 : Int) (s82 : LLM) (s83 : Int) (s84 : Int) (s85 : Int) (s86 : Int) (s87 : Int) (s88 : Int) (s89 : LI) (s90 : LT) : Option R :=
  bif (decide (s81 < s80)) then
    bif (decide (0 ≤ s81) && decide (s81 < (s89.length : Int))) then
      (self33 (Graph.mk s82) s78 s86 (listAt s89 (0 : Int) s81.toNat)).bind fun y98 =>
      (f44 L N N (Tree.mk y98.1 y98.2.1 y98.2.2.1) (60 : Int)).bind fun y99 =>
      bif (!y98.2.2.2) then
        k3_r false (0 : Int) (0 : Int) s85 s86 s87 s88 s90
      else bif (decide ((wi (s79 + (wi (y99 + (1 : Int))))) > (62 : Int))) then
        k3_r false (0 : Int) (0 : Int) s85 s86 s87 s88 s90
      else bif (s81 == (0 : Int)) then
        rec3 s78 (wi (s79 + (wi (y99 + (1 : Int))))) s80 (wi (s81 + (1 : Int))) s82 s83 s84 s85 s86 y98.1 y98.2.1 s89 y98.2.2.1
      else rec3 s78 (wi (s79 + (wi (y99 + (1 : Int))))) s80 (wi (s81 + (1 : Int))) s82 s83 s84 s85 s86 (2 : Int) (0 : Int) s89 ([(Tree.mk s87 s88 s90), (Tree.mk y98.1 y98.2.1 y98.2.2.1)] : LT)
    else none
  else k3_e6 s83 s84 s85 s86 s87 s88 s90
def f33.s3 {R : Type} (L N : Nat) (self33 : Graph → LLI → Int → Int → Option (Int × Int × LT × Bool)) (k3_e6 : Int → Int → Int → Int → Int → Int → LT → Option R) (k3_r : Bool → Int → Int → Int → Int → Int → Int → LT → Option R) (rec3 : LLI → Int → Int → Int → LLM → Int → Int → Int → Int → Int → Int → LI → LT → Option R) (s78 : LLI) (s79 : Int) (s80 : Int) (s81 : Int) (s82 : LLM) (s83 : Int) (s84 : Int) (s85 : Int) (s86 : Int) (s87 : Int) (s88 : Int) (s89 : LI) (s90 : LT) : Option R :=
  f33.s3' L N self33 k3_e6 k3_r rec3 s78 s79 s80 s81 s82 s83 s84 s85 s86 s87 s88 s89 s90
def f33.l3 {R : Type} (L N : Nat) (self33 : Graph → LLI → Int → Int → Option (Int × Int × LT × Bool)) (k3_e6 : Int → Int → Int → Int → Int → Int → LT → Option R) (k3_r : Bool → Int → Int → Int → Int → Int → Int → LT → Option R) : Nat → LLI → Int → Int → Int → LLM → Int → Int → Int → Int → Int → Int → LI → LT → Option R
  | 0, _, _, _, _, _, _, _, _, _, _, _, _, _ => none
  | n + 1, s78, s79, s80, s81, s82, s83, s84, s85, s86, s87, s88, s89, s90 => f33.s3 L N self33 k3_e6 k3_r (f33.l3 L N self33 k3_e6 k3_r n) s78 s79 s80 s81 s82 s83 s84 s85 s86 s87 s88 s89 s90
def f33.T3 (s78 : LLI) (s79 : Int) (s80 : Int) (s81 : Int) (s82 : LLM) (s83 : Int) (s84 : Int) (s85 : Int) (s86 : Int) (s87 : Int) (s88 : Int) (s89 : LI) (s90 : LT) : T := mkT 162 [(1, (.tv (.sl (.sl i64)) s78)), (4, (.ptr 1004 0)), (8, (.ptr 1008 0)), (13, (.ptr 1013 0)), (18, (.ptr 1018 0)), (19, (.tv i64 s79)), (98, (.row 1060)), (99, (.tv i64 s80)), (100, (.tv i64 s81))]
def f33.H3 (s78 : LLI) (s79 : Int) (s80 : Int) (s81 : Int) (s82 : LLM) (s83 : Int) (s84 : Int) (s85 : Int) (s86 : Int) (s87 : Int) (s88 : Int) (s89 : LI) (s90 : LT) : H := [(1004, (.box [(.tv (.sl (.sl (.st 0))) s82)])), (1008, (.box [(.tv i64 s83), (.tv i64 s84), .nil])), (1013, (.box [(.tv i64 s85), (.tv i64 s86)])), (1018, (.box [(.tv i64 s87), (.tv i64 s88), (.row 1960)])), (1060, (.row 3 i64 s89)), (1960, (.deep 1 (.st 1) s90 none))]
def f33.T3_e6 (z91 : Int) (z92 : Int) (z93 : Int) (z94 : Int) (z95 : Int) (z96 : Int) (z97 : LT) : T := mkT 162 [(8, (.ptr 1008 0)), (13, (.ptr 1013 0)), (18, (.ptr 1018 0))]
def f33.H3_e6 (z91 : Int) (z92 : Int) (z93 : Int) (z94 : Int) (z95 : Int) (z96 : Int) (z97 : LT) : H := [(1008, (.box [(.tv i64 z91), (.tv i64 z92), .nil])), (1013, (.box [(.tv i64 z93), (.tv i64 z94)])), (1018, (.box [(.tv i64 z95), (.tv i64 z96), (.row 1960)])), (1960, (.deep 1 (.st 1) z97 none))]
def f33.T3_r (z118 : Bool) (z119 : Int) (z120 : Int) (z121 : Int) (z122 : Int) (z123 : Int) (z124 : Int) (z125 : LT) : T := mkT 162 [(8, (.ptr 1008 0)), (9, (.tv .bool z118)), (13, (.ptr 1013 0)), (18, (.ptr 1018 0))]
def f33.H3_r (z118 : Bool) (z119 : Int) (z120 : Int) (z121 : Int) (z122 : Int) (z123 : Int) (z124 : Int) (z125 : LT) : H := [(1008, (.box [(.tv i64 z119), (.tv i64 z120), .nil])), (1013, (.box [(.tv i64 z121), (.tv i64 z122)])), (1018, (.box [(.tv i64 z123), (.tv i64 z124), (.row 1960)])), (1960, (.deep 1 (.st 1) z125 none))]
def f33.p3_e6' {R : Type} (L N : Nat) (self33 : Graph → LLI → Int → Int → Option (Int × Int × LT × Bool)) (k1_e2 : LLI → Int → Int → LLM → Int → Int → Option R) (k1_r : Bool → Int → Int → Option R) (k1_r1 : Bool → Int → Int → LT → Option R) (rec1 : LLI → Int → Int → LI → LM → Int → Int → LLM → Int → Int → Option R) (z91 : Int) (z92 : Int) (z93 : Int) (z94 : Int) (z95 : Int) (z96 : Int) (z97 : LT) : Option R :=
  (f44 L N N (Tree.mk (3 : Int) z93 ([(Tree.mk z95 z96 z97)] : LT)) (60 : Int)).bind fun y172 =>
  k1_r1 (decide (y172 ≤ (60 : Int))) (3 : Int) z93 ([(Tree.mk z95 z96 z97)] : LT)
def f33.p3_e6 {R : Type} (L N : Nat) (self33 : Graph → LLI → Int → Int → Option (Int × Int × LT × Bool)) (k1_e2 : LLI → Int → Int → LLM → Int → Int → Option R) (k1_r : Bool → Int → Int → Option R) (k1_r1 : Bool → Int → Int → LT → Option R) (rec1 : LLI → Int → Int → LI → LM → Int → Int → LLM → Int → Int → Option R) (z91 : Int) (z92 : Int) (z93 : Int) (z94 : Int) (z95 : Int) (z96 : Int) (z97 : LT) : Option R :=
  f33.p3_e6' L N self33 k1_e2 k1_r k1_r1 rec1 z91 z92 z93 z94 z95 z96 z97
def f33.p3_r' {R : Type} (L N : Nat) (self33 : Graph → LLI → Int → Int → Option (Int × Int × LT × Bool)) (k1_e2 : LLI → Int → Int → LLM → Int → Int → Option R) (k1_r : Bool → Int → Int → Option R) (k1_r1 : Bool → Int → Int → LT → Option R) (rec1 : LLI → Int → Int → LI → LM → Int → Int → LLM → Int → Int → Option R) (z118 : Bool) (z119 : Int) (z120 : Int) (z121 : Int) (z122 : Int) (z123 : Int) (z124 : Int) (z125 : LT) : Option R :=
  k1_r z118 z119 z120
def f33.p3_r {R : Type} (L N : Nat) (self33 : Graph → LLI → Int → Int → Option (Int × Int × LT × Bool)) (k1_e2 : LLI → Int → Int → LLM → Int → Int → Option R) (k1_r : Bool → Int → Int → Option R) (k1_r1 : Bool → Int → Int → LT → Option R) (rec1 : LLI → Int → Int → LI → LM → Int → Int → LLM → Int → Int → Option R) (z118 : Bool) (z119 : Int) (z120 : Int) (z121 : Int) (z122 : Int) (z123 : Int) (z124 : Int) (z125 : LT) : Option R :=
  f33.p3_r' L N self33 k1_e2 k1_r k1_r1 rec1 z118 z119 z120 z121 z122 z123 z124 z125
def f33.p2_e4' {R : Type} (L N : Nat) (self33 : Graph → LLI → Int → Int → Option (Int × Int × LT × Bool)) (k1_e2 : LLI → Int → Int → LLM → Int → Int → Option R) (k1_r : Bool → Int → Int → Option R) (k1_r1 : Bool → Int → Int → LT → Option R) (rec1 : LLI → Int → Int → LI → LM → Int → Int → LLM → Int → Int → Option R) (w3 : LLI → Int → Int → Int → LLM → Int → Int → Int → Int → Int → Int → LI → LT → Option R) (z47 : LLI) (z48 : Int) (z49 : Int) (z50 : LI) (z51 : Bool) (z52 : LM) (z53 : Int) (z54 : Int) (z55 : LLM) (z56 : Int) (z57 : Int) (z58 : Int) (z59 : Int) (z60 : LI) : Option R :=
  bif z51 then
    rec1 z47 z48 z49 z50 z52 z53 (wi (z54 + (1 : Int))) z55 z56 z57
  else w3 z47 (1 : Int) (z60.length : Int) (0 : Int) z55 z56 z57 z58 z59 (0 : Int) (0 : Int) z60 ([] : LT)
def f33.p2_e4 {R : Type} (L N : Nat) (self33 : Graph → LLI → Int → Int → Option (Int × Int × LT × Bool)) (k1_e2 : LLI → Int → Int → LLM → Int → Int → Option R) (k1_r : Bool → Int → Int → Option R) (k1_r1 : Bool → Int → Int → LT → Option R) (rec1 : LLI → Int → Int → LI → LM → Int → Int → LLM → Int → Int → Option R) (z47 : LLI) (z48 : Int) (z49 : Int) (z50 : LI) (z51 : Bool) (z52 : LM) (z53 : Int) (z54 : Int) (z55 : LLM) (z56 : Int) (z57 : Int) (z58 : Int) (z59 : Int) (z60 : LI) : Option R :=
  f33.p2_e4' L N self33 k1_e2 k1_r k1_r1 rec1 (fun s78 s79 s80 s81 s82 s83 s84 s85 s86 s87 s88 s89 s90 => f33.l3 L N self33 (fun z91 z92 z93 z94 z95 z96 z97 => f33.p3_e6 L N self33 k1_e2 k1_r k1_r1 rec1 z91 z92 z93 z94 z95 z96 z97) (fun z118 z119 z120 z121 z122 z123 z124 z125 => f33.p3_r L N self33 k1_e2 k1_r k1_r1 rec1 z118 z119 z120 z121 z122 z123 z124 z125) L s78 s79 s80 s81 s82 s83 s84 s85 s86 s87 s88 s89 s90) z47 z48 z49 z50 z51 z52 z53 z54 z55 z56 z57 z58 z59 z60
def f33.s1' {R : Type} (L N : Nat) (self33 : Graph → LLI → Int → Int → Option (Int × Int × LT × Bool)) (k1_e2 : LLI → Int → Int → LLM → Int → Int → Option R) (k1_r : Bool → Int → Int → Option R) (k1_r1 : Bool → Int → Int → LT → Option R) (rec1 : LLI → Int → Int → LI → LM → Int → Int → LLM → Int → Int → Option R) (w2 : LLI → Int → Int → LI → Bool → LM → Int → Int → LM → Int → Int → LLM → Int → Int → Int → Int → LI → Option R) (s14 : LLI) (s15 : Int) (s16 : Int) (s17 : LI) (s18 : LM) (s19 : Int) (s20 : Int) (s21 : LLM) (s22 : Int) (s23 : Int) : Option R :=
  bif (decide (s20 < s19)) then
    bif (decide (0 ≤ s20) && decide (s20 < (s18.length : Int))) then
      bif (decide (0 ≤ s16) && decide (s16 < (s21.length : Int))) then
        w2 s14 s15 s16 s17 false s18 s19 s20 (listAt s21 [] s16.toNat) ((listAt s21 [] s16.toNat).length : Int) (0 : Int) s21 s22 s23 ((listAt s18 (Ty.dflt (.st 0)) s20.toNat).act) ((listAt s18 (Ty.dflt (.st 0)) s20.toNat).to) ([] : LI)
      else none
    else none
  else k1_e2 s14 s15 s16 s21 s22 s23
def f33.s1 {R : Type} (L N : Nat) (self33 : Graph → LLI → Int → Int → Option (Int × Int × LT × Bool)) (k1_e2 : LLI → Int → Int → LLM → Int → Int → Option R) (k1_r : Bool → Int → Int → Option R) (k1_r1 : Bool → Int → Int → LT → Option R) (rec1 : LLI → Int → Int → LI → LM → Int → Int → LLM → Int → Int → Option R) (s14 : LLI) (s15 : Int) (s16 : Int) (s17 : LI) (s18 : LM) (s19 : Int) (s20 : Int) (s21 : LLM) (s22 : Int) (s23 : Int) : Option R :=
  f33.s1' L N self33 k1_e2 k1_r k1_r1 rec1 (fun s30 s31 s32 s33 s34 s35 s36 s37 s38 s39 s40 s41 s42 s43 s44 s45 s46 => f33.l2 L N self33 (fun z47 z48 z49 z50 z51 z52 z53 z54 z55 z56 z57 z58 z59 z60 => f33.p2_e4 L N self33 k1_e2 k1_r k1_r1 rec1 z47 z48 z49 z50 z51 z52 z53 z54 z55 z56 z57 z58 z59 z60) L s30 s31 s32 s33 s34 s35 s36 s37 s38 s39 s40 s41 s42 s43 s44 s45 s46) s14 s15 s16 s17 s18 s19 s20 s21 s22 s23
def f33.l1 {R : Type} (L N : Nat) (self33 : Graph → LLI → Int → Int → Option (Int × Int × LT × Bool)) (k1_e2 : LLI → Int → Int → LLM → Int → Int → Option R) (k1_r : Bool → Int → Int → Option R) (k1_r1 : Bool → Int → Int → LT → Option R) : Nat → LLI → Int → Int → LI → LM → Int → Int → LLM → Int → Int → Option R
  | 0, _, _, _, _, _, _, _, _, _, _ => none
  | n + 1, s14, s15, s16, s17, s18, s19, s20, s21, s22, s23 => f33.s1 L N self33 k1_e2 k1_r k1_r1 (f33.l1 L N self33 k1_e2 k1_r k1_r1 n) s14 s15 s16 s17 s18 s19 s20 s21 s22 s23
def f33.T1 (s14 : LLI) (s15 : Int) (s16 : Int) (s17 : LI) (s18 : LM) (s19 : Int) (s20 : Int) (s21 : LLM) (s22 : Int) (s23 : Int) : T := mkT 162 [(1, (.tv (.sl (.sl i64)) s14)), (2, (.tv i64 s15)), (3, (.tv i64 s16)), (4, (.ptr 1004 0)), (8, (.ptr 1008 0)), (11, (.tv (.sl i64) s17)), (54, (.tv (.sl (.st 0)) s18)), (55, (.tv i64 s19)), (56, (.tv i64 s20))]
def f33.H1 (s14 : LLI) (s15 : Int) (s16 : Int) (s17 : LI) (s18 : LM) (s19 : Int) (s20 : Int) (s21 : LLM) (s22 : Int) (s23 : Int) : H := [(1004, (.box [(.tv (.sl (.sl (.st 0))) s21)])), (1008, (.box [(.tv i64 s22), (.tv i64 s23), .nil]))]
def f33.T1_e2 (z24 : LLI) (z25 : Int) (z26 : Int) (z27 : LLM) (z28 : Int) (z29 : Int) : T := mkT 162 [(1, (.tv (.sl (.sl i64)) z24)), (2, (.tv i64 z25)), (3, (.tv i64 z26)), (4, (.ptr 1004 0)), (8, (.ptr 1008 0))]
def f33.H1_e2 (z24 : LLI) (z25 : Int) (z26 : Int) (z27 : LLM) (z28 : Int) (z29 : Int) : H := [(1004, (.box [(.tv (.sl (.sl (.st 0))) z27)])), (1008, (.box [(.tv i64 z28), (.tv i64 z29), .nil]))]
def f33.T1_r (z169 : Bool) (z170 : Int) (z171 : Int) : T := mkT 162 [(8, (.ptr 1008 0)), (9, (.tv .bool z169))]
def f33.H1_r (z169 : Bool) (z170 : Int) (z171 : Int) : H := [(1008, (.box [(.tv i64 z170), (.tv i64 z171), .nil]))]
def f33.T1_r1 (z173 : Bool) (z174 : Int) (z175 : Int) (z176 : LT) : T := mkT 162 [(8, (.ptr 1008 0)), (9, (.tv .bool z173))]
def f33.H1_r1 (z173 : Bool) (z174 : Int) (z175 : Int) (z176 : LT) : H := [(1008, (.box [(.tv i64 z174), (.tv i64 z175), (.row 1137)])), (1137, (.deep 1 (.st 1) z176 none))]
def f33.p1_e2' {R : Type} (L N : Nat) (self33 : Graph → LLI → Int → Int → Option (Int × Int × LT × Bool)) (k : Int → Int → LT → Bool → Option R) (z24 : LLI) (z25 : Int) (z26 : Int) (z27 : LLM) (z28 : Int) (z29 : Int) : Option R :=
  (self33 (Graph.mk z27) z24 z26 z25).bind fun y177 =>
  bif y177.2.2.2 then
    (f44 L N N (Tree.mk (1 : Int) (0 : Int) ([(Tree.mk y177.1 y177.2.1 y177.2.2.1)] : LT)) (60 : Int)).bind fun y178 =>
    k (1 : Int) (0 : Int) ([(Tree.mk y177.1 y177.2.1 y177.2.2.1)] : LT) (decide (y178 ≤ (60 : Int)))
  else k (1 : Int) (0 : Int) ([(Tree.mk y177.1 y177.2.1 y177.2.2.1)] : LT) false
def f33.p1_e2 {R : Type} (L N : Nat) (self33 : Graph → LLI → Int → Int → Option (Int × Int × LT × Bool)) (k : Int → Int → LT → Bool → Option R) (z24 : LLI) (z25 : Int) (z26 : Int) (z27 : LLM) (z28 : Int) (z29 : Int) : Option R :=
  f33.p1_e2' L N self33 k z24 z25 z26 z27 z28 z29
def f33.p1_r' {R : Type} (L N : Nat) (self33 : Graph → LLI → Int → Int → Option (Int × Int × LT × Bool)) (k : Int → Int → LT → Bool → Option R) (z169 : Bool) (z170 : Int) (z171 : Int) : Option R :=
  k z170 z171 [] z169
def f33.p1_r {R : Type} (L N : Nat) (self33 : Graph → LLI → Int → Int → Option (Int × Int × LT × Bool)) (k : Int → Int → LT → Bool → Option R) (z169 : Bool) (z170 : Int) (z171 : Int) : Option R :=
  f33.p1_r' L N self33 k z169 z170 z171
def f33.p1_r1' {R : Type} (L N : Nat) (self33 : Graph → LLI → Int → Int → Option (Int × Int × LT × Bool)) (k : Int → Int → LT → Bool → Option R) (z173 : Bool) (z174 : Int) (z175 : Int) (z176 : LT) : Option R :=
  k z174 z175 z176 z173
def f33.p1_r1 {R : Type} (L N : Nat) (self33 : Graph → LLI → Int → Int → Option (Int × Int × LT × Bool)) (k : Int → Int → LT → Bool → Option R) (z173 : Bool) (z174 : Int) (z175 : Int) (z176 : LT) : Option R :=
  f33.p1_r1' L N self33 k z173 z174 z175 z176
def f33.p0_e0' {R : Type} (L N : Nat) (self33 : Graph → LLI → Int → Int → Option (Int × Int × LT × Bool)) (k : Int → Int → LT → Bool → Option R) (w1 : LLI → Int → Int → LI → LM → Int → Int → LLM → Int → Int → Option R) (z7 : LLI) (z8 : Int) (z9 : Int) (z10 : Int) (z11 : LLM) (z12 : Int) (z13 : Int) : Option R :=
  bif (decide (0 ≤ (wi (z10 - (1 : Int)))) && decide ((wi (z10 - (1 : Int))) < (z7.length : Int))) then
    bif (decide (0 ≤ z8) && decide (z8 < (z11.length : Int))) then
      w1 z7 z8 z9 (listAt z7 [] (wi (z10 - (1 : Int))).toNat) (listAt z11 [] z8.toNat) ((listAt z11 [] z8.toNat).length : Int) (0 : Int) z11 z12 z13
    else none
  else none
def f33.p0_e0 {R : Type} (L N : Nat) (self33 : Graph → LLI → Int → Int → Option (Int × Int × LT × Bool)) (k : Int → Int → LT → Bool → Option R) (z7 : LLI) (z8 : Int) (z9 : Int) (z10 : Int) (z11 : LLM) (z12 : Int) (z13 : Int) : Option R :=
  f33.p0_e0' L N self33 k (fun s14 s15 s16 s17 s18 s19 s20 s21 s22 s23 => f33.l1 L N self33 (fun z24 z25 z26 z27 z28 z29 => f33.p1_e2 L N self33 k z24 z25 z26 z27 z28 z29) (fun z169 z170 z171 => f33.p1_r L N self33 k z169 z170 z171) (fun z173 z174 z175 z176 => f33.p1_r1 L N self33 k z173 z174 z175 z176) L s14 s15 s16 s17 s18 s19 s20 s21 s22 s23) z7 z8 z9 z10 z11 z12 z13
def f33.b' {R : Type} (L N : Nat) (self33 : Graph → LLI → Int → Int → Option (Int × Int × LT × Bool)) (k : Int → Int → LT → Bool → Option R) (w0 : LLI → Int → Int → Int → LLM → Int → Int → Option R) (x0 : Graph) (x1 : LLI) (x2 : Int) (x3 : Int) : Option R :=
  w0 x1 x2 x3 (0 : Int) x0.moves (0 : Int) (0 : Int)
def f33.b {R : Type} (L N : Nat) (self33 : Graph → LLI → Int → Int → Option (Int × Int × LT × Bool)) (k : Int → Int → LT → Bool → Option R) (x0 : Graph) (x1 : LLI) (x2 : Int) (x3 : Int) : Option R :=
  f33.b' L N self33 k (fun s0 s1 s2 s3 s4 s5 s6 => f33.l0 L N self33 (fun z7 z8 z9 z10 z11 z12 z13 => f33.p0_e0 L N self33 k z7 z8 z9 z10 z11 z12 z13) L s0 s1 s2 s3 s4 s5 s6) x0 x1 x2 x3
def f33 (L N : Nat) : Nat → Graph → LLI → Int → Int → Option (Int × Int × LT × Bool)
  | 0, _, _, _, _ => none
  | n + 1, x0, x1, x2, x3 => f33.b L N (f33 L N n) (fun a0 a1 a2 a3 => some (a0, a1, a2, a3)) x0 x1 x2 x3
def f33.ent (L N m : Nat) (args : List AV) (vw : View) (site : Nat) : Ans := match roD [(.st 2), (.sl (.sl i64)), i64, i64] vw args with
  | some d => ⟨Int × Int × LT × Bool, f33 L N m d.1 d.2.1 d.2.2.1 d.2.2.2.1, fun y => (RN.av site (.tup (.agg [i64, i64]) [.bool]) ((y.1, y.2.1, ()), (y.2.2.2, ())), [(site, some (mkO (some 1) 28 (.st 1) y.2.2.1))], [])⟩
  | none => Ans.no
def Φ33s (L N m : Nat) : Tells := (addT (Φ44 L N) 33 (f33.ent L N m))
noncomputable def E33 (L N m : Nat) : Env := { P := Try.prog, ty := tyOf, Φ := Φ33s L N m, inl := inlT, live := lives, liveX := livesX, L := L, dp := (some 1), prom := promT, heal := healT, ren := renT }
noncomputable def f33.c0 : Code := loopAt 0 (codeOf Try.f33)
def f33.X0_e0 {R : Type} (κ : KX R) := fun z7 z8 z9 z10 z11 z12 z13 => κ (.exit 0) (f33.T0_e0 z7 z8 z9 z10 z11 z12 z13) (f33.H0_e0 z7 z8 z9 z10 z11 z12 z13)
def f33.R0 {R : Type} (rec : KT R) := fun s0 s1 s2 s3 s4 s5 s6 => rec (f33.T0 s0 s1 s2 s3 s4 s5 s6) (f33.H0 s0 s1 s2 s3 s4 s5 s6)
theorem f33.s0_eq {R : Type} (L N m : Nat) (κ : KX R) (rec : KT R) (s0 : LLI) (s1 : Int) (s2 : Int) (s3 : Int) (s4 : LLM) (s5 : Int) (s6 : Int) :
    evRd (E33 L N m) (evCallI (E33 L N m) 1 2000) 1000 33 162 0 f33.c0 κ rec (f33.T0 s0 s1 s2 s3 s4 s5 s6) (f33.H0 s0 s1 s2 s3 s4 s5 s6)
    = f33.s0 L N (f33 L N m) (f33.X0_e0 κ) (f33.R0 rec) s0 s1 s2 s3 s4 s5 s6 := by kernel_rfl
theorem f33.l0_eq {R : Type} (L N m : Nat) (κ : KX R) : ∀ (n : Nat) (s0 : LLI) (s1 : Int) (s2 : Int) (s3 : Int) (s4 : LLM) (s5 : Int) (s6 : Int),
    evLp (E33 L N m) (evCallI (E33 L N m) 1 2000) 1000 33 162 0 f33.c0 κ n (f33.T0 s0 s1 s2 s3 s4 s5 s6) (f33.H0 s0 s1 s2 s3 s4 s5 s6)
    = f33.l0 L N (f33 L N m) (f33.X0_e0 κ) n s0 s1 s2 s3 s4 s5 s6 := by
  intro n
  induction n with
  | zero => intros; rfl
  | succ n ih =>
    intro s0 s1 s2 s3 s4 s5 s6
    rw [evLp_succ, f33.s0_eq]
    delta f33.R0
    simp only [ih]
    rfl
noncomputable def f33.c1 : Code := loopAt 2 (codeOf Try.f33)
noncomputable def f33.c2 : Code := loopAt 4 f33.c1
def f33.X2_e4 {R : Type} (κ : KX R) := fun z47 z48 z49 z50 z51 z52 z53 z54 z55 z56 z57 z58 z59 z60 => κ (.exit 4) (f33.T2_e4 z47 z48 z49 z50 z51 z52 z53 z54 z55 z56 z57 z58 z59 z60) (f33.H2_e4 z47 z48 z49 z50 z51 z52 z53 z54 z55 z56 z57 z58 z59 z60)
def f33.R2 {R : Type} (rec : KT R) := fun s30 s31 s32 s33 s34 s35 s36 s37 s38 s39 s40 s41 s42 s43 s44 s45 s46 => rec (f33.T2 s30 s31 s32 s33 s34 s35 s36 s37 s38 s39 s40 s41 s42 s43 s44 s45 s46) (f33.H2 s30 s31 s32 s33 s34 s35 s36 s37 s38 s39 s40 s41 s42 s43 s44 s45 s46)
theorem f33.s2_eq {R : Type} (L N m : Nat) (κ : KX R) (rec : KT R) (s30 : LLI) (s31 : Int) (s32 : Int) (s33 : LI) (s34 : Bool) (s35 : LM) (s36 : Int) (s37 : Int) (s38 : LM) (s39 : Int) (s40 : Int) (s41 : LLM) (s42 : Int) (s43 : Int) (s44 : Int) (s45 : Int) (s46 : LI) :
    evRd (E33 L N m) (evCallI (E33 L N m) 1 2000) 1000 33 162 4 f33.c2 κ rec (f33.T2 s30 s31 s32 s33 s34 s35 s36 s37 s38 s39 s40 s41 s42 s43 s44 s45 s46) (f33.H2 s30 s31 s32 s33 s34 s35 s36 s37 s38 s39 s40 s41 s42 s43 s44 s45 s46)
    = f33.s2 L N (f33 L N m) (f33.X2_e4 κ) (f33.R2 rec) s30 s31 s32 s33 s34 s35 s36 s37 s38 s39 s40 s41 s42 s43 s44 s45 s46 := by kernel_rfl
theorem f33.l2_eq {R : Type} (L N m : Nat) (κ : KX R) : ∀ (n : Nat) (s30 : LLI) (s31 : Int) (s32 : Int) (s33 : LI) (s34 : Bool) (s35 : LM) (s36 : Int) (s37 : Int) (s38 : LM) (s39 : Int) (s40 : Int) (s41 : LLM) (s42 : Int) (s43 : Int) (s44 : Int) (s45 : Int) (s46 : LI),
    evLp (E33 L N m) (evCallI (E33 L N m) 1 2000) 1000 33 162 4 f33.c2 κ n (f33.T2 s30 s31 s32 s33 s34 s35 s36 s37 s38 s39 s40 s41 s42 s43 s44 s45 s46) (f33.H2 s30 s31 s32 s33 s34 s35 s36 s37 s38 s39 s40 s41 s42 s43 s44 s45 s46)
    = f33.l2 L N (f33 L N m) (f33.X2_e4 κ) n s30 s31 s32 s33 s34 s35 s36 s37 s38 s39 s40 s41 s42 s43 s44 s45 s46 := by
  intro n
  induction n with
  | zero => intros; rfl
  | succ n ih =>
    intro s30 s31 s32 s33 s34 s35 s36 s37 s38 s39 s40 s41 s42 s43 s44 s45 s46
    rw [evLp_succ, f33.s2_eq]
    delta f33.R2
    simp only [ih]
    rfl
noncomputable def f33.c3 : Code := loopAt 6 f33.c1
def f33.X3_e6 {R : Type} (κ : KX R) := fun z91 z92 z93 z94 z95 z96 z97 => κ (.exit 6) (f33.T3_e6 z91 z92 z93 z94 z95 z96 z97) (f33.H3_e6 z91 z92 z93 z94 z95 z96 z97)
def f33.X3_r {R : Type} (κ : KX R) := fun z118 z119 z120 z121 z122 z123 z124 z125 => κ .ret (f33.T3_r z118 z119 z120 z121 z122 z123 z124 z125) (f33.H3_r z118 z119 z120 z121 z122 z123 z124 z125)
def f33.R3 {R : Type} (rec : KT R) := fun s78 s79 s80 s81 s82 s83 s84 s85 s86 s87 s88 s89 s90 => rec (f33.T3 s78 s79 s80 s81 s82 s83 s84 s85 s86 s87 s88 s89 s90) (f33.H3 s78 s79 s80 s81 s82 s83 s84 s85 s86 s87 s88 s89 s90)
theorem f33.s3_eq {R : Type} (L N m : Nat) (κ : KX R) (rec : KT R) (s78 : LLI) (s79 : Int) (s80 : Int) (s81 : Int) (s82 : LLM) (s83 : Int) (s84 : Int) (s85 : Int) (s86 : Int) (s87 : Int) (s88 : Int) (s89 : LI) (s90 : LT) :
    evRd (E33 L N m) (evCallI (E33 L N m) 1 2000) 1000 33 162 6 f33.c3 κ rec (f33.T3 s78 s79 s80 s81 s82 s83 s84 s85 s86 s87 s88 s89 s90) (f33.H3 s78 s79 s80 s81 s82 s83 s84 s85 s86 s87 s88 s89 s90)
    = f33.s3 L N (f33 L N m) (f33.X3_e6 κ) (f33.X3_r κ) (f33.R3 rec) s78 s79 s80 s81 s82 s83 s84 s85 s86 s87 s88 s89 s90 := by kernel_rfl
theorem f33.l3_eq {R : Type} (L N m : Nat) (κ : KX R) : ∀ (n : Nat) (s78 : LLI) (s79 : Int) (s80 : Int) (s81 : Int) (s82 : LLM) (s83 : Int) (s84 : Int) (s85 : Int) (s86 : Int) (s87 : Int) (s88 : Int) (s89 : LI) (s90 : LT),
    evLp (E33 L N m) (evCallI (E33 L N m) 1 2000) 1000 33 162 6 f33.c3 κ n (f33.T3 s78 s79 s80 s81 s82 s83 s84 s85 s86 s87 s88 s89 s90) (f33.H3 s78 s79 s80 s81 s82 s83 s84 s85 s86 s87 s88 s89 s90)
    = f33.l3 L N (f33 L N m) (f33.X3_e6 κ) (f33.X3_r κ) n s78 s79 s80 s81 s82 s83 s84 s85 s86 s87 s88 s89 s90 := by
  intro n
  induction n with
  | zero => intros; rfl
  | succ n ih =>
    intro s78 s79 s80 s81 s82 s83 s84 s85 s86 s87 s88 s89 s90
    rw [evLp_succ, f33.s3_eq]
    delta f33.R3
    simp only [ih]
    rfl
def f33.X1_e2 {R : Type} (κ : KX R) := fun z24 z25 z26 z27 z28 z29 => κ (.exit 2) (f33.T1_e2 z24 z25 z26 z27 z28 z29) (f33.H1_e2 z24 z25 z26 z27 z28 z29)
def f33.X1_r {R : Type} (κ : KX R) := fun z169 z170 z171 => κ .ret (f33.T1_r z169 z170 z171) (f33.H1_r z169 z170 z171)
def f33.X1_r1 {R : Type} (κ : KX R) := fun z173 z174 z175 z176 => κ .ret (f33.T1_r1 z173 z174 z175 z176) (f33.H1_r1 z173 z174 z175 z176)
def f33.R1 {R : Type} (rec : KT R) := fun s14 s15 s16 s17 s18 s19 s20 s21 s22 s23 => rec (f33.T1 s14 s15 s16 s17 s18 s19 s20 s21 s22 s23) (f33.H1 s14 s15 s16 s17 s18 s19 s20 s21 s22 s23)
theorem f33.p3_e6_eq {R : Type} (L N m : Nat) (κ : KX R) (rec : KT R) (z91 : Int) (z92 : Int) (z93 : Int) (z94 : Int) (z95 : Int) (z96 : Int) (z97 : LT) :
    (contAt (E33 L N m) (evCallI (E33 L N m) 1 2000) 1000 33 162 6 f33.c1 (rdK (E33 L N m) 1000 33 162 2 κ rec)) (.exit 6) (f33.T3_e6 z91 z92 z93 z94 z95 z96 z97) (f33.H3_e6 z91 z92 z93 z94 z95 z96 z97)
    = f33.p3_e6 L N (f33 L N m) (f33.X1_e2 κ) (f33.X1_r κ) (f33.X1_r1 κ) (f33.R1 rec) z91 z92 z93 z94 z95 z96 z97 := by kernel_rfl
theorem f33.p3_r_eq {R : Type} (L N m : Nat) (κ : KX R) (rec : KT R) (z118 : Bool) (z119 : Int) (z120 : Int) (z121 : Int) (z122 : Int) (z123 : Int) (z124 : Int) (z125 : LT) :
    (contAt (E33 L N m) (evCallI (E33 L N m) 1 2000) 1000 33 162 6 f33.c1 (rdK (E33 L N m) 1000 33 162 2 κ rec)) .ret (f33.T3_r z118 z119 z120 z121 z122 z123 z124 z125) (f33.H3_r z118 z119 z120 z121 z122 z123 z124 z125)
    = f33.p3_r L N (f33 L N m) (f33.X1_e2 κ) (f33.X1_r κ) (f33.X1_r1 κ) (f33.R1 rec) z118 z119 z120 z121 z122 z123 z124 z125 := by kernel_rfl
theorem f33.p2_e4_eq {R : Type} (L N m : Nat) (κ : KX R) (rec : KT R) (z47 : LLI) (z48 : Int) (z49 : Int) (z50 : LI) (z51 : Bool) (z52 : LM) (z53 : Int) (z54 : Int) (z55 : LLM) (z56 : Int) (z57 : Int) (z58 : Int) (z59 : Int) (z60 : LI) :
    (contAt (E33 L N m) (evCallI (E33 L N m) 1 2000) 1000 33 162 4 f33.c1 (rdK (E33 L N m) 1000 33 162 2 κ rec)) (.exit 4) (f33.T2_e4 z47 z48 z49 z50 z51 z52 z53 z54 z55 z56 z57 z58 z59 z60) (f33.H2_e4 z47 z48 z49 z50 z51 z52 z53 z54 z55 z56 z57 z58 z59 z60)
    = f33.p2_e4 L N (f33 L N m) (f33.X1_e2 κ) (f33.X1_r κ) (f33.X1_r1 κ) (f33.R1 rec) z47 z48 z49 z50 z51 z52 z53 z54 z55 z56 z57 z58 z59 z60 := by
  refine Eq.trans (b := f33.p2_e4' L N (f33 L N m) (f33.X1_e2 κ) (f33.X1_r κ) (f33.X1_r1 κ) (f33.R1 rec) (fun s78 s79 s80 s81 s82 s83 s84 s85 s86 s87 s88 s89 s90 => evLp (E33 L N m) (evCallI (E33 L N m) 1 2000) 1000 33 162 6 f33.c3 (contAt (E33 L N m) (evCallI (E33 L N m) 1 2000) 1000 33 162 6 f33.c1 (rdK (E33 L N m) 1000 33 162 2 κ rec)) L (f33.T3 s78 s79 s80 s81 s82 s83 s84 s85 s86 s87 s88 s89 s90) (f33.H3 s78 s79 s80 s81 s82 s83 s84 s85 s86 s87 s88 s89 s90)) z47 z48 z49 z50 z51 z52 z53 z54 z55 z56 z57 z58 z59 z60) (by kernel_rfl) ?_
  unfold f33.p2_e4
  simp only [f33.l3_eq]
  delta f33.X3_e6 f33.X3_r
  simp only [f33.p3_e6_eq, f33.p3_r_eq]
theorem f33.s1_eq {R : Type} (L N m : Nat) (κ : KX R) (rec : KT R) (s14 : LLI) (s15 : Int) (s16 : Int) (s17 : LI) (s18 : LM) (s19 : Int) (s20 : Int) (s21 : LLM) (s22 : Int) (s23 : Int) :
    evRd (E33 L N m) (evCallI (E33 L N m) 1 2000) 1000 33 162 2 f33.c1 κ rec (f33.T1 s14 s15 s16 s17 s18 s19 s20 s21 s22 s23) (f33.H1 s14 s15 s16 s17 s18 s19 s20 s21 s22 s23)
    = f33.s1 L N (f33 L N m) (f33.X1_e2 κ) (f33.X1_r κ) (f33.X1_r1 κ) (f33.R1 rec) s14 s15 s16 s17 s18 s19 s20 s21 s22 s23 := by
  refine Eq.trans (b := f33.s1' L N (f33 L N m) (f33.X1_e2 κ) (f33.X1_r κ) (f33.X1_r1 κ) (f33.R1 rec) (fun s30 s31 s32 s33 s34 s35 s36 s37 s38 s39 s40 s41 s42 s43 s44 s45 s46 => evLp (E33 L N m) (evCallI (E33 L N m) 1 2000) 1000 33 162 4 f33.c2 (contAt (E33 L N m) (evCallI (E33 L N m) 1 2000) 1000 33 162 4 f33.c1 (rdK (E33 L N m) 1000 33 162 2 κ rec)) L (f33.T2 s30 s31 s32 s33 s34 s35 s36 s37 s38 s39 s40 s41 s42 s43 s44 s45 s46) (f33.H2 s30 s31 s32 s33 s34 s35 s36 s37 s38 s39 s40 s41 s42 s43 s44 s45 s46)) s14 s15 s16 s17 s18 s19 s20 s21 s22 s23) (by kernel_rfl) ?_
  unfold f33.s1
  simp only [f33.l2_eq]
  delta f33.X2_e4
  simp only [f33.p2_e4_eq]
theorem f33.l1_eq {R : Type} (L N m : Nat) (κ : KX R) : ∀ (n : Nat) (s14 : LLI) (s15 : Int) (s16 : Int) (s17 : LI) (s18 : LM) (s19 : Int) (s20 : Int) (s21 : LLM) (s22 : Int) (s23 : Int),
    evLp (E33 L N m) (evCallI (E33 L N m) 1 2000) 1000 33 162 2 f33.c1 κ n (f33.T1 s14 s15 s16 s17 s18 s19 s20 s21 s22 s23) (f33.H1 s14 s15 s16 s17 s18 s19 s20 s21 s22 s23)
    = f33.l1 L N (f33 L N m) (f33.X1_e2 κ) (f33.X1_r κ) (f33.X1_r1 κ) n s14 s15 s16 s17 s18 s19 s20 s21 s22 s23 := by
  intro n
  induction n with
  | zero => intros; rfl
  | succ n ih =>
    intro s14 s15 s16 s17 s18 s19 s20 s21 s22 s23
    rw [evLp_succ, f33.s1_eq]
    delta f33.R1
    simp only [ih]
    rfl
theorem f33.p1_e2_eq {R : Type} (L N m : Nat) (κ : RN.Den (.tup (.agg [i64, i64]) [.bool]) → List Tree → Option R) (z24 : LLI) (z25 : Int) (z26 : Int) (z27 : LLM) (z28 : Int) (z29 : Int) :
    (contAt (E33 L N m) (evCallI (E33 L N m) 1 2000) 1000 33 162 2 (codeOf Try.f33) (finK (E33 L N m) 1000 Try.f33 (finN (.tup (.agg [i64, i64]) [.bool]) (some 1) 28 (.st 1) κ))) (.exit 2) (f33.T1_e2 z24 z25 z26 z27 z28 z29) (f33.H1_e2 z24 z25 z26 z27 z28 z29)
    = f33.p1_e2 L N (f33 L N m) (fun a0 a1 a2 a3 => κ ((a0, a1, ()), (a3, ())) a2) z24 z25 z26 z27 z28 z29 := by kernel_rfl
theorem f33.p1_r_eq {R : Type} (L N m : Nat) (κ : RN.Den (.tup (.agg [i64, i64]) [.bool]) → List Tree → Option R) (z169 : Bool) (z170 : Int) (z171 : Int) :
    (contAt (E33 L N m) (evCallI (E33 L N m) 1 2000) 1000 33 162 2 (codeOf Try.f33) (finK (E33 L N m) 1000 Try.f33 (finN (.tup (.agg [i64, i64]) [.bool]) (some 1) 28 (.st 1) κ))) .ret (f33.T1_r z169 z170 z171) (f33.H1_r z169 z170 z171)
    = f33.p1_r L N (f33 L N m) (fun a0 a1 a2 a3 => κ ((a0, a1, ()), (a3, ())) a2) z169 z170 z171 := by kernel_rfl
theorem f33.p1_r1_eq {R : Type} (L N m : Nat) (κ : RN.Den (.tup (.agg [i64, i64]) [.bool]) → List Tree → Option R) (z173 : Bool) (z174 : Int) (z175 : Int) (z176 : LT) :
    (contAt (E33 L N m) (evCallI (E33 L N m) 1 2000) 1000 33 162 2 (codeOf Try.f33) (finK (E33 L N m) 1000 Try.f33 (finN (.tup (.agg [i64, i64]) [.bool]) (some 1) 28 (.st 1) κ))) .ret (f33.T1_r1 z173 z174 z175 z176) (f33.H1_r1 z173 z174 z175 z176)
    = f33.p1_r1 L N (f33 L N m) (fun a0 a1 a2 a3 => κ ((a0, a1, ()), (a3, ())) a2) z173 z174 z175 z176 := by kernel_rfl
theorem f33.p0_e0_eq {R : Type} (L N m : Nat) (κ : RN.Den (.tup (.agg [i64, i64]) [.bool]) → List Tree → Option R) (z7 : LLI) (z8 : Int) (z9 : Int) (z10 : Int) (z11 : LLM) (z12 : Int) (z13 : Int) :
    (contAt (E33 L N m) (evCallI (E33 L N m) 1 2000) 1000 33 162 0 (codeOf Try.f33) (finK (E33 L N m) 1000 Try.f33 (finN (.tup (.agg [i64, i64]) [.bool]) (some 1) 28 (.st 1) κ))) (.exit 0) (f33.T0_e0 z7 z8 z9 z10 z11 z12 z13) (f33.H0_e0 z7 z8 z9 z10 z11 z12 z13)
    = f33.p0_e0 L N (f33 L N m) (fun a0 a1 a2 a3 => κ ((a0, a1, ()), (a3, ())) a2) z7 z8 z9 z10 z11 z12 z13 := by
  refine Eq.trans (b := f33.p0_e0' L N (f33 L N m) (fun a0 a1 a2 a3 => κ ((a0, a1, ()), (a3, ())) a2) (fun s14 s15 s16 s17 s18 s19 s20 s21 s22 s23 => evLp (E33 L N m) (evCallI (E33 L N m) 1 2000) 1000 33 162 2 f33.c1 (contAt (E33 L N m) (evCallI (E33 L N m) 1 2000) 1000 33 162 2 (codeOf Try.f33) (finK (E33 L N m) 1000 Try.f33 (finN (.tup (.agg [i64, i64]) [.bool]) (some 1) 28 (.st 1) κ))) L (f33.T1 s14 s15 s16 s17 s18 s19 s20 s21 s22 s23) (f33.H1 s14 s15 s16 s17 s18 s19 s20 s21 s22 s23)) z7 z8 z9 z10 z11 z12 z13) (by kernel_rfl) ?_
  unfold f33.p0_e0
  simp only [f33.l1_eq]
  delta f33.X1_e2 f33.X1_r f33.X1_r1
  simp only [f33.p1_e2_eq, f33.p1_r_eq, f33.p1_r1_eq]
theorem f33.b_eq {R : Type} (L N m : Nat) (κ : RN.Den (.tup (.agg [i64, i64]) [.bool]) → List Tree → Option R) (x0 : Graph) (x1 : LLI) (x2 : Int) (x3 : Int) :
    evBody (E33 L N m) (evCallI (E33 L N m) 1 2000) 1000 33 Try.f33 [(.tv (.st 2) x0), (.tv (.sl (.sl i64)) x1), (.tv i64 x2), (.tv i64 x3)] [] [] (finN (.tup (.agg [i64, i64]) [.bool]) (some 1) 28 (.st 1) κ)
    = f33.b L N (f33 L N m) (fun a0 a1 a2 a3 => κ ((a0, a1, ()), (a3, ())) a2) x0 x1 x2 x3 := by
  refine Eq.trans (b := f33.b' L N (f33 L N m) (fun a0 a1 a2 a3 => κ ((a0, a1, ()), (a3, ())) a2) (fun s0 s1 s2 s3 s4 s5 s6 => evLp (E33 L N m) (evCallI (E33 L N m) 1 2000) 1000 33 162 0 f33.c0 (contAt (E33 L N m) (evCallI (E33 L N m) 1 2000) 1000 33 162 0 (codeOf Try.f33) (finK (E33 L N m) 1000 Try.f33 (finN (.tup (.agg [i64, i64]) [.bool]) (some 1) 28 (.st 1) κ))) L (f33.T0 s0 s1 s2 s3 s4 s5 s6) (f33.H0 s0 s1 s2 s3 s4 s5 s6)) x0 x1 x2 x3) (by kernel_rfl) ?_
  unfold f33.b
  simp only [f33.l0_eq]
  delta f33.X0_e0
  simp only [f33.p0_e0_eq]
theorem f33.ok (L N m : Nat) (hΦ : TellsOk Try.prog (Φ33s L N m)) : EntOk Try.prog 33 (f33.ent L N (m + 1)) := by
  intro args vw site h
  unfold f33.ent
  split
  · rename_i d ha
    intro y hy hs
    refine call_ron (y := y) (dep := 1000) (E := (E33 L N m)) (ts := [(.st 2), (.sl (.sl i64)), i64, i64]) (rn := (.tup (.agg [i64, i64]) [.bool])) (q := (some 1)) (el := 28) (ty := (.st 1)) (d1 := ((y.1, y.2.1, ()), (y.2.2.2, ()))) (xs := y.2.2.1) (κ := (fun d xs => some (d.1.1, d.1.2.1, xs, d.2.1))) (sound_of hΦ) okP (callI_sound (sound_of hΦ) okP 1 2000) (f := Try.f33) rfl hs ha ?_ (fun _ _ h => by obtain rfl := Option.some.inj h; exact ⟨rfl, rfl⟩) rfl site
    exact (f33.b_eq L N m (fun d xs => some (d.1.1, d.1.2.1, xs, d.2.1)) d.1 d.2.1 d.2.2.1 d.2.2.2.1).trans (Eq.trans (b := f33.b L N (f33 L N m) (fun a0 a1 a2 a3 => some (a0, a1, a2, a3)) d.1 d.2.1 d.2.2.1 d.2.2.2.1) (by kernel_rfl) hy)
  · intro y hy
    cases hy
theorem Φ33s_ok (L N : Nat) : ∀ m, TellsOk Try.prog (Φ33s L N m) := by
  intro m
  induction m with
  | zero => exact (addT_ok (Φ44_ok L N) (fun args vw site h => by unfold f33.ent; split <;> (intro y hy; cases hy)))
  | succ m ih => exact (addT_ok (Φ44_ok L N) (f33.ok L N m ih))
def Φ33 (L N : Nat) : Tells := (addT (Φ44 L N) 33 (f33.ent L N N))
theorem Φ33_ok (L N : Nat) : TellsOk Try.prog (Φ33 L N) := Φ33s_ok L N N
def f9.j0' {R : Type} (L N : Nat) (k : Int → Int → LT → Bool → Option R) (v7 : Int) (v8 : Int) (v9 : LLM) (v10 : Int) (v11 : Int) : Option R :=
  (f32 L N (Graph.mk v9)).bind fun y12 =>
  bif (decide (0 ≤ (wi ((y12.length : Int) - (1 : Int)))) && decide ((wi ((y12.length : Int) - (1 : Int))) < (y12.length : Int))) then
    bif (decide (0 ≤ v7) && decide (v7 < ((listAt y12 [] (wi ((y12.length : Int) - (1 : Int))).toNat).length : Int))) then
      bif (decide (0 ≤ v8) && decide (v8 < ((listAt y12 [] (wi ((y12.length : Int) - (1 : Int))).toNat).length : Int))) then
        bif ((listAt (listAt y12 [] (wi ((y12.length : Int) - (1 : Int))).toNat) (0 : Int) v7.toNat) == (listAt (listAt y12 [] (wi ((y12.length : Int) - (1 : Int))).toNat) (0 : Int) v8.toNat)) then
          k (0 : Int) (0 : Int) [] false
        else (f33 L N N (Graph.mk v9) y12 v7 v8).bind fun y13 =>
        bif (!y13.2.2.2) then
          k (0 : Int) (0 : Int) [] false
        else k y13.1 y13.2.1 y13.2.2.1 true
      else none
    else none
  else none
def f9.b' {R : Type} (L N : Nat) (k : Int → Int → LT → Bool → Option R) (x0 : Graph) (x1 : Int) (x2 : Int) : Option R :=
  (f31 L N (Graph.mk x0.moves)).bind fun y0 =>
  bif (!y0) then
    k (0 : Int) (0 : Int) [] false
  else bif (decide (x1 < (0 : Int))) then
    k (0 : Int) (0 : Int) [] false
  else bif (decide (x1 ≥ (x0.moves.length : Int))) then
    k (0 : Int) (0 : Int) [] false
  else bif (decide (x2 < (0 : Int))) then
    k (0 : Int) (0 : Int) [] false
  else bif (decide (x2 ≥ (x0.moves.length : Int))) then
    k (0 : Int) (0 : Int) [] false
  else f9.j0' L N k x1 x2 x0.moves (0 : Int) (0 : Int)
def f9.b {R : Type} (L N : Nat) (k : Int → Int → LT → Bool → Option R) (x0 : Graph) (x1 : Int) (x2 : Int) : Option R :=
  f9.b' L N k x0 x1 x2
def f9 (L N : Nat) (x0 : Graph) (x1 : Int) (x2 : Int) : Option (Int × Int × LT × Bool) := f9.b L N (fun a0 a1 a2 a3 => some (a0, a1, a2, a3)) x0 x1 x2
def f9.ent (L N : Nat) (args : List AV) (vw : View) (site : Nat) : Ans := match roD [(.st 2), i64, i64] vw args with
  | some d => ⟨Int × Int × LT × Bool, f9 L N d.1 d.2.1 d.2.2.1, fun y => (RN.av site (.tup (.agg [i64, i64]) [.bool]) ((y.1, y.2.1, ()), (y.2.2.2, ())), [(site, some (mkO (some 1) 28 (.st 1) y.2.2.1))], [])⟩
  | none => Ans.no
noncomputable def E9 (L N : Nat) : Env := { P := Try.prog, ty := tyOf, Φ := (Φ33 L N), inl := inlT, live := lives, liveX := livesX, L := L, dp := (some 1), prom := promT, heal := healT, ren := renT }
theorem f9.b_eq {R : Type} (L N : Nat) (κ : RN.Den (.tup (.agg [i64, i64]) [.bool]) → List Tree → Option R) (x0 : Graph) (x1 : Int) (x2 : Int) :
    evBody (E9 L N) (evCallI (E9 L N) 1 2000) 1000 9 Try.f9 [(.tv (.st 2) x0), (.tv i64 x1), (.tv i64 x2)] [] [] (finN (.tup (.agg [i64, i64]) [.bool]) (some 1) 28 (.st 1) κ)
    = f9.b L N (fun a0 a1 a2 a3 => κ ((a0, a1, ()), (a3, ())) a2) x0 x1 x2 := by kernel_rfl
theorem f9.ok (L N : Nat) (hΦ : TellsOk Try.prog ((Φ33 L N))) : EntOk Try.prog 9 (f9.ent L N) := by
  intro args vw site h
  unfold f9.ent
  split
  · rename_i d ha
    intro y hy hs
    refine call_ron (y := y) (dep := 1000) (E := (E9 L N)) (ts := [(.st 2), i64, i64]) (rn := (.tup (.agg [i64, i64]) [.bool])) (q := (some 1)) (el := 28) (ty := (.st 1)) (d1 := ((y.1, y.2.1, ()), (y.2.2.2, ()))) (xs := y.2.2.1) (κ := (fun d xs => some (d.1.1, d.1.2.1, xs, d.2.1))) (sound_of hΦ) okP (callI_sound (sound_of hΦ) okP 1 2000) (f := Try.f9) rfl hs ha ?_ (fun _ _ h => by obtain rfl := Option.some.inj h; exact ⟨rfl, rfl⟩) rfl site
    exact (f9.b_eq L N (fun d xs => some (d.1.1, d.1.2.1, xs, d.2.1)) d.1 d.2.1 d.2.2.1).trans (Eq.trans (b := f9.b L N (fun a0 a1 a2 a3 => some (a0, a1, a2, a3)) d.1 d.2.1 d.2.2.1) (by kernel_rfl) hy)
  · intro y hy
    cases hy
end Go.Proofs.Ytffkhhblppfbfaa.Ev
