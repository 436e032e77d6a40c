/- The seat's functions as plain functions: made by program (wip/gen/gen.py). -/
import Derived.Test.YtffkhhblppfbfaaDoorEvYa
import Derived.Test.YtffkhhblppfbfaaDoorShelf
import Derived.Test.YtffkhhblppfbfaaDoorEvMut
namespace Go.Proofs.YtffkhhblppfbfaaDoor.Ev
open Go
set_option linter.unusedVariables false
set_option maxRecDepth 20000
def tyTab : List (Nat × Ty) := [(2, i64), (3, i64), (4, .bool), (5, (.int .u8)), (6, (.int .u8)), (9, .str), (10, .str), (11, .str), (12, (.int .u64)), (21, (.int .i32)), (22, (.sl (.sl (.st 0)))), (23, (.st 2)), (24, (.st 2)), (28, (.sl (.sl (.st 0)))), (29, (.st 2)), (30, (.st 2)), (39, (.sl .bool)), (41, (.sl (.sl .bool))), (48, (.sl i64)), (50, (.st 4)), (54, (.sl (.st 0))), (55, (.st 0)), (56, (.st 0)), (62, (.sl (.sl i64))), (67, (.sl (.st 0))), (80, (.sl (.st 4))), (94, (.st 0)), (100, (.int .u64)), (105, i64), (113, (.int .u32)), (115, (.int .u64)), (118, (.int .u64)), (131, (.sl (.int .u8))), (152, (.int .u8)), (153, (.int .u8)), (156, (.int .i32)), (157, (.int .i32))]
def tyOf (t : Nat) : Option Ty := tyFind t tyTab
def lives (f i : Nat) : List Nat × List Nat :=
  bif Nat.beq f 6 && Nat.beq i 0 then ([1, 4, 5], [1, 18]) else
  bif Nat.beq f 6 && Nat.beq i 2 then ([1, 4, 5, 6], [1, 18]) else
  bif Nat.beq f 14 && Nat.beq i 0 then ([0, 1, 5], []) else
  bif Nat.beq f 15 && Nat.beq i 0 then ([1, 3], [1]) else
  bif Nat.beq f 15 && Nat.beq i 2 then ([1, 3, 4], [1]) else
  bif Nat.beq f 16 && Nat.beq i 0 then ([3, 4, 5], []) else
  bif Nat.beq f 18 && Nat.beq i 0 then ([1, 2, 5], [2]) else
  bif Nat.beq f 19 && Nat.beq i 0 then ([1, 2, 3, 7, 8], [3, 12]) else
  bif Nat.beq f 19 && Nat.beq i 2 then ([1, 2, 3, 7, 8, 9], [3, 12]) else
  bif Nat.beq f 20 && Nat.beq i 0 then ([0, 3], []) else
  bif Nat.beq f 21 && Nat.beq i 0 then ([0, 1, 5], []) else
  bif Nat.beq f 22 && Nat.beq i 0 then ([0, 3, 4], [7]) else
  bif Nat.beq f 23 && Nat.beq i 0 then ([1, 18, 19, 20], [1]) else
  bif Nat.beq f 23 && Nat.beq i 2 then ([1, 4, 18, 19, 20, 24, 25, 26], [1]) else
  bif Nat.beq f 25 && Nat.beq i 0 then ([2, 3, 4, 5, 9, 10, 11], [4, 5, 22, 23]) else
  bif Nat.beq f 25 && Nat.beq i 2 then ([2, 3, 4, 5, 9, 10, 11, 12, 60, 61, 62], [4, 5, 12, 22, 23]) else
  bif Nat.beq f 26 && Nat.beq i 0 then ([1, 2, 3, 12, 13, 14], [3]) else
  bif Nat.beq f 26 && Nat.beq i 2 then ([1, 2, 3, 6, 12, 13, 14, 19, 20, 21], [3, 6]) else
  bif Nat.beq f 27 && Nat.beq i 0 then ([2, 5, 11, 12, 13], [2, 10]) else
  bif Nat.beq f 27 && Nat.beq i 2 then ([2, 5, 11, 12, 13, 21, 22, 23], [2, 10]) else
  bif Nat.beq f 31 && Nat.beq i 0 then ([0, 1, 5], []) else
  bif Nat.beq f 33 && Nat.beq i 0 then ([2, 5, 11, 12, 13], [2, 10]) else
  bif Nat.beq f 34 && Nat.beq i 0 then ([3, 6, 7, 8], []) else
  bif Nat.beq f 36 && Nat.beq i 0 then ([2, 3, 7, 13, 14, 15], [3, 12]) else
  bif Nat.beq f 36 && Nat.beq i 2 then ([2, 3, 7, 13, 14, 15, 23, 24, 25], [3, 12]) else
  bif Nat.beq f 43 && Nat.beq i 0 then ([1, 3, 4], [1, 12]) else
  bif Nat.beq f 43 && Nat.beq i 2 then ([1, 3, 5], [1, 12]) else
  bif Nat.beq f 43 && Nat.beq i 4 then ([1, 3, 5, 6], [1, 12]) else
  bif Nat.beq f 43 && Nat.beq i 6 then ([1, 3, 5, 6, 7, 8], [1, 12]) else
  bif Nat.beq f 44 && Nat.beq i 0 then ([2, 5, 6, 7], [2, 11, 15]) else
  bif Nat.beq f 44 && Nat.beq i 2 then ([2, 5, 6, 7, 8, 9], [2, 11, 15]) else
  bif Nat.beq f 45 && Nat.beq i 0 then ([2, 5, 6], [2, 10]) else
  bif Nat.beq f 45 && Nat.beq i 2 then ([2, 5, 6, 7], [2, 10]) else
  bif Nat.beq f 45 && Nat.beq i 4 then ([2, 5, 6, 7, 8], [2, 10]) else
  bif Nat.beq f 47 && Nat.beq i 0 then ([1, 2, 3, 7], [3]) else
  bif Nat.beq f 48 && Nat.beq i 0 then ([0, 1, 5], []) else
  bif Nat.beq f 49 && Nat.beq i 0 then ([0, 3, 4], [5]) else
  bif Nat.beq f 50 && Nat.beq i 0 then ([0, 3, 4], [7]) else
  bif Nat.beq f 53 && Nat.beq i 0 then ([1, 3, 12, 13], [1, 3, 10]) else
  bif Nat.beq f 53 && Nat.beq i 2 then ([1, 3, 5], [1, 3, 10]) else
  bif Nat.beq f 53 && Nat.beq i 4 then ([1, 3, 5, 22, 23], [1, 3, 10]) else
  bif Nat.beq f 55 && Nat.beq i 0 then ([2, 5, 6, 7], [2, 11, 12]) else
  bif Nat.beq f 55 && Nat.beq i 2 then ([2, 5, 6, 7, 28, 29, 30], [2, 11, 12]) else
  bif Nat.beq f 61 && Nat.beq i 0 then ([0, 1, 7, 8], []) else
  bif Nat.beq f 62 && Nat.beq i 0 then ([0, 1, 5], []) else
  bif Nat.beq f 64 && Nat.beq i 0 then ([2, 5, 6, 17, 18, 19], [2, 15, 16]) else
  bif Nat.beq f 64 && Nat.beq i 2 then ([2, 5, 6, 9], [2, 15, 16]) else
  bif Nat.beq f 64 && Nat.beq i 4 then ([2, 5, 6, 9, 49, 50, 51], [2, 15, 16]) else
  bif Nat.beq f 68 && Nat.beq i 0 then ([2, 7, 8, 9], []) else
  bif Nat.beq f 72 && Nat.beq i 0 then ([0, 1, 7, 8], []) else
  bif Nat.beq f 79 && Nat.beq i 0 then ([1, 2, 6, 7, 8], [2, 10]) else
  ([], [])
def livesX (f i : Nat) : List Nat × List Nat :=
  bif Nat.beq f 6 && Nat.beq i 0 then ([2, 3], []) else
  bif Nat.beq f 6 && Nat.beq i 2 then ([1, 4, 5], [1, 18]) else
  bif Nat.beq f 14 && Nat.beq i 0 then ([1, 4], []) else
  bif Nat.beq f 15 && Nat.beq i 0 then ([2], []) else
  bif Nat.beq f 15 && Nat.beq i 2 then ([1, 2, 3], [1]) else
  bif Nat.beq f 16 && Nat.beq i 0 then ([2], []) else
  bif Nat.beq f 18 && Nat.beq i 0 then ([4], []) else
  bif Nat.beq f 19 && Nat.beq i 0 then ([3, 7], [3, 12]) else
  bif Nat.beq f 19 && Nat.beq i 2 then ([1, 2, 3, 7, 8], [3, 12]) else
  bif Nat.beq f 20 && Nat.beq i 0 then ([2], []) else
  bif Nat.beq f 21 && Nat.beq i 0 then ([0, 4], []) else
  bif Nat.beq f 22 && Nat.beq i 0 then ([3], [7]) else
  bif Nat.beq f 23 && Nat.beq i 0 then ([2], []) else
  bif Nat.beq f 23 && Nat.beq i 2 then ([1, 2, 18, 19, 20], [1]) else
  bif Nat.beq f 25 && Nat.beq i 0 then ([8], []) else
  bif Nat.beq f 25 && Nat.beq i 2 then ([2, 3, 4, 5, 8, 9, 10, 11], [4, 5, 22, 23]) else
  bif Nat.beq f 26 && Nat.beq i 0 then ([2], []) else
  bif Nat.beq f 26 && Nat.beq i 2 then ([1, 2, 3, 12, 13, 14], [3]) else
  bif Nat.beq f 27 && Nat.beq i 0 then ([5], [10]) else
  bif Nat.beq f 27 && Nat.beq i 2 then ([2, 5, 11, 12, 13], [2, 10]) else
  bif Nat.beq f 31 && Nat.beq i 0 then ([4], []) else
  bif Nat.beq f 33 && Nat.beq i 0 then ([5], [10]) else
  bif Nat.beq f 34 && Nat.beq i 0 then ([3], []) else
  bif Nat.beq f 36 && Nat.beq i 0 then ([3, 7], [3, 12]) else
  bif Nat.beq f 36 && Nat.beq i 2 then ([2, 3, 7, 13, 14, 15], [3, 12]) else
  bif Nat.beq f 43 && Nat.beq i 0 then ([1, 3], [1, 12]) else
  bif Nat.beq f 43 && Nat.beq i 2 then ([3], [12]) else
  bif Nat.beq f 43 && Nat.beq i 4 then ([1, 3, 5], [1, 12]) else
  bif Nat.beq f 43 && Nat.beq i 6 then ([1, 3, 5, 6, 7], [1, 12]) else
  bif Nat.beq f 44 && Nat.beq i 0 then ([5], [11]) else
  bif Nat.beq f 44 && Nat.beq i 2 then ([2, 5, 6, 7], [2, 11, 15]) else
  bif Nat.beq f 45 && Nat.beq i 0 then ([5], [10]) else
  bif Nat.beq f 45 && Nat.beq i 2 then ([2, 5, 6], [2, 10]) else
  bif Nat.beq f 45 && Nat.beq i 4 then ([2, 5, 6, 7], [2, 10]) else
  bif Nat.beq f 47 && Nat.beq i 0 then ([6], []) else
  bif Nat.beq f 48 && Nat.beq i 0 then ([4], []) else
  bif Nat.beq f 49 && Nat.beq i 0 then ([3], [5]) else
  bif Nat.beq f 50 && Nat.beq i 0 then ([3], [7]) else
  bif Nat.beq f 53 && Nat.beq i 0 then ([1, 3], [1, 3, 10]) else
  bif Nat.beq f 53 && Nat.beq i 2 then ([3], [3, 10]) else
  bif Nat.beq f 53 && Nat.beq i 4 then ([1, 3, 5], [1, 3, 10]) else
  bif Nat.beq f 55 && Nat.beq i 0 then ([5], [11]) else
  bif Nat.beq f 55 && Nat.beq i 2 then ([2, 5, 6, 7], [2, 11, 12]) else
  bif Nat.beq f 61 && Nat.beq i 0 then ([4], []) else
  bif Nat.beq f 62 && Nat.beq i 0 then ([4], []) else
  bif Nat.beq f 64 && Nat.beq i 0 then ([2, 5, 6], [2, 15, 16]) else
  bif Nat.beq f 64 && Nat.beq i 2 then ([6], [16]) else
  bif Nat.beq f 64 && Nat.beq i 4 then ([2, 5, 6, 9], [2, 15, 16]) else
  bif Nat.beq f 68 && Nat.beq i 0 then ([6, 8], []) else
  bif Nat.beq f 72 && Nat.beq i 0 then ([4], []) else
  bif Nat.beq f 79 && Nat.beq i 0 then ([6, 7], [10]) else
  ([], [])
def promT (f i : Nat) : List (Nat × Nat × Nat × Option Nat × Nat × Ty) :=
  []
def healT (f i : Nat) : List Nat :=
  []
def renT (f i : Nat) : List (Nat × Nat) :=
  bif Nat.beq f 33 && Nat.beq i 0 then [(10, 20)] else
  []
def inlT (f : Nat) : Bool := memN f [12]
theorem okP : OkP Tryd.prog := OkP.mk' (by kernel_rfl) (by kernel_rfl)
def Φx (L N : Nat) : Tells := addT (addT (addT (addT (addT noTells 58 sortEnt) 63 tidyEnt) 57 (cloneEnt 3)) 59 compactEnt) 65 itoaEnt
theorem Φx_ok (L N : Nat) : TellsOk Tryd.prog (Φx L N) := addT_ok (addT_ok (addT_ok (addT_ok (addT_ok (no_ok _) (sort_ok ⟨Tryd.f58, rfl, by kernel_rfl, by kernel_rfl⟩ sortC sortNone)) (tidy_ok ⟨Tryd.f63, rfl, by kernel_rfl, by kernel_rfl⟩ tidyC tidyNone)) (clone_ok ⟨Tryd.f57, rfl, by kernel_rfl, by kernel_rfl⟩ cloneC cloneZero cloneNil)) (compact_ok ⟨Tryd.f59, rfl, by kernel_rfl, by kernel_rfl⟩ compactC compactNone)) (itoa_ok ⟨Tryd.f65, rfl, by kernel_rfl, by kernel_rfl⟩ itoaC)
def f39.b' {R : Type} (L N : Nat) (k : Int → Option R) (x0 : LM) (x1 : Int) : Option R :=
  bif (decide ((wi (x1 - (x0.length : Int))) < (0 : Int))) then
    k (-1 : Int)
  else k (wi (x1 - (x0.length : Int)))
def f39.b {R : Type} (L N : Nat) (k : Int → Option R) (x0 : LM) (x1 : Int) : Option R :=
  f39.b' L N k x0 x1
def f39 (L N : Nat) (x0 : LM) (x1 : Int) : Option (Int) := f39.b L N some x0 x1
def f39.ent (L N : Nat) := entRo [(.sl (.st 0)), i64] (.one i64) fun d => f39 L N d.1 d.2.1
noncomputable def E39 (L N : Nat) : Env := { P := Tryd.prog, ty := tyOf, Φ := (Φx L N), inl := inlT, live := lives, liveX := livesX, L := L, dp := none, prom := promT, heal := healT, ren := renT }
theorem f39.b_eq {R : Type} (L N : Nat) (κ : AV → Option R) (x0 : LM) (x1 : Int) :
    evBody (E39 L N) (evCallI (E39 L N) 1 2000) 1000 39 Tryd.f39 [(.tv (.sl (.st 0)) x0), (.tv i64 x1)] [] [] (finC (.one i64) κ)
    = f39.b L N (fun a0 => κ (.tv i64 a0)) x0 x1 := by kernel_rfl
theorem f39.ok (L N : Nat) (hΦ : TellsOk Tryd.prog ((Φx L N))) : EntOk Tryd.prog 39 (f39.ent L N) := entRo_ok (E := (E39 L N)) (dep := 1000) (f := Tryd.f39) (sound_of hΦ) okP (callI_sound (sound_of hΦ) okP 1 2000) rfl rfl fun d _ hy => (f39.b_eq L N (unR (.one i64)) d.1 d.2.1).trans (Eq.trans (b := f39.b L N some d.1 d.2.1) (by kernel_rfl) hy)
def Φ39 (L N : Nat) : Tells := (addT (Φx L N) 39 (f39.ent L N))
theorem Φ39_ok (L N : Nat) : TellsOk Tryd.prog (Φ39 L N) := addT_ok (Φx_ok L N) (f39.ok L N (Φx_ok L N))
def f14.s0' {R : Type} (L N : Nat) (k0_e0 : Int → Option R) (k0_r : Int → Int → Option R) (rec0 : LLM → Int → Int → Option R) (s0 : LLM) (s1 : Int) (s2 : Int) : Option R :=
  bif (decide (s2 < (s0.length : Int))) then
    bif (decide (0 ≤ s2) && decide (s2 < (s0.length : Int))) then
      (f39 L N (listAt s0 [] s2.toNat) s1).bind fun y4 =>
      bif (decide (y4 < (0 : Int))) then
        k0_r y4 (-1 : Int)
      else rec0 s0 y4 (wi (s2 + (1 : Int)))
    else none
  else k0_e0 s1
def f14.s0 {R : Type} (L N : Nat) (k0_e0 : Int → Option R) (k0_r : Int → Int → Option R) (rec0 : LLM → Int → Int → Option R) (s0 : LLM) (s1 : Int) (s2 : Int) : Option R :=
  f14.s0' L N k0_e0 k0_r rec0 s0 s1 s2
def f14.l0 {R : Type} (L N : Nat) (k0_e0 : Int → Option R) (k0_r : Int → Int → Option R) : Nat → LLM → Int → Int → Option R
  | 0, _, _, _ => none
  | n + 1, s0, s1, s2 => f14.s0 L N k0_e0 k0_r (f14.l0 L N k0_e0 k0_r n) s0 s1 s2
def f14.T0 (s0 : LLM) (s1 : Int) (s2 : Int) : T := mkT 27 [(0, (.tv (.sl (.sl (.st 0))) s0)), (1, (.tv i64 s1)), (5, (.tv i64 s2))]
def f14.H0 (s0 : LLM) (s1 : Int) (s2 : Int) : H := []
def f14.T0_e0 (z3 : Int) : T := mkT 27 [(1, (.tv i64 z3))]
def f14.H0_e0 (z3 : Int) : H := []
def f14.T0_r (z5 : Int) (z6 : Int) : T := mkT 27 [(1, (.tv i64 z5)), (4, (.tv i64 z6))]
def f14.H0_r (z5 : Int) (z6 : Int) : H := []
def f14.p0_e0' {R : Type} (L N : Nat) (k : Int → Option R) (z3 : Int) : Option R :=
  k z3
def f14.p0_e0 {R : Type} (L N : Nat) (k : Int → Option R) (z3 : Int) : Option R :=
  f14.p0_e0' L N k z3
def f14.p0_r' {R : Type} (L N : Nat) (k : Int → Option R) (z5 : Int) (z6 : Int) : Option R :=
  k z6
def f14.p0_r {R : Type} (L N : Nat) (k : Int → Option R) (z5 : Int) (z6 : Int) : Option R :=
  f14.p0_r' L N k z5 z6
def f14.b' {R : Type} (L N : Nat) (k : Int → Option R) (w0 : LLM → Int → Int → Option R) (x0 : LLM) (x1 : Int) : Option R :=
  bif (decide ((wi (x1 - (x0.length : Int))) < (0 : Int))) then
    k (-1 : Int)
  else w0 x0 (wi (x1 - (x0.length : Int))) (0 : Int)
def f14.b {R : Type} (L N : Nat) (k : Int → Option R) (x0 : LLM) (x1 : Int) : Option R :=
  f14.b' L N k (fun s0 s1 s2 => f14.l0 L N (fun z3 => f14.p0_e0 L N k z3) (fun z5 z6 => f14.p0_r L N k z5 z6) L s0 s1 s2) x0 x1
def f14 (L N : Nat) (x0 : LLM) (x1 : Int) : Option (Int) := f14.b L N some x0 x1
def f14.ent (L N : Nat) := entRo [(.sl (.sl (.st 0))), i64] (.one i64) fun d => f14 L N d.1 d.2.1
noncomputable def E14 (L N : Nat) : Env := { P := Tryd.prog, ty := tyOf, Φ := (Φ39 L N), inl := inlT, live := lives, liveX := livesX, L := L, dp := none, prom := promT, heal := healT, ren := renT }
noncomputable def f14.c0 : Code := loopAt 0 (codeOf Tryd.f14)
def f14.X0_e0 {R : Type} (κ : KX R) := fun z3 => κ (.exit 0) (f14.T0_e0 z3) (f14.H0_e0 z3)
def f14.X0_r {R : Type} (κ : KX R) := fun z5 z6 => κ .ret (f14.T0_r z5 z6) (f14.H0_r z5 z6)
def f14.R0 {R : Type} (rec : KT R) := fun s0 s1 s2 => rec (f14.T0 s0 s1 s2) (f14.H0 s0 s1 s2)
theorem f14.s0_eq {R : Type} (L N : Nat) (κ : KX R) (rec : KT R) (s0 : LLM) (s1 : Int) (s2 : Int) :
    evRd (E14 L N) (evCallI (E14 L N) 1 2000) 1000 14 27 0 f14.c0 κ rec (f14.T0 s0 s1 s2) (f14.H0 s0 s1 s2)
    = f14.s0 L N (f14.X0_e0 κ) (f14.X0_r κ) (f14.R0 rec) s0 s1 s2 := by kernel_rfl
theorem f14.l0_eq {R : Type} (L N : Nat) (κ : KX R) : ∀ (n : Nat) (s0 : LLM) (s1 : Int) (s2 : Int),
    evLp (E14 L N) (evCallI (E14 L N) 1 2000) 1000 14 27 0 f14.c0 κ n (f14.T0 s0 s1 s2) (f14.H0 s0 s1 s2)
    = f14.l0 L N (f14.X0_e0 κ) (f14.X0_r κ) n s0 s1 s2 := by
  intro n
  induction n with
  | zero => intros; rfl
  | succ n ih =>
    intro s0 s1 s2
    rw [evLp_succ, f14.s0_eq]
    delta f14.R0
    simp only [ih]
    rfl
theorem f14.p0_e0_eq {R : Type} (L N : Nat) (κ : AV → Option R) (z3 : Int) :
    (contAt (E14 L N) (evCallI (E14 L N) 1 2000) 1000 14 27 0 (codeOf Tryd.f14) (finK (E14 L N) 1000 Tryd.f14 (finC (.one i64) κ))) (.exit 0) (f14.T0_e0 z3) (f14.H0_e0 z3)
    = f14.p0_e0 L N (fun a0 => κ (.tv i64 a0)) z3 := by kernel_rfl
theorem f14.p0_r_eq {R : Type} (L N : Nat) (κ : AV → Option R) (z5 : Int) (z6 : Int) :
    (contAt (E14 L N) (evCallI (E14 L N) 1 2000) 1000 14 27 0 (codeOf Tryd.f14) (finK (E14 L N) 1000 Tryd.f14 (finC (.one i64) κ))) .ret (f14.T0_r z5 z6) (f14.H0_r z5 z6)
    = f14.p0_r L N (fun a0 => κ (.tv i64 a0)) z5 z6 := by kernel_rfl
theorem f14.b_eq {R : Type} (L N : Nat) (κ : AV → Option R) (x0 : LLM) (x1 : Int) :
    evBody (E14 L N) (evCallI (E14 L N) 1 2000) 1000 14 Tryd.f14 [(.tv (.sl (.sl (.st 0))) x0), (.tv i64 x1)] [] [] (finC (.one i64) κ)
    = f14.b L N (fun a0 => κ (.tv i64 a0)) x0 x1 := by
  refine Eq.trans (b := f14.b' L N (fun a0 => κ (.tv i64 a0)) (fun s0 s1 s2 => evLp (E14 L N) (evCallI (E14 L N) 1 2000) 1000 14 27 0 f14.c0 (contAt (E14 L N) (evCallI (E14 L N) 1 2000) 1000 14 27 0 (codeOf Tryd.f14) (finK (E14 L N) 1000 Tryd.f14 (finC (.one i64) κ))) L (f14.T0 s0 s1 s2) (f14.H0 s0 s1 s2)) x0 x1) (by kernel_rfl) ?_
  unfold f14.b
  simp only [f14.l0_eq]
  delta f14.X0_e0 f14.X0_r
  simp only [f14.p0_e0_eq, f14.p0_r_eq]
theorem f14.ok (L N : Nat) (hΦ : TellsOk Tryd.prog ((Φ39 L N))) : EntOk Tryd.prog 14 (f14.ent L N) := entRo_ok (E := (E14 L N)) (dep := 1000) (f := Tryd.f14) (sound_of hΦ) okP (callI_sound (sound_of hΦ) okP 1 2000) rfl rfl fun d _ hy => (f14.b_eq L N (unR (.one i64)) d.1 d.2.1).trans (Eq.trans (b := f14.b L N some d.1 d.2.1) (by kernel_rfl) hy)
def Φ14 (L N : Nat) : Tells := (addT (Φ39 L N) 14 (f14.ent L N))
theorem Φ14_ok (L N : Nat) : TellsOk Tryd.prog (Φ14 L N) := addT_ok (Φ39_ok L N) (f14.ok L N (Φ39_ok L N))
def f5.b' {R : Type} (L N : Nat) (k : Int → Option R) (x0 : Graph) (x1 : Int) : Option R :=
  (f14 L N x0.moves x1).bind fun y0 =>
  bif (decide (y0 < (0 : Int))) then
    k (-1 : Int)
  else k y0
def f5.b {R : Type} (L N : Nat) (k : Int → Option R) (x0 : Graph) (x1 : Int) : Option R :=
  f5.b' L N k x0 x1
def f5 (L N : Nat) (x0 : Graph) (x1 : Int) : Option (Int) := f5.b L N some x0 x1
def f5.ent (L N : Nat) := entRo [(.st 2), i64] (.one i64) fun d => f5 L N d.1 d.2.1
noncomputable def E5 (L N : Nat) : Env := { P := Tryd.prog, ty := tyOf, Φ := (Φ14 L N), inl := inlT, live := lives, liveX := livesX, L := L, dp := none, prom := promT, heal := healT, ren := renT }
theorem f5.b_eq {R : Type} (L N : Nat) (κ : AV → Option R) (x0 : Graph) (x1 : Int) :
    evBody (E5 L N) (evCallI (E5 L N) 1 2000) 1000 5 Tryd.f5 [(.tv (.st 2) x0), (.tv i64 x1)] [] [] (finC (.one i64) κ)
    = f5.b L N (fun a0 => κ (.tv i64 a0)) x0 x1 := by kernel_rfl
theorem f5.ok (L N : Nat) (hΦ : TellsOk Tryd.prog ((Φ14 L N))) : EntOk Tryd.prog 5 (f5.ent L N) := entRo_ok (E := (E5 L N)) (dep := 1000) (f := Tryd.f5) (sound_of hΦ) okP (callI_sound (sound_of hΦ) okP 1 2000) rfl rfl fun d _ hy => (f5.b_eq L N (unR (.one i64)) d.1 d.2.1).trans (Eq.trans (b := f5.b L N some d.1 d.2.1) (by kernel_rfl) hy)
def Φ5 (L N : Nat) : Tells := (addT (Φ14 L N) 5 (f5.ent L N))
theorem Φ5_ok (L N : Nat) : TellsOk Tryd.prog (Φ5 L N) := addT_ok (Φ14_ok L N) (f5.ok L N (Φ14_ok L N))
def f40.b' {R : Type} (L N : Nat) (k : Bool → Option R) (x0 : Int) (x1 : Int) (x2 : Int) : Option R :=
  bif (decide (x0 ≥ x1)) then
    k (decide (x0 ≤ x2))
  else k false
def f40.b {R : Type} (L N : Nat) (k : Bool → Option R) (x0 : Int) (x1 : Int) (x2 : Int) : Option R :=
  f40.b' L N k x0 x1 x2
def f40 (L N : Nat) (x0 : Int) (x1 : Int) (x2 : Int) : Option (Bool) := f40.b L N some x0 x1 x2
def f40.ent (L N : Nat) := entRo [i64, i64, i64] (.one .bool) fun d => f40 L N d.1 d.2.1 d.2.2.1
noncomputable def E40 (L N : Nat) : Env := { P := Tryd.prog, ty := tyOf, Φ := (Φ5 L N), inl := inlT, live := lives, liveX := livesX, L := L, dp := none, prom := promT, heal := healT, ren := renT }
theorem f40.b_eq {R : Type} (L N : Nat) (κ : AV → Option R) (x0 : Int) (x1 : Int) (x2 : Int) :
    evBody (E40 L N) (evCallI (E40 L N) 1 2000) 1000 40 Tryd.f40 [(.tv i64 x0), (.tv i64 x1), (.tv i64 x2)] [] [] (finC (.one .bool) κ)
    = f40.b L N (fun a0 => κ (.tv .bool a0)) x0 x1 x2 := by kernel_rfl
theorem f40.ok (L N : Nat) (hΦ : TellsOk Tryd.prog ((Φ5 L N))) : EntOk Tryd.prog 40 (f40.ent L N) := entRo_ok (E := (E40 L N)) (dep := 1000) (f := Tryd.f40) (sound_of hΦ) okP (callI_sound (sound_of hΦ) okP 1 2000) rfl rfl fun d _ hy => (f40.b_eq L N (unR (.one .bool)) d.1 d.2.1 d.2.2.1).trans (Eq.trans (b := f40.b L N some d.1 d.2.1 d.2.2.1) (by kernel_rfl) hy)
def Φ40 (L N : Nat) : Tells := (addT (Φ5 L N) 40 (f40.ent L N))
theorem Φ40_ok (L N : Nat) : TellsOk Tryd.prog (Φ40 L N) := addT_ok (Φ5_ok L N) (f40.ok L N (Φ5_ok L N))
def f41.b' {R : Type} (L N : Nat) (k : Bool → Option R) (x0 : Int) : Option R :=
  (f40 L N x0 (-4 : Int) (4 : Int)).bind fun y0 =>
  k y0
def f41.b {R : Type} (L N : Nat) (k : Bool → Option R) (x0 : Int) : Option R :=
  f41.b' L N k x0
def f41 (L N : Nat) (x0 : Int) : Option (Bool) := f41.b L N some x0
def f41.ent (L N : Nat) := entRo [i64] (.one .bool) fun d => f41 L N d.1
noncomputable def E41 (L N : Nat) : Env := { P := Tryd.prog, ty := tyOf, Φ := (Φ40 L N), inl := inlT, live := lives, liveX := livesX, L := L, dp := none, prom := promT, heal := healT, ren := renT }
theorem f41.b_eq {R : Type} (L N : Nat) (κ : AV → Option R) (x0 : Int) :
    evBody (E41 L N) (evCallI (E41 L N) 1 2000) 1000 41 Tryd.f41 [(.tv i64 x0)] [] [] (finC (.one .bool) κ)
    = f41.b L N (fun a0 => κ (.tv .bool a0)) x0 := by kernel_rfl
theorem f41.ok (L N : Nat) (hΦ : TellsOk Tryd.prog ((Φ40 L N))) : EntOk Tryd.prog 41 (f41.ent L N) := entRo_ok (E := (E41 L N)) (dep := 1000) (f := Tryd.f41) (sound_of hΦ) okP (callI_sound (sound_of hΦ) okP 1 2000) rfl rfl fun d _ hy => (f41.b_eq L N (unR (.one .bool)) d.1).trans (Eq.trans (b := f41.b L N some d.1) (by kernel_rfl) hy)
def Φ41 (L N : Nat) : Tells := (addT (Φ40 L N) 41 (f41.ent L N))
theorem Φ41_ok (L N : Nat) : TellsOk Tryd.prog (Φ41 L N) := addT_ok (Φ40_ok L N) (f41.ok L N (Φ40_ok L N))
def f42.b' {R : Type} (L N : Nat) (k : Bool → Option R) (x0 : Move) (x1 : Move) : Option R :=
  bif (decide (x0.act < x1.act)) then
    k true
  else bif (x0.act == x1.act) then
    k (decide (x0.to < x1.to))
  else k false
def f42.b {R : Type} (L N : Nat) (k : Bool → Option R) (x0 : Move) (x1 : Move) : Option R :=
  f42.b' L N k x0 x1
def f42 (L N : Nat) (x0 : Move) (x1 : Move) : Option (Bool) := f42.b L N some x0 x1
def f42.ent (L N : Nat) := entRo [(.st 0), (.st 0)] (.one .bool) fun d => f42 L N d.1 d.2.1
noncomputable def E42 (L N : Nat) : Env := { P := Tryd.prog, ty := tyOf, Φ := (Φ41 L N), inl := inlT, live := lives, liveX := livesX, L := L, dp := none, prom := promT, heal := healT, ren := renT }
theorem f42.b_eq {R : Type} (L N : Nat) (κ : AV → Option R) (x0 : Move) (x1 : Move) :
    evBody (E42 L N) (evCallI (E42 L N) 1 2000) 1000 42 Tryd.f42 [(.tv (.st 0) x0), (.tv (.st 0) x1)] [] [] (finC (.one .bool) κ)
    = f42.b L N (fun a0 => κ (.tv .bool a0)) x0 x1 := by kernel_rfl
theorem f42.ok (L N : Nat) (hΦ : TellsOk Tryd.prog ((Φ41 L N))) : EntOk Tryd.prog 42 (f42.ent L N) := entRo_ok (E := (E42 L N)) (dep := 1000) (f := Tryd.f42) (sound_of hΦ) okP (callI_sound (sound_of hΦ) okP 1 2000) rfl rfl fun d _ hy => (f42.b_eq L N (unR (.one .bool)) d.1 d.2.1).trans (Eq.trans (b := f42.b L N some d.1 d.2.1) (by kernel_rfl) hy)
def Φ42 (L N : Nat) : Tells := (addT (Φ41 L N) 42 (f42.ent L N))
theorem Φ42_ok (L N : Nat) : TellsOk Tryd.prog (Φ42 L N) := addT_ok (Φ41_ok L N) (f42.ok L N (Φ41_ok L N))
def f15.s1' {R : Type} (L N : Nat) (k1_e2 : Int → LLM → Option R) (k1_r : Bool → Int → LLM → Option R) (rec1 : Int → Int → LLM → Option R) (s3 : Int) (s4 : Int) (s5 : LLM) : Option R :=
  bif (decide (0 ≤ s3) && decide (s3 < (s5.length : Int))) then
    bif (decide (s4 < ((listAt s5 [] s3.toNat).length : Int))) then
      bif (decide (0 ≤ s3) && decide (s3 < (s5.length : Int))) then
        bif (decide (0 ≤ s4) && decide (s4 < ((listAt s5 [] s3.toNat).length : Int))) then
          (f41 L N ((listAt (listAt s5 [] s3.toNat) (Ty.dflt (.st 0)) s4.toNat).act)).bind fun y8 =>
          bif (!y8) then
            k1_r false s3 s5
          else (f40 L N ((listAt (listAt s5 [] s3.toNat) (Ty.dflt (.st 0)) s4.toNat).to) (0 : Int) (wi ((s5.length : Int) - (1 : Int)))).bind fun y9 =>
          bif (!y9) then
            k1_r false s3 s5
          else bif (decide (s4 > (0 : Int))) then
            bif (decide (0 ≤ s3) && decide (s3 < (s5.length : Int))) then
              bif (decide (0 ≤ (wi (s4 - (1 : Int)))) && decide ((wi (s4 - (1 : Int))) < ((listAt s5 [] s3.toNat).length : Int))) then
                (f42 L N (listAt (listAt s5 [] s3.toNat) (Ty.dflt (.st 0)) (wi (s4 - (1 : Int))).toNat) (Move.mk ((listAt (listAt s5 [] s3.toNat) (Ty.dflt (.st 0)) s4.toNat).act) ((listAt (listAt s5 [] s3.toNat) (Ty.dflt (.st 0)) s4.toNat).to))).bind fun y10 =>
                bif (!y10) then
                  k1_r false s3 s5
                else rec1 s3 (wi (s4 + (1 : Int))) s5
              else none
            else none
          else rec1 s3 (wi (s4 + (1 : Int))) s5
        else none
      else none
    else k1_e2 s3 s5
  else none
def f15.s1 {R : Type} (L N : Nat) (k1_e2 : Int → LLM → Option R) (k1_r : Bool → Int → LLM → Option R) (rec1 : Int → Int → LLM → Option R) (s3 : Int) (s4 : Int) (s5 : LLM) : Option R :=
  f15.s1' L N k1_e2 k1_r rec1 s3 s4 s5
def f15.l1 {R : Type} (L N : Nat) (k1_e2 : Int → LLM → Option R) (k1_r : Bool → Int → LLM → Option R) : Nat → Int → Int → LLM → Option R
  | 0, _, _, _ => none
  | n + 1, s3, s4, s5 => f15.s1 L N k1_e2 k1_r (f15.l1 L N k1_e2 k1_r n) s3 s4 s5
def f15.T1 (s3 : Int) (s4 : Int) (s5 : LLM) : T := mkT 68 [(1, (.ptr 1001 0)), (3, (.tv i64 s3)), (4, (.tv i64 s4))]
def f15.H1 (s3 : Int) (s4 : Int) (s5 : LLM) : H := [(1001, (.box [(.tv (.sl (.sl (.st 0))) s5)]))]
def f15.T1_e2 (z6 : Int) (z7 : LLM) : T := mkT 68 [(1, (.ptr 1001 0)), (3, (.tv i64 z6))]
def f15.H1_e2 (z6 : Int) (z7 : LLM) : H := [(1001, (.box [(.tv (.sl (.sl (.st 0))) z7)]))]
def f15.T1_r (z15 : Bool) (z16 : Int) (z17 : LLM) : T := mkT 68 [(1, (.ptr 1001 0)), (2, (.tv .bool z15)), (3, (.tv i64 z16))]
def f15.H1_r (z15 : Bool) (z16 : Int) (z17 : LLM) : H := [(1001, (.box [(.tv (.sl (.sl (.st 0))) z17)]))]
def f15.p1_e2' {R : Type} (L N : Nat) (k0_e0 : Option R) (k0_r : Bool → Option R) (rec0 : Int → LLM → Option R) (z6 : Int) (z7 : LLM) : Option R :=
  rec0 (wi (z6 + (1 : Int))) z7
def f15.p1_e2 {R : Type} (L N : Nat) (k0_e0 : Option R) (k0_r : Bool → Option R) (rec0 : Int → LLM → Option R) (z6 : Int) (z7 : LLM) : Option R :=
  f15.p1_e2' L N k0_e0 k0_r rec0 z6 z7
def f15.p1_r' {R : Type} (L N : Nat) (k0_e0 : Option R) (k0_r : Bool → Option R) (rec0 : Int → LLM → Option R) (z15 : Bool) (z16 : Int) (z17 : LLM) : Option R :=
  k0_r z15
def f15.p1_r {R : Type} (L N : Nat) (k0_e0 : Option R) (k0_r : Bool → Option R) (rec0 : Int → LLM → Option R) (z15 : Bool) (z16 : Int) (z17 : LLM) : Option R :=
  f15.p1_r' L N k0_e0 k0_r rec0 z15 z16 z17
def f15.s0' {R : Type} (L N : Nat) (k0_e0 : Option R) (k0_r : Bool → Option R) (rec0 : Int → LLM → Option R) (w1 : Int → Int → LLM → Option R) (s1 : Int) (s2 : LLM) : Option R :=
  bif (decide (s1 < (s2.length : Int))) then
    w1 s1 (0 : Int) s2
  else k0_e0
def f15.s0 {R : Type} (L N : Nat) (k0_e0 : Option R) (k0_r : Bool → Option R) (rec0 : Int → LLM → Option R) (s1 : Int) (s2 : LLM) : Option R :=
  f15.s0' L N k0_e0 k0_r rec0 (fun s3 s4 s5 => f15.l1 L N (fun z6 z7 => f15.p1_e2 L N k0_e0 k0_r rec0 z6 z7) (fun z15 z16 z17 => f15.p1_r L N k0_e0 k0_r rec0 z15 z16 z17) L s3 s4 s5) s1 s2
def f15.l0 {R : Type} (L N : Nat) (k0_e0 : Option R) (k0_r : Bool → Option R) : Nat → Int → LLM → Option R
  | 0, _, _ => none
  | n + 1, s1, s2 => f15.s0 L N k0_e0 k0_r (f15.l0 L N k0_e0 k0_r n) s1 s2
def f15.T0 (s1 : Int) (s2 : LLM) : T := mkT 68 [(1, (.ptr 1001 0)), (3, (.tv i64 s1))]
def f15.H0 (s1 : Int) (s2 : LLM) : H := [(1001, (.box [(.tv (.sl (.sl (.st 0))) s2)]))]
def f15.T0_e0 : T := mkT 68 []
def f15.H0_e0 : H := []
def f15.T0_r (z21 : Bool) : T := mkT 68 [(2, (.tv .bool z21))]
def f15.H0_r (z21 : Bool) : H := []
def f15.p0_e0' {R : Type} (L N : Nat) (k : Bool → Option R) : Option R :=
  k true
def f15.p0_e0 {R : Type} (L N : Nat) (k : Bool → Option R) : Option R :=
  f15.p0_e0' L N k
def f15.p0_r' {R : Type} (L N : Nat) (k : Bool → Option R) (z21 : Bool) : Option R :=
  k z21
def f15.p0_r {R : Type} (L N : Nat) (k : Bool → Option R) (z21 : Bool) : Option R :=
  f15.p0_r' L N k z21
def f15.b' {R : Type} (L N : Nat) (k : Bool → Option R) (w0 : Int → LLM → Option R) (x0 : Graph) : Option R :=
  (f40 L N (x0.moves.length : Int) (1 : Int) (60 : Int)).bind fun y0 =>
  bif (!y0) then
    k false
  else w0 (0 : Int) x0.moves
def f15.b {R : Type} (L N : Nat) (k : Bool → Option R) (x0 : Graph) : Option R :=
  f15.b' L N k (fun s1 s2 => f15.l0 L N (f15.p0_e0 L N k) (fun z21 => f15.p0_r L N k z21) L s1 s2) x0
def f15 (L N : Nat) (x0 : Graph) : Option (Bool) := f15.b L N some x0
def f15.ent (L N : Nat) := entRo [(.st 2)] (.one .bool) fun d => f15 L N d.1
noncomputable def E15 (L N : Nat) : Env := { P := Tryd.prog, ty := tyOf, Φ := (Φ42 L N), inl := inlT, live := lives, liveX := livesX, L := L, dp := none, prom := promT, heal := healT, ren := renT }
noncomputable def f15.c0 : Code := loopAt 0 (codeOf Tryd.f15)
noncomputable def f15.c1 : Code := loopAt 2 f15.c0
def f15.X1_e2 {R : Type} (κ : KX R) := fun z6 z7 => κ (.exit 2) (f15.T1_e2 z6 z7) (f15.H1_e2 z6 z7)
def f15.X1_r {R : Type} (κ : KX R) := fun z15 z16 z17 => κ .ret (f15.T1_r z15 z16 z17) (f15.H1_r z15 z16 z17)
def f15.R1 {R : Type} (rec : KT R) := fun s3 s4 s5 => rec (f15.T1 s3 s4 s5) (f15.H1 s3 s4 s5)
theorem f15.s1_eq {R : Type} (L N : Nat) (κ : KX R) (rec : KT R) (s3 : Int) (s4 : Int) (s5 : LLM) :
    evRd (E15 L N) (evCallI (E15 L N) 1 2000) 1000 15 68 2 f15.c1 κ rec (f15.T1 s3 s4 s5) (f15.H1 s3 s4 s5)
    = f15.s1 L N (f15.X1_e2 κ) (f15.X1_r κ) (f15.R1 rec) s3 s4 s5 := by kernel_rfl
theorem f15.l1_eq {R : Type} (L N : Nat) (κ : KX R) : ∀ (n : Nat) (s3 : Int) (s4 : Int) (s5 : LLM),
    evLp (E15 L N) (evCallI (E15 L N) 1 2000) 1000 15 68 2 f15.c1 κ n (f15.T1 s3 s4 s5) (f15.H1 s3 s4 s5)
    = f15.l1 L N (f15.X1_e2 κ) (f15.X1_r κ) n s3 s4 s5 := by
  intro n
  induction n with
  | zero => intros; rfl
  | succ n ih =>
    intro s3 s4 s5
    rw [evLp_succ, f15.s1_eq]
    delta f15.R1
    simp only [ih]
    rfl
def f15.X0_e0 {R : Type} (κ : KX R) := κ (.exit 0) f15.T0_e0 f15.H0_e0
def f15.X0_r {R : Type} (κ : KX R) := fun z21 => κ .ret (f15.T0_r z21) (f15.H0_r z21)
def f15.R0 {R : Type} (rec : KT R) := fun s1 s2 => rec (f15.T0 s1 s2) (f15.H0 s1 s2)
theorem f15.p1_e2_eq {R : Type} (L N : Nat) (κ : KX R) (rec : KT R) (z6 : Int) (z7 : LLM) :
    (contAt (E15 L N) (evCallI (E15 L N) 1 2000) 1000 15 68 2 f15.c0 (rdK (E15 L N) 1000 15 68 0 κ rec)) (.exit 2) (f15.T1_e2 z6 z7) (f15.H1_e2 z6 z7)
    = f15.p1_e2 L N (f15.X0_e0 κ) (f15.X0_r κ) (f15.R0 rec) z6 z7 := by kernel_rfl
theorem f15.p1_r_eq {R : Type} (L N : Nat) (κ : KX R) (rec : KT R) (z15 : Bool) (z16 : Int) (z17 : LLM) :
    (contAt (E15 L N) (evCallI (E15 L N) 1 2000) 1000 15 68 2 f15.c0 (rdK (E15 L N) 1000 15 68 0 κ rec)) .ret (f15.T1_r z15 z16 z17) (f15.H1_r z15 z16 z17)
    = f15.p1_r L N (f15.X0_e0 κ) (f15.X0_r κ) (f15.R0 rec) z15 z16 z17 := by kernel_rfl
theorem f15.s0_eq {R : Type} (L N : Nat) (κ : KX R) (rec : KT R) (s1 : Int) (s2 : LLM) :
    evRd (E15 L N) (evCallI (E15 L N) 1 2000) 1000 15 68 0 f15.c0 κ rec (f15.T0 s1 s2) (f15.H0 s1 s2)
    = f15.s0 L N (f15.X0_e0 κ) (f15.X0_r κ) (f15.R0 rec) s1 s2 := by
  refine Eq.trans (b := f15.s0' L N (f15.X0_e0 κ) (f15.X0_r κ) (f15.R0 rec) (fun s3 s4 s5 => evLp (E15 L N) (evCallI (E15 L N) 1 2000) 1000 15 68 2 f15.c1 (contAt (E15 L N) (evCallI (E15 L N) 1 2000) 1000 15 68 2 f15.c0 (rdK (E15 L N) 1000 15 68 0 κ rec)) L (f15.T1 s3 s4 s5) (f15.H1 s3 s4 s5)) s1 s2) (by kernel_rfl) ?_
  unfold f15.s0
  simp only [f15.l1_eq]
  delta f15.X1_e2 f15.X1_r
  simp only [f15.p1_e2_eq, f15.p1_r_eq]
theorem f15.l0_eq {R : Type} (L N : Nat) (κ : KX R) : ∀ (n : Nat) (s1 : Int) (s2 : LLM),
    evLp (E15 L N) (evCallI (E15 L N) 1 2000) 1000 15 68 0 f15.c0 κ n (f15.T0 s1 s2) (f15.H0 s1 s2)
    = f15.l0 L N (f15.X0_e0 κ) (f15.X0_r κ) n s1 s2 := by
  intro n
  induction n with
  | zero => intros; rfl
  | succ n ih =>
    intro s1 s2
    rw [evLp_succ, f15.s0_eq]
    delta f15.R0
    simp only [ih]
    rfl
theorem f15.p0_e0_eq {R : Type} (L N : Nat) (κ : AV → Option R) :
    (contAt (E15 L N) (evCallI (E15 L N) 1 2000) 1000 15 68 0 (codeOf Tryd.f15) (finK (E15 L N) 1000 Tryd.f15 (finC (.one .bool) κ))) (.exit 0) f15.T0_e0 f15.H0_e0
    = f15.p0_e0 L N (fun a0 => κ (.tv .bool a0)) := by kernel_rfl
theorem f15.p0_r_eq {R : Type} (L N : Nat) (κ : AV → Option R) (z21 : Bool) :
    (contAt (E15 L N) (evCallI (E15 L N) 1 2000) 1000 15 68 0 (codeOf Tryd.f15) (finK (E15 L N) 1000 Tryd.f15 (finC (.one .bool) κ))) .ret (f15.T0_r z21) (f15.H0_r z21)
    = f15.p0_r L N (fun a0 => κ (.tv .bool a0)) z21 := by kernel_rfl
theorem f15.b_eq {R : Type} (L N : Nat) (κ : AV → Option R) (x0 : Graph) :
    evBody (E15 L N) (evCallI (E15 L N) 1 2000) 1000 15 Tryd.f15 [(.tv (.st 2) x0)] [] [] (finC (.one .bool) κ)
    = f15.b L N (fun a0 => κ (.tv .bool a0)) x0 := by
  refine Eq.trans (b := f15.b' L N (fun a0 => κ (.tv .bool a0)) (fun s1 s2 => evLp (E15 L N) (evCallI (E15 L N) 1 2000) 1000 15 68 0 f15.c0 (contAt (E15 L N) (evCallI (E15 L N) 1 2000) 1000 15 68 0 (codeOf Tryd.f15) (finK (E15 L N) 1000 Tryd.f15 (finC (.one .bool) κ))) L (f15.T0 s1 s2) (f15.H0 s1 s2)) x0) (by kernel_rfl) ?_
  unfold f15.b
  simp only [f15.l0_eq]
  delta f15.X0_e0 f15.X0_r
  simp only [f15.p0_e0_eq, f15.p0_r_eq]
theorem f15.ok (L N : Nat) (hΦ : TellsOk Tryd.prog ((Φ42 L N))) : EntOk Tryd.prog 15 (f15.ent L N) := entRo_ok (E := (E15 L N)) (dep := 1000) (f := Tryd.f15) (sound_of hΦ) okP (callI_sound (sound_of hΦ) okP 1 2000) rfl rfl fun d _ hy => (f15.b_eq L N (unR (.one .bool)) d.1).trans (Eq.trans (b := f15.b L N some d.1) (by kernel_rfl) hy)
def Φ15 (L N : Nat) : Tells := (addT (Φ42 L N) 15 (f15.ent L N))
theorem Φ15_ok (L N : Nat) : TellsOk Tryd.prog (Φ15 L N) := addT_ok (Φ42_ok L N) (f15.ok L N (Φ42_ok L N))
def f43.s0' {R : Type} (L N : Nat) (k0_e0 : LLM → LB → Option R) (rec0 : Int → LLM → LB → Option R) (s0 : Int) (s1 : LLM) (s2 : LB) : Option R :=
  bif (decide (s0 < (s2.length : Int))) then
    bif (decide (0 ≤ s0) && decide (s0 < (s2.length : Int))) then
      rec0 (wi (s0 + (1 : Int))) s1 (s2.set s0.toNat true)
    else none
  else k0_e0 s1 s2
def f43.s0 {R : Type} (L N : Nat) (k0_e0 : LLM → LB → Option R) (rec0 : Int → LLM → LB → Option R) (s0 : Int) (s1 : LLM) (s2 : LB) : Option R :=
  f43.s0' L N k0_e0 rec0 s0 s1 s2
def f43.l0 {R : Type} (L N : Nat) (k0_e0 : LLM → LB → Option R) : Nat → Int → LLM → LB → Option R
  | 0, _, _, _ => none
  | n + 1, s0, s1, s2 => f43.s0 L N k0_e0 (f43.l0 L N k0_e0 n) s0 s1 s2
def f43.T0 (s0 : Int) (s1 : LLM) (s2 : LB) : T := mkT 78 [(1, (.ptr 1001 0)), (3, (.row 1012)), (4, (.tv i64 s0))]
def f43.H0 (s0 : Int) (s1 : LLM) (s2 : LB) : H := [(1001, (.box [(.tv (.sl (.sl (.st 0))) s1)])), (1012, (.row 4 .bool s2))]
def f43.T0_e0 (z3 : LLM) (z4 : LB) : T := mkT 78 [(1, (.ptr 1001 0)), (3, (.row 1012))]
def f43.H0_e0 (z3 : LLM) (z4 : LB) : H := [(1001, (.box [(.tv (.sl (.sl (.st 0))) z3)])), (1012, (.row 4 .bool z4))]
def f43.s3' {R : Type} (L N : Nat) (k3_e6 : Bool → Int → Bool → LLM → LB → Option R) (rec3 : Bool → Int → Bool → Int → LLM → LB → Option R) (s16 : Bool) (s17 : Int) (s18 : Bool) (s19 : Int) (s20 : LLM) (s21 : LB) : Option R :=
  bif (decide (0 ≤ s17) && decide (s17 < (s20.length : Int))) then
    bif (decide (s19 < ((listAt s20 [] s17.toNat).length : Int))) then
      bif s18 then
        rec3 s16 s17 true (wi (s19 + (1 : Int))) s20 s21
      else bif (decide (0 ≤ s17) && decide (s17 < (s20.length : Int))) then
        bif (decide (0 ≤ s19) && decide (s19 < ((listAt s20 [] s17.toNat).length : Int))) then
          bif ((listAt (listAt s20 [] s17.toNat) (Ty.dflt (.st 0)) s19.toNat).act == (0 : Int)) then
            bif (decide (0 ≤ s17) && decide (s17 < (s20.length : Int))) then
              bif (decide (0 ≤ s19) && decide (s19 < ((listAt s20 [] s17.toNat).length : Int))) then
                bif (decide (0 ≤ (listAt (listAt s20 [] s17.toNat) (Ty.dflt (.st 0)) s19.toNat).to) && decide ((listAt (listAt s20 [] s17.toNat) (Ty.dflt (.st 0)) s19.toNat).to < (s21.length : Int))) then
                  rec3 s16 s17 (listAt s21 false ((listAt (listAt s20 [] s17.toNat) (Ty.dflt (.st 0)) s19.toNat).to).toNat) (wi (s19 + (1 : Int))) s20 s21
                else none
              else none
            else none
          else rec3 s16 s17 false (wi (s19 + (1 : Int))) s20 s21
        else none
      else none
    else k3_e6 s16 s17 s18 s20 s21
  else none
def f43.s3 {R : Type} (L N : Nat) (k3_e6 : Bool → Int → Bool → LLM → LB → Option R) (rec3 : Bool → Int → Bool → Int → LLM → LB → Option R) (s16 : Bool) (s17 : Int) (s18 : Bool) (s19 : Int) (s20 : LLM) (s21 : LB) : Option R :=
  f43.s3' L N k3_e6 rec3 s16 s17 s18 s19 s20 s21
def f43.l3 {R : Type} (L N : Nat) (k3_e6 : Bool → Int → Bool → LLM → LB → Option R) : Nat → Bool → Int → Bool → Int → LLM → LB → Option R
  | 0, _, _, _, _, _, _ => none
  | n + 1, s16, s17, s18, s19, s20, s21 => f43.s3 L N k3_e6 (f43.l3 L N k3_e6 n) s16 s17 s18 s19 s20 s21
def f43.T3 (s16 : Bool) (s17 : Int) (s18 : Bool) (s19 : Int) (s20 : LLM) (s21 : LB) : T := mkT 78 [(1, (.ptr 1001 0)), (3, (.row 1012)), (5, (.tv .bool s16)), (6, (.tv i64 s17)), (7, (.tv .bool s18)), (8, (.tv i64 s19))]
def f43.H3 (s16 : Bool) (s17 : Int) (s18 : Bool) (s19 : Int) (s20 : LLM) (s21 : LB) : H := [(1001, (.box [(.tv (.sl (.sl (.st 0))) s20)])), (1012, (.row 4 .bool s21))]
def f43.T3_e6 (z22 : Bool) (z23 : Int) (z24 : Bool) (z25 : LLM) (z26 : LB) : T := mkT 78 [(1, (.ptr 1001 0)), (3, (.row 1012)), (5, (.tv .bool z22)), (6, (.tv i64 z23)), (7, (.tv .bool z24))]
def f43.H3_e6 (z22 : Bool) (z23 : Int) (z24 : Bool) (z25 : LLM) (z26 : LB) : H := [(1001, (.box [(.tv (.sl (.sl (.st 0))) z25)])), (1012, (.row 4 .bool z26))]
def f43.j0' {R : Type} (L N : Nat) (k2_e4 : Bool → LLM → LB → Option R) (rec2 : Bool → Int → LLM → LB → Option R) (v33 : Bool) (v34 : Int) (v35 : Bool) (v36 : LLM) (v37 : LB) : Option R :=
  bif v35 then
    bif (decide (0 ≤ v34) && decide (v34 < (v37.length : Int))) then
      rec2 true (wi (v34 + (1 : Int))) v36 (v37.set v34.toNat false)
    else none
  else rec2 v33 (wi (v34 + (1 : Int))) v36 v37
def f43.p3_e6' {R : Type} (L N : Nat) (k2_e4 : Bool → LLM → LB → Option R) (rec2 : Bool → Int → LLM → LB → Option R) (z22 : Bool) (z23 : Int) (z24 : Bool) (z25 : LLM) (z26 : LB) : Option R :=
  bif (decide (0 ≤ z23) && decide (z23 < (z26.length : Int))) then
    bif (listAt z26 false z23.toNat) then
      f43.j0' L N k2_e4 rec2 z22 z23 (!z24) z25 z26
    else f43.j0' L N k2_e4 rec2 z22 z23 false z25 z26
  else none
def f43.p3_e6 {R : Type} (L N : Nat) (k2_e4 : Bool → LLM → LB → Option R) (rec2 : Bool → Int → LLM → LB → Option R) (z22 : Bool) (z23 : Int) (z24 : Bool) (z25 : LLM) (z26 : LB) : Option R :=
  f43.p3_e6' L N k2_e4 rec2 z22 z23 z24 z25 z26
def f43.s2' {R : Type} (L N : Nat) (k2_e4 : Bool → LLM → LB → Option R) (rec2 : Bool → Int → LLM → LB → Option R) (w3 : Bool → Int → Bool → Int → LLM → LB → Option R) (s9 : Bool) (s10 : Int) (s11 : LLM) (s12 : LB) : Option R :=
  bif (decide (s10 < (s12.length : Int))) then
    w3 s9 s10 false (0 : Int) s11 s12
  else k2_e4 s9 s11 s12
def f43.s2 {R : Type} (L N : Nat) (k2_e4 : Bool → LLM → LB → Option R) (rec2 : Bool → Int → LLM → LB → Option R) (s9 : Bool) (s10 : Int) (s11 : LLM) (s12 : LB) : Option R :=
  f43.s2' L N k2_e4 rec2 (fun s16 s17 s18 s19 s20 s21 => f43.l3 L N (fun z22 z23 z24 z25 z26 => f43.p3_e6 L N k2_e4 rec2 z22 z23 z24 z25 z26) L s16 s17 s18 s19 s20 s21) s9 s10 s11 s12
def f43.l2 {R : Type} (L N : Nat) (k2_e4 : Bool → LLM → LB → Option R) : Nat → Bool → Int → LLM → LB → Option R
  | 0, _, _, _, _ => none
  | n + 1, s9, s10, s11, s12 => f43.s2 L N k2_e4 (f43.l2 L N k2_e4 n) s9 s10 s11 s12
def f43.T2 (s9 : Bool) (s10 : Int) (s11 : LLM) (s12 : LB) : T := mkT 78 [(1, (.ptr 1001 0)), (3, (.row 1012)), (5, (.tv .bool s9)), (6, (.tv i64 s10))]
def f43.H2 (s9 : Bool) (s10 : Int) (s11 : LLM) (s12 : LB) : H := [(1001, (.box [(.tv (.sl (.sl (.st 0))) s11)])), (1012, (.row 4 .bool s12))]
def f43.T2_e4 (z13 : Bool) (z14 : LLM) (z15 : LB) : T := mkT 78 [(1, (.ptr 1001 0)), (3, (.row 1012)), (5, (.tv .bool z13))]
def f43.H2_e4 (z13 : Bool) (z14 : LLM) (z15 : LB) : H := [(1001, (.box [(.tv (.sl (.sl (.st 0))) z14)])), (1012, (.row 4 .bool z15))]
def f43.p2_e4' {R : Type} (L N : Nat) (k1_e2 : LB → Option R) (rec1 : Bool → LLM → LB → Option R) (z13 : Bool) (z14 : LLM) (z15 : LB) : Option R :=
  rec1 z13 z14 z15
def f43.p2_e4 {R : Type} (L N : Nat) (k1_e2 : LB → Option R) (rec1 : Bool → LLM → LB → Option R) (z13 : Bool) (z14 : LLM) (z15 : LB) : Option R :=
  f43.p2_e4' L N k1_e2 rec1 z13 z14 z15
def f43.s1' {R : Type} (L N : Nat) (k1_e2 : LB → Option R) (rec1 : Bool → LLM → LB → Option R) (w2 : Bool → Int → LLM → LB → Option R) (s5 : Bool) (s6 : LLM) (s7 : LB) : Option R :=
  bif s5 then
    w2 false (0 : Int) s6 s7
  else k1_e2 s7
def f43.s1 {R : Type} (L N : Nat) (k1_e2 : LB → Option R) (rec1 : Bool → LLM → LB → Option R) (s5 : Bool) (s6 : LLM) (s7 : LB) : Option R :=
  f43.s1' L N k1_e2 rec1 (fun s9 s10 s11 s12 => f43.l2 L N (fun z13 z14 z15 => f43.p2_e4 L N k1_e2 rec1 z13 z14 z15) L s9 s10 s11 s12) s5 s6 s7
def f43.l1 {R : Type} (L N : Nat) (k1_e2 : LB → Option R) : Nat → Bool → LLM → LB → Option R
  | 0, _, _, _ => none
  | n + 1, s5, s6, s7 => f43.s1 L N k1_e2 (f43.l1 L N k1_e2 n) s5 s6 s7
def f43.T1 (s5 : Bool) (s6 : LLM) (s7 : LB) : T := mkT 78 [(1, (.ptr 1001 0)), (3, (.row 1012)), (5, (.tv .bool s5))]
def f43.H1 (s5 : Bool) (s6 : LLM) (s7 : LB) : H := [(1001, (.box [(.tv (.sl (.sl (.st 0))) s6)])), (1012, (.row 4 .bool s7))]
def f43.T1_e2 (z8 : LB) : T := mkT 78 [(3, (.row 1012))]
def f43.H1_e2 (z8 : LB) : H := [(1012, (.row 4 .bool z8))]
def f43.p1_e2' {R : Type} (L N : Nat) (k : LB → Option R) (z8 : LB) : Option R :=
  k z8
def f43.p1_e2 {R : Type} (L N : Nat) (k : LB → Option R) (z8 : LB) : Option R :=
  f43.p1_e2' L N k z8
def f43.p0_e0' {R : Type} (L N : Nat) (k : LB → Option R) (w1 : Bool → LLM → LB → Option R) (z3 : LLM) (z4 : LB) : Option R :=
  w1 true z3 z4
def f43.p0_e0 {R : Type} (L N : Nat) (k : LB → Option R) (z3 : LLM) (z4 : LB) : Option R :=
  f43.p0_e0' L N k (fun s5 s6 s7 => f43.l1 L N (fun z8 => f43.p1_e2 L N k z8) L s5 s6 s7) z3 z4
def f43.b' {R : Type} (L N : Nat) (k : LB → Option R) (w0 : Int → LLM → LB → Option R) (x0 : Graph) : Option R :=
  bif (decide (0 ≤ (x0.moves.length : Int)) && decide ((x0.moves.length : Int) ≤ (lim : Int))) then
    w0 (0 : Int) x0.moves (List.replicate (x0.moves.length : Int).toNat false)
  else none
def f43.b {R : Type} (L N : Nat) (k : LB → Option R) (x0 : Graph) : Option R :=
  f43.b' L N k (fun s0 s1 s2 => f43.l0 L N (fun z3 z4 => f43.p0_e0 L N k z3 z4) L s0 s1 s2) x0
def f43 (L N : Nat) (x0 : Graph) : Option (LB) := f43.b L N some x0
def f43.ent (L N : Nat) := entDa [(.st 2)] (.one (.sl .bool)) fun d => f43 L N d.1
noncomputable def E43 (L N : Nat) : Env := { P := Tryd.prog, ty := tyOf, Φ := (Φ15 L N), inl := inlT, live := lives, liveX := livesX, L := L, dp := none, prom := promT, heal := healT, ren := renT }
noncomputable def f43.c0 : Code := loopAt 0 (codeOf Tryd.f43)
def f43.X0_e0 {R : Type} (κ : KX R) := fun z3 z4 => κ (.exit 0) (f43.T0_e0 z3 z4) (f43.H0_e0 z3 z4)
def f43.R0 {R : Type} (rec : KT R) := fun s0 s1 s2 => rec (f43.T0 s0 s1 s2) (f43.H0 s0 s1 s2)
theorem f43.s0_eq {R : Type} (L N : Nat) (κ : KX R) (rec : KT R) (s0 : Int) (s1 : LLM) (s2 : LB) :
    evRd (E43 L N) (evCallI (E43 L N) 1 2000) 1000 43 78 0 f43.c0 κ rec (f43.T0 s0 s1 s2) (f43.H0 s0 s1 s2)
    = f43.s0 L N (f43.X0_e0 κ) (f43.R0 rec) s0 s1 s2 := by kernel_rfl
theorem f43.l0_eq {R : Type} (L N : Nat) (κ : KX R) : ∀ (n : Nat) (s0 : Int) (s1 : LLM) (s2 : LB),
    evLp (E43 L N) (evCallI (E43 L N) 1 2000) 1000 43 78 0 f43.c0 κ n (f43.T0 s0 s1 s2) (f43.H0 s0 s1 s2)
    = f43.l0 L N (f43.X0_e0 κ) n s0 s1 s2 := by
  intro n
  induction n with
  | zero => intros; rfl
  | succ n ih =>
    intro s0 s1 s2
    rw [evLp_succ, f43.s0_eq]
    delta f43.R0
    simp only [ih]
    rfl
noncomputable def f43.c1 : Code := loopAt 2 (codeOf Tryd.f43)
noncomputable def f43.c2 : Code := loopAt 4 f43.c1
noncomputable def f43.c3 : Code := loopAt 6 f43.c2
def f43.X3_e6 {R : Type} (κ : KX R) := fun z22 z23 z24 z25 z26 => κ (.exit 6) (f43.T3_e6 z22 z23 z24 z25 z26) (f43.H3_e6 z22 z23 z24 z25 z26)
def f43.R3 {R : Type} (rec : KT R) := fun s16 s17 s18 s19 s20 s21 => rec (f43.T3 s16 s17 s18 s19 s20 s21) (f43.H3 s16 s17 s18 s19 s20 s21)
theorem f43.s3_eq {R : Type} (L N : Nat) (κ : KX R) (rec : KT R) (s16 : Bool) (s17 : Int) (s18 : Bool) (s19 : Int) (s20 : LLM) (s21 : LB) :
    evRd (E43 L N) (evCallI (E43 L N) 1 2000) 1000 43 78 6 f43.c3 κ rec (f43.T3 s16 s17 s18 s19 s20 s21) (f43.H3 s16 s17 s18 s19 s20 s21)
    = f43.s3 L N (f43.X3_e6 κ) (f43.R3 rec) s16 s17 s18 s19 s20 s21 := by kernel_rfl
theorem f43.l3_eq {R : Type} (L N : Nat) (κ : KX R) : ∀ (n : Nat) (s16 : Bool) (s17 : Int) (s18 : Bool) (s19 : Int) (s20 : LLM) (s21 : LB),
    evLp (E43 L N) (evCallI (E43 L N) 1 2000) 1000 43 78 6 f43.c3 κ n (f43.T3 s16 s17 s18 s19 s20 s21) (f43.H3 s16 s17 s18 s19 s20 s21)
    = f43.l3 L N (f43.X3_e6 κ) n s16 s17 s18 s19 s20 s21 := by
  intro n
  induction n with
  | zero => intros; rfl
  | succ n ih =>
    intro s16 s17 s18 s19 s20 s21
    rw [evLp_succ, f43.s3_eq]
    delta f43.R3
    simp only [ih]
    rfl
def f43.X2_e4 {R : Type} (κ : KX R) := fun z13 z14 z15 => κ (.exit 4) (f43.T2_e4 z13 z14 z15) (f43.H2_e4 z13 z14 z15)
def f43.R2 {R : Type} (rec : KT R) := fun s9 s10 s11 s12 => rec (f43.T2 s9 s10 s11 s12) (f43.H2 s9 s10 s11 s12)
theorem f43.p3_e6_eq {R : Type} (L N : Nat) (κ : KX R) (rec : KT R) (z22 : Bool) (z23 : Int) (z24 : Bool) (z25 : LLM) (z26 : LB) :
    (contAt (E43 L N) (evCallI (E43 L N) 1 2000) 1000 43 78 6 f43.c2 (rdK (E43 L N) 1000 43 78 4 κ rec)) (.exit 6) (f43.T3_e6 z22 z23 z24 z25 z26) (f43.H3_e6 z22 z23 z24 z25 z26)
    = f43.p3_e6 L N (f43.X2_e4 κ) (f43.R2 rec) z22 z23 z24 z25 z26 := by kernel_rfl
theorem f43.s2_eq {R : Type} (L N : Nat) (κ : KX R) (rec : KT R) (s9 : Bool) (s10 : Int) (s11 : LLM) (s12 : LB) :
    evRd (E43 L N) (evCallI (E43 L N) 1 2000) 1000 43 78 4 f43.c2 κ rec (f43.T2 s9 s10 s11 s12) (f43.H2 s9 s10 s11 s12)
    = f43.s2 L N (f43.X2_e4 κ) (f43.R2 rec) s9 s10 s11 s12 := by
  refine Eq.trans (b := f43.s2' L N (f43.X2_e4 κ) (f43.R2 rec) (fun s16 s17 s18 s19 s20 s21 => evLp (E43 L N) (evCallI (E43 L N) 1 2000) 1000 43 78 6 f43.c3 (contAt (E43 L N) (evCallI (E43 L N) 1 2000) 1000 43 78 6 f43.c2 (rdK (E43 L N) 1000 43 78 4 κ rec)) L (f43.T3 s16 s17 s18 s19 s20 s21) (f43.H3 s16 s17 s18 s19 s20 s21)) s9 s10 s11 s12) (by kernel_rfl) ?_
  unfold f43.s2
  simp only [f43.l3_eq]
  delta f43.X3_e6
  simp only [f43.p3_e6_eq]
theorem f43.l2_eq {R : Type} (L N : Nat) (κ : KX R) : ∀ (n : Nat) (s9 : Bool) (s10 : Int) (s11 : LLM) (s12 : LB),
    evLp (E43 L N) (evCallI (E43 L N) 1 2000) 1000 43 78 4 f43.c2 κ n (f43.T2 s9 s10 s11 s12) (f43.H2 s9 s10 s11 s12)
    = f43.l2 L N (f43.X2_e4 κ) n s9 s10 s11 s12 := by
  intro n
  induction n with
  | zero => intros; rfl
  | succ n ih =>
    intro s9 s10 s11 s12
    rw [evLp_succ, f43.s2_eq]
    delta f43.R2
    simp only [ih]
    rfl
def f43.X1_e2 {R : Type} (κ : KX R) := fun z8 => κ (.exit 2) (f43.T1_e2 z8) (f43.H1_e2 z8)
def f43.R1 {R : Type} (rec : KT R) := fun s5 s6 s7 => rec (f43.T1 s5 s6 s7) (f43.H1 s5 s6 s7)
theorem f43.p2_e4_eq {R : Type} (L N : Nat) (κ : KX R) (rec : KT R) (z13 : Bool) (z14 : LLM) (z15 : LB) :
    (contAt (E43 L N) (evCallI (E43 L N) 1 2000) 1000 43 78 4 f43.c1 (rdK (E43 L N) 1000 43 78 2 κ rec)) (.exit 4) (f43.T2_e4 z13 z14 z15) (f43.H2_e4 z13 z14 z15)
    = f43.p2_e4 L N (f43.X1_e2 κ) (f43.R1 rec) z13 z14 z15 := by kernel_rfl
theorem f43.s1_eq {R : Type} (L N : Nat) (κ : KX R) (rec : KT R) (s5 : Bool) (s6 : LLM) (s7 : LB) :
    evRd (E43 L N) (evCallI (E43 L N) 1 2000) 1000 43 78 2 f43.c1 κ rec (f43.T1 s5 s6 s7) (f43.H1 s5 s6 s7)
    = f43.s1 L N (f43.X1_e2 κ) (f43.R1 rec) s5 s6 s7 := by
  refine Eq.trans (b := f43.s1' L N (f43.X1_e2 κ) (f43.R1 rec) (fun s9 s10 s11 s12 => evLp (E43 L N) (evCallI (E43 L N) 1 2000) 1000 43 78 4 f43.c2 (contAt (E43 L N) (evCallI (E43 L N) 1 2000) 1000 43 78 4 f43.c1 (rdK (E43 L N) 1000 43 78 2 κ rec)) L (f43.T2 s9 s10 s11 s12) (f43.H2 s9 s10 s11 s12)) s5 s6 s7) (by kernel_rfl) ?_
  unfold f43.s1
  simp only [f43.l2_eq]
  delta f43.X2_e4
  simp only [f43.p2_e4_eq]
theorem f43.l1_eq {R : Type} (L N : Nat) (κ : KX R) : ∀ (n : Nat) (s5 : Bool) (s6 : LLM) (s7 : LB),
    evLp (E43 L N) (evCallI (E43 L N) 1 2000) 1000 43 78 2 f43.c1 κ n (f43.T1 s5 s6 s7) (f43.H1 s5 s6 s7)
    = f43.l1 L N (f43.X1_e2 κ) n s5 s6 s7 := by
  intro n
  induction n with
  | zero => intros; rfl
  | succ n ih =>
    intro s5 s6 s7
    rw [evLp_succ, f43.s1_eq]
    delta f43.R1
    simp only [ih]
    rfl
theorem f43.p1_e2_eq {R : Type} (L N : Nat) (κ : AV → Option R) (z8 : LB) :
    (contAt (E43 L N) (evCallI (E43 L N) 1 2000) 1000 43 78 2 (codeOf Tryd.f43) (finK (E43 L N) 1000 Tryd.f43 (finC (.one (.sl .bool)) κ))) (.exit 2) (f43.T1_e2 z8) (f43.H1_e2 z8)
    = f43.p1_e2 L N (fun a0 => κ (.tv (.sl .bool) a0)) z8 := by kernel_rfl
theorem f43.p0_e0_eq {R : Type} (L N : Nat) (κ : AV → Option R) (z3 : LLM) (z4 : LB) :
    (contAt (E43 L N) (evCallI (E43 L N) 1 2000) 1000 43 78 0 (codeOf Tryd.f43) (finK (E43 L N) 1000 Tryd.f43 (finC (.one (.sl .bool)) κ))) (.exit 0) (f43.T0_e0 z3 z4) (f43.H0_e0 z3 z4)
    = f43.p0_e0 L N (fun a0 => κ (.tv (.sl .bool) a0)) z3 z4 := by
  refine Eq.trans (b := f43.p0_e0' L N (fun a0 => κ (.tv (.sl .bool) a0)) (fun s5 s6 s7 => evLp (E43 L N) (evCallI (E43 L N) 1 2000) 1000 43 78 2 f43.c1 (contAt (E43 L N) (evCallI (E43 L N) 1 2000) 1000 43 78 2 (codeOf Tryd.f43) (finK (E43 L N) 1000 Tryd.f43 (finC (.one (.sl .bool)) κ))) L (f43.T1 s5 s6 s7) (f43.H1 s5 s6 s7)) z3 z4) (by kernel_rfl) ?_
  unfold f43.p0_e0
  simp only [f43.l1_eq]
  delta f43.X1_e2
  simp only [f43.p1_e2_eq]
theorem f43.b_eq {R : Type} (L N : Nat) (κ : AV → Option R) (x0 : Graph) :
    evBody (E43 L N) (evCallI (E43 L N) 1 2000) 1000 43 Tryd.f43 [(.tv (.st 2) x0)] [] [] (finC (.one (.sl .bool)) κ)
    = f43.b L N (fun a0 => κ (.tv (.sl .bool) a0)) x0 := by
  refine Eq.trans (b := f43.b' L N (fun a0 => κ (.tv (.sl .bool) a0)) (fun s0 s1 s2 => evLp (E43 L N) (evCallI (E43 L N) 1 2000) 1000 43 78 0 f43.c0 (contAt (E43 L N) (evCallI (E43 L N) 1 2000) 1000 43 78 0 (codeOf Tryd.f43) (finK (E43 L N) 1000 Tryd.f43 (finC (.one (.sl .bool)) κ))) L (f43.T0 s0 s1 s2) (f43.H0 s0 s1 s2)) x0) (by kernel_rfl) ?_
  unfold f43.b
  simp only [f43.l0_eq]
  delta f43.X0_e0
  simp only [f43.p0_e0_eq]
theorem f43.ok (L N : Nat) (hΦ : TellsOk Tryd.prog ((Φ15 L N))) : EntOk Tryd.prog 43 (f43.ent L N) := entDa_ok (E := (E43 L N)) (dep := 1000) (f := Tryd.f43) (sound_of hΦ) okP (callI_sound (sound_of hΦ) okP 1 2000) rfl fun d _ hy => (f43.b_eq L N (unR (.one (.sl .bool))) d.1).trans (Eq.trans (b := f43.b L N some d.1) (by kernel_rfl) hy)
def Φ43 (L N : Nat) : Tells := (addT (Φ15 L N) 43 (f43.ent L N))
theorem Φ43_ok (L N : Nat) : TellsOk Tryd.prog (Φ43 L N) := addT_ok (Φ15_ok L N) (f43.ok L N (Φ15_ok L N))
def f44.s1' {R : Type} (L N : Nat) (k1_e2 : Int → LLM → LI → LB → Option R) (rec1 : Int → LM → Int → LLM → LI → LB → Option R) (s5 : Int) (s6 : LM) (s7 : Int) (s8 : LLM) (s9 : LI) (s10 : LB) : Option R :=
  bif (decide (s7 < (s6.length : Int))) then
    bif (decide (0 ≤ s7) && decide (s7 < (s6.length : Int))) then
      bif (decide (0 ≤ (listAt s6 (Ty.dflt (.st 0)) s7.toNat).to) && decide ((listAt s6 (Ty.dflt (.st 0)) s7.toNat).to < (s10.length : Int))) then
        bif (!(listAt s10 false ((listAt s6 (Ty.dflt (.st 0)) s7.toNat).to).toNat)) then
          bif (decide (0 ≤ s7) && decide (s7 < (s6.length : Int))) then
            bif (decide (0 ≤ (listAt s6 (Ty.dflt (.st 0)) s7.toNat).to) && decide ((listAt s6 (Ty.dflt (.st 0)) s7.toNat).to < (s10.length : Int))) then
              bif (decide (0 ≤ s7) && decide (s7 < (s6.length : Int))) then
                bif (decide (s9.length + ([(listAt s6 (Ty.dflt (.st 0)) s7.toNat).to] : LI).length ≤ lim)) then
                  rec1 s5 s6 (wi (s7 + (1 : Int))) s8 (s9 ++ ([(listAt s6 (Ty.dflt (.st 0)) s7.toNat).to] : LI)) (s10.set (((listAt s6 (Ty.dflt (.st 0)) s7.toNat).to).toNat) true)
                else none
              else none
            else none
          else none
        else rec1 s5 s6 (wi (s7 + (1 : Int))) s8 s9 s10
      else none
    else none
  else k1_e2 s5 s8 s9 s10
def f44.s1 {R : Type} (L N : Nat) (k1_e2 : Int → LLM → LI → LB → Option R) (rec1 : Int → LM → Int → LLM → LI → LB → Option R) (s5 : Int) (s6 : LM) (s7 : Int) (s8 : LLM) (s9 : LI) (s10 : LB) : Option R :=
  f44.s1' L N k1_e2 rec1 s5 s6 s7 s8 s9 s10
def f44.l1 {R : Type} (L N : Nat) (k1_e2 : Int → LLM → LI → LB → Option R) : Nat → Int → LM → Int → LLM → LI → LB → Option R
  | 0, _, _, _, _, _, _ => none
  | n + 1, s5, s6, s7, s8, s9, s10 => f44.s1 L N k1_e2 (f44.l1 L N k1_e2 n) s5 s6 s7 s8 s9 s10
def f44.T1 (s5 : Int) (s6 : LM) (s7 : Int) (s8 : LLM) (s9 : LI) (s10 : LB) : T := mkT 64 [(2, (.ptr 1002 0)), (5, (.row 1011)), (6, (.row 1015)), (7, (.tv i64 s5)), (8, (.tv (.sl (.st 0)) s6)), (9, (.tv i64 s7))]
def f44.H1 (s5 : Int) (s6 : LM) (s7 : Int) (s8 : LLM) (s9 : LI) (s10 : LB) : H := [(1002, (.box [(.tv (.sl (.sl (.st 0))) s8)])), (1011, (.row 3 i64 s9)), (1015, (.row 4 .bool s10))]
def f44.T1_e2 (z11 : Int) (z12 : LLM) (z13 : LI) (z14 : LB) : T := mkT 64 [(2, (.ptr 1002 0)), (5, (.row 1011)), (6, (.row 1015)), (7, (.tv i64 z11))]
def f44.H1_e2 (z11 : Int) (z12 : LLM) (z13 : LI) (z14 : LB) : H := [(1002, (.box [(.tv (.sl (.sl (.st 0))) z12)])), (1011, (.row 3 i64 z13)), (1015, (.row 4 .bool z14))]
def f44.p1_e2' {R : Type} (L N : Nat) (k0_e0 : LI → Option R) (rec0 : Int → LLM → LI → LB → Option R) (z11 : Int) (z12 : LLM) (z13 : LI) (z14 : LB) : Option R :=
  rec0 (wi (z11 + (1 : Int))) z12 z13 z14
def f44.p1_e2 {R : Type} (L N : Nat) (k0_e0 : LI → Option R) (rec0 : Int → LLM → LI → LB → Option R) (z11 : Int) (z12 : LLM) (z13 : LI) (z14 : LB) : Option R :=
  f44.p1_e2' L N k0_e0 rec0 z11 z12 z13 z14
def f44.s0' {R : Type} (L N : Nat) (k0_e0 : LI → Option R) (rec0 : Int → LLM → LI → LB → Option R) (w1 : Int → LM → Int → LLM → LI → LB → Option R) (s0 : Int) (s1 : LLM) (s2 : LI) (s3 : LB) : Option R :=
  bif (decide (s0 < (s2.length : Int))) then
    bif (decide (0 ≤ s0) && decide (s0 < (s2.length : Int))) then
      bif (decide (0 ≤ (listAt s2 (0 : Int) s0.toNat)) && decide ((listAt s2 (0 : Int) s0.toNat) < (s1.length : Int))) then
        w1 s0 (listAt s1 [] (listAt s2 (0 : Int) s0.toNat).toNat) (0 : Int) s1 s2 s3
      else none
    else none
  else k0_e0 s2
def f44.s0 {R : Type} (L N : Nat) (k0_e0 : LI → Option R) (rec0 : Int → LLM → LI → LB → Option R) (s0 : Int) (s1 : LLM) (s2 : LI) (s3 : LB) : Option R :=
  f44.s0' L N k0_e0 rec0 (fun s5 s6 s7 s8 s9 s10 => f44.l1 L N (fun z11 z12 z13 z14 => f44.p1_e2 L N k0_e0 rec0 z11 z12 z13 z14) L s5 s6 s7 s8 s9 s10) s0 s1 s2 s3
def f44.l0 {R : Type} (L N : Nat) (k0_e0 : LI → Option R) : Nat → Int → LLM → LI → LB → Option R
  | 0, _, _, _, _ => none
  | n + 1, s0, s1, s2, s3 => f44.s0 L N k0_e0 (f44.l0 L N k0_e0 n) s0 s1 s2 s3
def f44.T0 (s0 : Int) (s1 : LLM) (s2 : LI) (s3 : LB) : T := mkT 64 [(2, (.ptr 1002 0)), (5, (.row 1011)), (6, (.row 1015)), (7, (.tv i64 s0))]
def f44.H0 (s0 : Int) (s1 : LLM) (s2 : LI) (s3 : LB) : H := [(1002, (.box [(.tv (.sl (.sl (.st 0))) s1)])), (1011, (.row 3 i64 s2)), (1015, (.row 4 .bool s3))]
def f44.T0_e0 (z4 : LI) : T := mkT 64 [(5, (.row 1011))]
def f44.H0_e0 (z4 : LI) : H := [(1011, (.row 3 i64 z4))]
def f44.p0_e0' {R : Type} (L N : Nat) (k : LI → Option R) (z4 : LI) : Option R :=
  k z4
def f44.p0_e0 {R : Type} (L N : Nat) (k : LI → Option R) (z4 : LI) : Option R :=
  f44.p0_e0' L N k z4
def f44.b' {R : Type} (L N : Nat) (k : LI → Option R) (w0 : Int → LLM → LI → LB → Option R) (x0 : Graph) (x1 : Int) : Option R :=
  bif (decide (0 ≤ (x0.moves.length : Int)) && decide ((x0.moves.length : Int) ≤ (lim : Int))) then
    bif (decide (0 ≤ x1) && decide (x1 < ((List.replicate (x0.moves.length : Int).toNat false).length : Int))) then
      w0 (0 : Int) x0.moves ([x1] : LI) ((List.replicate (x0.moves.length : Int).toNat false).set x1.toNat true)
    else none
  else none
def f44.b {R : Type} (L N : Nat) (k : LI → Option R) (x0 : Graph) (x1 : Int) : Option R :=
  f44.b' L N k (fun s0 s1 s2 s3 => f44.l0 L N (fun z4 => f44.p0_e0 L N k z4) L s0 s1 s2 s3) x0 x1
def f44 (L N : Nat) (x0 : Graph) (x1 : Int) : Option (LI) := f44.b L N some x0 x1
def f44.ent (L N : Nat) := entDa [(.st 2), i64] (.one (.sl i64)) fun d => f44 L N d.1 d.2.1
noncomputable def E44 (L N : Nat) : Env := { P := Tryd.prog, ty := tyOf, Φ := (Φ43 L N), inl := inlT, live := lives, liveX := livesX, L := L, dp := none, prom := promT, heal := healT, ren := renT }
noncomputable def f44.c0 : Code := loopAt 0 (codeOf Tryd.f44)
noncomputable def f44.c1 : Code := loopAt 2 f44.c0
def f44.X1_e2 {R : Type} (κ : KX R) := fun z11 z12 z13 z14 => κ (.exit 2) (f44.T1_e2 z11 z12 z13 z14) (f44.H1_e2 z11 z12 z13 z14)
def f44.R1 {R : Type} (rec : KT R) := fun s5 s6 s7 s8 s9 s10 => rec (f44.T1 s5 s6 s7 s8 s9 s10) (f44.H1 s5 s6 s7 s8 s9 s10)
theorem f44.s1_eq {R : Type} (L N : Nat) (κ : KX R) (rec : KT R) (s5 : Int) (s6 : LM) (s7 : Int) (s8 : LLM) (s9 : LI) (s10 : LB) :
    evRd (E44 L N) (evCallI (E44 L N) 1 2000) 1000 44 64 2 f44.c1 κ rec (f44.T1 s5 s6 s7 s8 s9 s10) (f44.H1 s5 s6 s7 s8 s9 s10)
    = f44.s1 L N (f44.X1_e2 κ) (f44.R1 rec) s5 s6 s7 s8 s9 s10 := by kernel_rfl
theorem f44.l1_eq {R : Type} (L N : Nat) (κ : KX R) : ∀ (n : Nat) (s5 : Int) (s6 : LM) (s7 : Int) (s8 : LLM) (s9 : LI) (s10 : LB),
    evLp (E44 L N) (evCallI (E44 L N) 1 2000) 1000 44 64 2 f44.c1 κ n (f44.T1 s5 s6 s7 s8 s9 s10) (f44.H1 s5 s6 s7 s8 s9 s10)
    = f44.l1 L N (f44.X1_e2 κ) n s5 s6 s7 s8 s9 s10 := by
  intro n
  induction n with
  | zero => intros; rfl
  | succ n ih =>
    intro s5 s6 s7 s8 s9 s10
    rw [evLp_succ, f44.s1_eq]
    delta f44.R1
    simp only [ih]
    rfl
def f44.X0_e0 {R : Type} (κ : KX R) := fun z4 => κ (.exit 0) (f44.T0_e0 z4) (f44.H0_e0 z4)
def f44.R0 {R : Type} (rec : KT R) := fun s0 s1 s2 s3 => rec (f44.T0 s0 s1 s2 s3) (f44.H0 s0 s1 s2 s3)
theorem f44.p1_e2_eq {R : Type} (L N : Nat) (κ : KX R) (rec : KT R) (z11 : Int) (z12 : LLM) (z13 : LI) (z14 : LB) :
    (contAt (E44 L N) (evCallI (E44 L N) 1 2000) 1000 44 64 2 f44.c0 (rdK (E44 L N) 1000 44 64 0 κ rec)) (.exit 2) (f44.T1_e2 z11 z12 z13 z14) (f44.H1_e2 z11 z12 z13 z14)
    = f44.p1_e2 L N (f44.X0_e0 κ) (f44.R0 rec) z11 z12 z13 z14 := by kernel_rfl
theorem f44.s0_eq {R : Type} (L N : Nat) (κ : KX R) (rec : KT R) (s0 : Int) (s1 : LLM) (s2 : LI) (s3 : LB) :
    evRd (E44 L N) (evCallI (E44 L N) 1 2000) 1000 44 64 0 f44.c0 κ rec (f44.T0 s0 s1 s2 s3) (f44.H0 s0 s1 s2 s3)
    = f44.s0 L N (f44.X0_e0 κ) (f44.R0 rec) s0 s1 s2 s3 := by
  refine Eq.trans (b := f44.s0' L N (f44.X0_e0 κ) (f44.R0 rec) (fun s5 s6 s7 s8 s9 s10 => evLp (E44 L N) (evCallI (E44 L N) 1 2000) 1000 44 64 2 f44.c1 (contAt (E44 L N) (evCallI (E44 L N) 1 2000) 1000 44 64 2 f44.c0 (rdK (E44 L N) 1000 44 64 0 κ rec)) L (f44.T1 s5 s6 s7 s8 s9 s10) (f44.H1 s5 s6 s7 s8 s9 s10)) s0 s1 s2 s3) (by kernel_rfl) ?_
  unfold f44.s0
  simp only [f44.l1_eq]
  delta f44.X1_e2
  simp only [f44.p1_e2_eq]
theorem f44.l0_eq {R : Type} (L N : Nat) (κ : KX R) : ∀ (n : Nat) (s0 : Int) (s1 : LLM) (s2 : LI) (s3 : LB),
    evLp (E44 L N) (evCallI (E44 L N) 1 2000) 1000 44 64 0 f44.c0 κ n (f44.T0 s0 s1 s2 s3) (f44.H0 s0 s1 s2 s3)
    = f44.l0 L N (f44.X0_e0 κ) n s0 s1 s2 s3 := by
  intro n
  induction n with
  | zero => intros; rfl
  | succ n ih =>
    intro s0 s1 s2 s3
    rw [evLp_succ, f44.s0_eq]
    delta f44.R0
    simp only [ih]
    rfl
theorem f44.p0_e0_eq {R : Type} (L N : Nat) (κ : AV → Option R) (z4 : LI) :
    (contAt (E44 L N) (evCallI (E44 L N) 1 2000) 1000 44 64 0 (codeOf Tryd.f44) (finK (E44 L N) 1000 Tryd.f44 (finC (.one (.sl i64)) κ))) (.exit 0) (f44.T0_e0 z4) (f44.H0_e0 z4)
    = f44.p0_e0 L N (fun a0 => κ (.tv (.sl i64) a0)) z4 := by kernel_rfl
theorem f44.b_eq {R : Type} (L N : Nat) (κ : AV → Option R) (x0 : Graph) (x1 : Int) :
    evBody (E44 L N) (evCallI (E44 L N) 1 2000) 1000 44 Tryd.f44 [(.tv (.st 2) x0), (.tv i64 x1)] [] [] (finC (.one (.sl i64)) κ)
    = f44.b L N (fun a0 => κ (.tv (.sl i64) a0)) x0 x1 := by
  refine Eq.trans (b := f44.b' L N (fun a0 => κ (.tv (.sl i64) a0)) (fun s0 s1 s2 s3 => evLp (E44 L N) (evCallI (E44 L N) 1 2000) 1000 44 64 0 f44.c0 (contAt (E44 L N) (evCallI (E44 L N) 1 2000) 1000 44 64 0 (codeOf Tryd.f44) (finK (E44 L N) 1000 Tryd.f44 (finC (.one (.sl i64)) κ))) L (f44.T0 s0 s1 s2 s3) (f44.H0 s0 s1 s2 s3)) x0 x1) (by kernel_rfl) ?_
  unfold f44.b
  simp only [f44.l0_eq]
  delta f44.X0_e0
  simp only [f44.p0_e0_eq]
theorem f44.ok (L N : Nat) (hΦ : TellsOk Tryd.prog ((Φ43 L N))) : EntOk Tryd.prog 44 (f44.ent L N) := entDa_ok (E := (E44 L N)) (dep := 1000) (f := Tryd.f44) (sound_of hΦ) okP (callI_sound (sound_of hΦ) okP 1 2000) rfl fun d _ hy => (f44.b_eq L N (unR (.one (.sl i64))) d.1 d.2.1).trans (Eq.trans (b := f44.b L N some d.1 d.2.1) (by kernel_rfl) hy)
def Φ44 (L N : Nat) : Tells := (addT (Φ43 L N) 44 (f44.ent L N))
theorem Φ44_ok (L N : Nat) : TellsOk Tryd.prog (Φ44 L N) := addT_ok (Φ43_ok L N) (f44.ok L N (Φ43_ok L N))
def f16.s0' {R : Type} (L N : Nat) (k0_e0 : Option R) (k0_r : Bool → Option R) (rec0 : LB → LI → Int → Option R) (s2 : LB) (s3 : LI) (s4 : Int) : Option R :=
  bif (decide (s4 < (s3.length : Int))) then
    bif (decide (0 ≤ s4) && decide (s4 < (s3.length : Int))) then
      bif (decide (0 ≤ (listAt s3 (0 : Int) s4.toNat)) && decide ((listAt s3 (0 : Int) s4.toNat) < (s2.length : Int))) then
        bif (listAt s2 false (listAt s3 (0 : Int) s4.toNat).toNat) then
          k0_r false
        else rec0 s2 s3 (wi (s4 + (1 : Int)))
      else none
    else none
  else k0_e0
def f16.s0 {R : Type} (L N : Nat) (k0_e0 : Option R) (k0_r : Bool → Option R) (rec0 : LB → LI → Int → Option R) (s2 : LB) (s3 : LI) (s4 : Int) : Option R :=
  f16.s0' L N k0_e0 k0_r rec0 s2 s3 s4
def f16.l0 {R : Type} (L N : Nat) (k0_e0 : Option R) (k0_r : Bool → Option R) : Nat → LB → LI → Int → Option R
  | 0, _, _, _ => none
  | n + 1, s2, s3, s4 => f16.s0 L N k0_e0 k0_r (f16.l0 L N k0_e0 k0_r n) s2 s3 s4
def f16.T0 (s2 : LB) (s3 : LI) (s4 : Int) : T := mkT 23 [(3, (.tv (.sl .bool) s2)), (4, (.tv (.sl i64) s3)), (5, (.tv i64 s4))]
def f16.H0 (s2 : LB) (s3 : LI) (s4 : Int) : H := []
def f16.T0_e0 : T := mkT 23 []
def f16.H0_e0 : H := []
def f16.T0_r (z5 : Bool) : T := mkT 23 [(2, (.tv .bool z5))]
def f16.H0_r (z5 : Bool) : H := []
def f16.p0_e0' {R : Type} (L N : Nat) (k : Bool → Option R) : Option R :=
  k true
def f16.p0_e0 {R : Type} (L N : Nat) (k : Bool → Option R) : Option R :=
  f16.p0_e0' L N k
def f16.p0_r' {R : Type} (L N : Nat) (k : Bool → Option R) (z5 : Bool) : Option R :=
  k z5
def f16.p0_r {R : Type} (L N : Nat) (k : Bool → Option R) (z5 : Bool) : Option R :=
  f16.p0_r' L N k z5
def f16.b' {R : Type} (L N : Nat) (k : Bool → Option R) (w0 : LB → LI → Int → Option R) (x0 : Graph) : Option R :=
  (f43 L N (Graph.mk x0.moves)).bind fun y0 =>
  (f44 L N (Graph.mk x0.moves) (0 : Int)).bind fun y1 =>
  w0 y0 y1 (0 : Int)
def f16.b {R : Type} (L N : Nat) (k : Bool → Option R) (x0 : Graph) : Option R :=
  f16.b' L N k (fun s2 s3 s4 => f16.l0 L N (f16.p0_e0 L N k) (fun z5 => f16.p0_r L N k z5) L s2 s3 s4) x0
def f16 (L N : Nat) (x0 : Graph) : Option (Bool) := f16.b L N some x0
def f16.ent (L N : Nat) := entRo [(.st 2)] (.one .bool) fun d => f16 L N d.1
noncomputable def E16 (L N : Nat) : Env := { P := Tryd.prog, ty := tyOf, Φ := (Φ44 L N), inl := inlT, live := lives, liveX := livesX, L := L, dp := none, prom := promT, heal := healT, ren := renT }
noncomputable def f16.c0 : Code := loopAt 0 (codeOf Tryd.f16)
def f16.X0_e0 {R : Type} (κ : KX R) := κ (.exit 0) f16.T0_e0 f16.H0_e0
def f16.X0_r {R : Type} (κ : KX R) := fun z5 => κ .ret (f16.T0_r z5) (f16.H0_r z5)
def f16.R0 {R : Type} (rec : KT R) := fun s2 s3 s4 => rec (f16.T0 s2 s3 s4) (f16.H0 s2 s3 s4)
theorem f16.s0_eq {R : Type} (L N : Nat) (κ : KX R) (rec : KT R) (s2 : LB) (s3 : LI) (s4 : Int) :
    evRd (E16 L N) (evCallI (E16 L N) 1 2000) 1000 16 23 0 f16.c0 κ rec (f16.T0 s2 s3 s4) (f16.H0 s2 s3 s4)
    = f16.s0 L N (f16.X0_e0 κ) (f16.X0_r κ) (f16.R0 rec) s2 s3 s4 := by kernel_rfl
theorem f16.l0_eq {R : Type} (L N : Nat) (κ : KX R) : ∀ (n : Nat) (s2 : LB) (s3 : LI) (s4 : Int),
    evLp (E16 L N) (evCallI (E16 L N) 1 2000) 1000 16 23 0 f16.c0 κ n (f16.T0 s2 s3 s4) (f16.H0 s2 s3 s4)
    = f16.l0 L N (f16.X0_e0 κ) (f16.X0_r κ) n s2 s3 s4 := by
  intro n
  induction n with
  | zero => intros; rfl
  | succ n ih =>
    intro s2 s3 s4
    rw [evLp_succ, f16.s0_eq]
    delta f16.R0
    simp only [ih]
    rfl
theorem f16.p0_e0_eq {R : Type} (L N : Nat) (κ : AV → Option R) :
    (contAt (E16 L N) (evCallI (E16 L N) 1 2000) 1000 16 23 0 (codeOf Tryd.f16) (finK (E16 L N) 1000 Tryd.f16 (finC (.one .bool) κ))) (.exit 0) f16.T0_e0 f16.H0_e0
    = f16.p0_e0 L N (fun a0 => κ (.tv .bool a0)) := by kernel_rfl
theorem f16.p0_r_eq {R : Type} (L N : Nat) (κ : AV → Option R) (z5 : Bool) :
    (contAt (E16 L N) (evCallI (E16 L N) 1 2000) 1000 16 23 0 (codeOf Tryd.f16) (finK (E16 L N) 1000 Tryd.f16 (finC (.one .bool) κ))) .ret (f16.T0_r z5) (f16.H0_r z5)
    = f16.p0_r L N (fun a0 => κ (.tv .bool a0)) z5 := by kernel_rfl
theorem f16.b_eq {R : Type} (L N : Nat) (κ : AV → Option R) (x0 : Graph) :
    evBody (E16 L N) (evCallI (E16 L N) 1 2000) 1000 16 Tryd.f16 [(.tv (.st 2) x0)] [] [] (finC (.one .bool) κ)
    = f16.b L N (fun a0 => κ (.tv .bool a0)) x0 := by
  refine Eq.trans (b := f16.b' L N (fun a0 => κ (.tv .bool a0)) (fun s2 s3 s4 => evLp (E16 L N) (evCallI (E16 L N) 1 2000) 1000 16 23 0 f16.c0 (contAt (E16 L N) (evCallI (E16 L N) 1 2000) 1000 16 23 0 (codeOf Tryd.f16) (finK (E16 L N) 1000 Tryd.f16 (finC (.one .bool) κ))) L (f16.T0 s2 s3 s4) (f16.H0 s2 s3 s4)) x0) (by kernel_rfl) ?_
  unfold f16.b
  simp only [f16.l0_eq]
  delta f16.X0_e0 f16.X0_r
  simp only [f16.p0_e0_eq, f16.p0_r_eq]
theorem f16.ok (L N : Nat) (hΦ : TellsOk Tryd.prog ((Φ44 L N))) : EntOk Tryd.prog 16 (f16.ent L N) := entRo_ok (E := (E16 L N)) (dep := 1000) (f := Tryd.f16) (sound_of hΦ) okP (callI_sound (sound_of hΦ) okP 1 2000) rfl rfl fun d _ hy => (f16.b_eq L N (unR (.one .bool)) d.1).trans (Eq.trans (b := f16.b L N some d.1) (by kernel_rfl) hy)
def Φ16 (L N : Nat) : Tells := (addT (Φ44 L N) 16 (f16.ent L N))
theorem Φ16_ok (L N : Nat) : TellsOk Tryd.prog (Φ16 L N) := addT_ok (Φ44_ok L N) (f16.ok L N (Φ44_ok L N))
def f45.j0' {R : Type} (L N : Nat) (k2_e4 : Bool → Int → LLM → LB → Option R) (rec2 : Bool → Int → Int → LLM → LB → Option R) (v20 : Bool) (v21 : Int) (v22 : Int) (v23 : Bool) (v24 : LLM) (v25 : Int) (v26 : Int) (v27 : LB) : Option R :=
  bif v23 then
    bif (decide (0 ≤ v26) && decide (v26 < (v27.length : Int))) then
      rec2 true v21 (wi (v22 + (1 : Int))) v24 (v27.set v26.toNat true)
    else none
  else rec2 v20 v21 (wi (v22 + (1 : Int))) v24 v27
def f45.s2' {R : Type} (L N : Nat) (k2_e4 : Bool → Int → LLM → LB → Option R) (rec2 : Bool → Int → Int → LLM → LB → Option R) (s11 : Bool) (s12 : Int) (s13 : Int) (s14 : LLM) (s15 : LB) : Option R :=
  bif (decide (0 ≤ s12) && decide (s12 < (s14.length : Int))) then
    bif (decide (s13 < ((listAt s14 [] s12.toNat).length : Int))) then
      bif (decide (0 ≤ s12) && decide (s12 < (s14.length : Int))) then
        bif (decide (0 ≤ s13) && decide (s13 < ((listAt s14 [] s12.toNat).length : Int))) then
          bif (decide (0 ≤ s12) && decide (s12 < (s15.length : Int))) then
            bif (listAt s15 false s12.toNat) then
              bif ((listAt (listAt s14 [] s12.toNat) (Ty.dflt (.st 0)) s13.toNat).act == (0 : Int)) then
                bif (decide (0 ≤ (listAt (listAt s14 [] s12.toNat) (Ty.dflt (.st 0)) s13.toNat).to) && decide ((listAt (listAt s14 [] s12.toNat) (Ty.dflt (.st 0)) s13.toNat).to < (s15.length : Int))) then
                  f45.j0' L N k2_e4 rec2 s11 s12 s13 (!(listAt s15 false ((listAt (listAt s14 [] s12.toNat) (Ty.dflt (.st 0)) s13.toNat).to).toNat)) s14 ((listAt (listAt s14 [] s12.toNat) (Ty.dflt (.st 0)) s13.toNat).act) ((listAt (listAt s14 [] s12.toNat) (Ty.dflt (.st 0)) s13.toNat).to) s15
                else none
              else f45.j0' L N k2_e4 rec2 s11 s12 s13 false s14 ((listAt (listAt s14 [] s12.toNat) (Ty.dflt (.st 0)) s13.toNat).act) ((listAt (listAt s14 [] s12.toNat) (Ty.dflt (.st 0)) s13.toNat).to) s15
            else f45.j0' L N k2_e4 rec2 s11 s12 s13 false s14 ((listAt (listAt s14 [] s12.toNat) (Ty.dflt (.st 0)) s13.toNat).act) ((listAt (listAt s14 [] s12.toNat) (Ty.dflt (.st 0)) s13.toNat).to) s15
          else none
        else none
      else none
    else k2_e4 s11 s12 s14 s15
  else none
def f45.s2 {R : Type} (L N : Nat) (k2_e4 : Bool → Int → LLM → LB → Option R) (rec2 : Bool → Int → Int → LLM → LB → Option R) (s11 : Bool) (s12 : Int) (s13 : Int) (s14 : LLM) (s15 : LB) : Option R :=
  f45.s2' L N k2_e4 rec2 s11 s12 s13 s14 s15
def f45.l2 {R : Type} (L N : Nat) (k2_e4 : Bool → Int → LLM → LB → Option R) : Nat → Bool → Int → Int → LLM → LB → Option R
  | 0, _, _, _, _, _ => none
  | n + 1, s11, s12, s13, s14, s15 => f45.s2 L N k2_e4 (f45.l2 L N k2_e4 n) s11 s12 s13 s14 s15
def f45.T2 (s11 : Bool) (s12 : Int) (s13 : Int) (s14 : LLM) (s15 : LB) : T := mkT 60 [(2, (.ptr 1002 0)), (5, (.row 1010)), (6, (.tv .bool s11)), (7, (.tv i64 s12)), (8, (.tv i64 s13))]
def f45.H2 (s11 : Bool) (s12 : Int) (s13 : Int) (s14 : LLM) (s15 : LB) : H := [(1002, (.box [(.tv (.sl (.sl (.st 0))) s14)])), (1010, (.row 4 .bool s15))]
def f45.T2_e4 (z16 : Bool) (z17 : Int) (z18 : LLM) (z19 : LB) : T := mkT 60 [(2, (.ptr 1002 0)), (5, (.row 1010)), (6, (.tv .bool z16)), (7, (.tv i64 z17))]
def f45.H2_e4 (z16 : Bool) (z17 : Int) (z18 : LLM) (z19 : LB) : H := [(1002, (.box [(.tv (.sl (.sl (.st 0))) z18)])), (1010, (.row 4 .bool z19))]
def f45.p2_e4' {R : Type} (L N : Nat) (k1_e2 : Bool → LLM → LB → Option R) (rec1 : Bool → Int → LLM → LB → Option R) (z16 : Bool) (z17 : Int) (z18 : LLM) (z19 : LB) : Option R :=
  rec1 z16 (wi (z17 + (1 : Int))) z18 z19
def f45.p2_e4 {R : Type} (L N : Nat) (k1_e2 : Bool → LLM → LB → Option R) (rec1 : Bool → Int → LLM → LB → Option R) (z16 : Bool) (z17 : Int) (z18 : LLM) (z19 : LB) : Option R :=
  f45.p2_e4' L N k1_e2 rec1 z16 z17 z18 z19
def f45.s1' {R : Type} (L N : Nat) (k1_e2 : Bool → LLM → LB → Option R) (rec1 : Bool → Int → LLM → LB → Option R) (w2 : Bool → Int → Int → LLM → LB → Option R) (s4 : Bool) (s5 : Int) (s6 : LLM) (s7 : LB) : Option R :=
  bif (decide (s5 < (s7.length : Int))) then
    w2 s4 s5 (0 : Int) s6 s7
  else k1_e2 s4 s6 s7
def f45.s1 {R : Type} (L N : Nat) (k1_e2 : Bool → LLM → LB → Option R) (rec1 : Bool → Int → LLM → LB → Option R) (s4 : Bool) (s5 : Int) (s6 : LLM) (s7 : LB) : Option R :=
  f45.s1' L N k1_e2 rec1 (fun s11 s12 s13 s14 s15 => f45.l2 L N (fun z16 z17 z18 z19 => f45.p2_e4 L N k1_e2 rec1 z16 z17 z18 z19) L s11 s12 s13 s14 s15) s4 s5 s6 s7
def f45.l1 {R : Type} (L N : Nat) (k1_e2 : Bool → LLM → LB → Option R) : Nat → Bool → Int → LLM → LB → Option R
  | 0, _, _, _, _ => none
  | n + 1, s4, s5, s6, s7 => f45.s1 L N k1_e2 (f45.l1 L N k1_e2 n) s4 s5 s6 s7
def f45.T1 (s4 : Bool) (s5 : Int) (s6 : LLM) (s7 : LB) : T := mkT 60 [(2, (.ptr 1002 0)), (5, (.row 1010)), (6, (.tv .bool s4)), (7, (.tv i64 s5))]
def f45.H1 (s4 : Bool) (s5 : Int) (s6 : LLM) (s7 : LB) : H := [(1002, (.box [(.tv (.sl (.sl (.st 0))) s6)])), (1010, (.row 4 .bool s7))]
def f45.T1_e2 (z8 : Bool) (z9 : LLM) (z10 : LB) : T := mkT 60 [(2, (.ptr 1002 0)), (5, (.row 1010)), (6, (.tv .bool z8))]
def f45.H1_e2 (z8 : Bool) (z9 : LLM) (z10 : LB) : H := [(1002, (.box [(.tv (.sl (.sl (.st 0))) z9)])), (1010, (.row 4 .bool z10))]
def f45.p1_e2' {R : Type} (L N : Nat) (k0_e0 : LB → Option R) (rec0 : Bool → LLM → LB → Option R) (z8 : Bool) (z9 : LLM) (z10 : LB) : Option R :=
  rec0 z8 z9 z10
def f45.p1_e2 {R : Type} (L N : Nat) (k0_e0 : LB → Option R) (rec0 : Bool → LLM → LB → Option R) (z8 : Bool) (z9 : LLM) (z10 : LB) : Option R :=
  f45.p1_e2' L N k0_e0 rec0 z8 z9 z10
def f45.s0' {R : Type} (L N : Nat) (k0_e0 : LB → Option R) (rec0 : Bool → LLM → LB → Option R) (w1 : Bool → Int → LLM → LB → Option R) (s0 : Bool) (s1 : LLM) (s2 : LB) : Option R :=
  bif s0 then
    w1 false (0 : Int) s1 s2
  else k0_e0 s2
def f45.s0 {R : Type} (L N : Nat) (k0_e0 : LB → Option R) (rec0 : Bool → LLM → LB → Option R) (s0 : Bool) (s1 : LLM) (s2 : LB) : Option R :=
  f45.s0' L N k0_e0 rec0 (fun s4 s5 s6 s7 => f45.l1 L N (fun z8 z9 z10 => f45.p1_e2 L N k0_e0 rec0 z8 z9 z10) L s4 s5 s6 s7) s0 s1 s2
def f45.l0 {R : Type} (L N : Nat) (k0_e0 : LB → Option R) : Nat → Bool → LLM → LB → Option R
  | 0, _, _, _ => none
  | n + 1, s0, s1, s2 => f45.s0 L N k0_e0 (f45.l0 L N k0_e0 n) s0 s1 s2
def f45.T0 (s0 : Bool) (s1 : LLM) (s2 : LB) : T := mkT 60 [(2, (.ptr 1002 0)), (5, (.row 1010)), (6, (.tv .bool s0))]
def f45.H0 (s0 : Bool) (s1 : LLM) (s2 : LB) : H := [(1002, (.box [(.tv (.sl (.sl (.st 0))) s1)])), (1010, (.row 4 .bool s2))]
def f45.T0_e0 (z3 : LB) : T := mkT 60 [(5, (.row 1010))]
def f45.H0_e0 (z3 : LB) : H := [(1010, (.row 4 .bool z3))]
def f45.p0_e0' {R : Type} (L N : Nat) (k : LB → Option R) (z3 : LB) : Option R :=
  k z3
def f45.p0_e0 {R : Type} (L N : Nat) (k : LB → Option R) (z3 : LB) : Option R :=
  f45.p0_e0' L N k z3
def f45.b' {R : Type} (L N : Nat) (k : LB → Option R) (w0 : Bool → LLM → LB → Option R) (x0 : Graph) (x1 : LB) : Option R :=
  bif (decide (([] : LB).length + x1.length ≤ lim)) then
    w0 true x0.moves (([] : LB) ++ x1)
  else none
def f45.b {R : Type} (L N : Nat) (k : LB → Option R) (x0 : Graph) (x1 : LB) : Option R :=
  f45.b' L N k (fun s0 s1 s2 => f45.l0 L N (fun z3 => f45.p0_e0 L N k z3) L s0 s1 s2) x0 x1
def f45 (L N : Nat) (x0 : Graph) (x1 : LB) : Option (LB) := f45.b L N some x0 x1
def f45.ent (L N : Nat) := entDa [(.st 2), (.sl .bool)] (.one (.sl .bool)) fun d => f45 L N d.1 d.2.1
noncomputable def E45 (L N : Nat) : Env := { P := Tryd.prog, ty := tyOf, Φ := (Φ16 L N), inl := inlT, live := lives, liveX := livesX, L := L, dp := none, prom := promT, heal := healT, ren := renT }
noncomputable def f45.c0 : Code := loopAt 0 (codeOf Tryd.f45)
noncomputable def f45.c1 : Code := loopAt 2 f45.c0
noncomputable def f45.c2 : Code := loopAt 4 f45.c1
def f45.X2_e4 {R : Type} (κ : KX R) := fun z16 z17 z18 z19 => κ (.exit 4) (f45.T2_e4 z16 z17 z18 z19) (f45.H2_e4 z16 z17 z18 z19)
def f45.R2 {R : Type} (rec : KT R) := fun s11 s12 s13 s14 s15 => rec (f45.T2 s11 s12 s13 s14 s15) (f45.H2 s11 s12 s13 s14 s15)
theorem f45.s2_eq {R : Type} (L N : Nat) (κ : KX R) (rec : KT R) (s11 : Bool) (s12 : Int) (s13 : Int) (s14 : LLM) (s15 : LB) :
    evRd (E45 L N) (evCallI (E45 L N) 1 2000) 1000 45 60 4 f45.c2 κ rec (f45.T2 s11 s12 s13 s14 s15) (f45.H2 s11 s12 s13 s14 s15)
    = f45.s2 L N (f45.X2_e4 κ) (f45.R2 rec) s11 s12 s13 s14 s15 := by kernel_rfl
theorem f45.l2_eq {R : Type} (L N : Nat) (κ : KX R) : ∀ (n : Nat) (s11 : Bool) (s12 : Int) (s13 : Int) (s14 : LLM) (s15 : LB),
    evLp (E45 L N) (evCallI (E45 L N) 1 2000) 1000 45 60 4 f45.c2 κ n (f45.T2 s11 s12 s13 s14 s15) (f45.H2 s11 s12 s13 s14 s15)
    = f45.l2 L N (f45.X2_e4 κ) n s11 s12 s13 s14 s15 := by
  intro n
  induction n with
  | zero => intros; rfl
  | succ n ih =>
    intro s11 s12 s13 s14 s15
    rw [evLp_succ, f45.s2_eq]
    delta f45.R2
    simp only [ih]
    rfl
def f45.X1_e2 {R : Type} (κ : KX R) := fun z8 z9 z10 => κ (.exit 2) (f45.T1_e2 z8 z9 z10) (f45.H1_e2 z8 z9 z10)
def f45.R1 {R : Type} (rec : KT R) := fun s4 s5 s6 s7 => rec (f45.T1 s4 s5 s6 s7) (f45.H1 s4 s5 s6 s7)
theorem f45.p2_e4_eq {R : Type} (L N : Nat) (κ : KX R) (rec : KT R) (z16 : Bool) (z17 : Int) (z18 : LLM) (z19 : LB) :
    (contAt (E45 L N) (evCallI (E45 L N) 1 2000) 1000 45 60 4 f45.c1 (rdK (E45 L N) 1000 45 60 2 κ rec)) (.exit 4) (f45.T2_e4 z16 z17 z18 z19) (f45.H2_e4 z16 z17 z18 z19)
    = f45.p2_e4 L N (f45.X1_e2 κ) (f45.R1 rec) z16 z17 z18 z19 := by kernel_rfl
theorem f45.s1_eq {R : Type} (L N : Nat) (κ : KX R) (rec : KT R) (s4 : Bool) (s5 : Int) (s6 : LLM) (s7 : LB) :
    evRd (E45 L N) (evCallI (E45 L N) 1 2000) 1000 45 60 2 f45.c1 κ rec (f45.T1 s4 s5 s6 s7) (f45.H1 s4 s5 s6 s7)
    = f45.s1 L N (f45.X1_e2 κ) (f45.R1 rec) s4 s5 s6 s7 := by
  refine Eq.trans (b := f45.s1' L N (f45.X1_e2 κ) (f45.R1 rec) (fun s11 s12 s13 s14 s15 => evLp (E45 L N) (evCallI (E45 L N) 1 2000) 1000 45 60 4 f45.c2 (contAt (E45 L N) (evCallI (E45 L N) 1 2000) 1000 45 60 4 f45.c1 (rdK (E45 L N) 1000 45 60 2 κ rec)) L (f45.T2 s11 s12 s13 s14 s15) (f45.H2 s11 s12 s13 s14 s15)) s4 s5 s6 s7) (by kernel_rfl) ?_
  unfold f45.s1
  simp only [f45.l2_eq]
  delta f45.X2_e4
  simp only [f45.p2_e4_eq]
theorem f45.l1_eq {R : Type} (L N : Nat) (κ : KX R) : ∀ (n : Nat) (s4 : Bool) (s5 : Int) (s6 : LLM) (s7 : LB),
    evLp (E45 L N) (evCallI (E45 L N) 1 2000) 1000 45 60 2 f45.c1 κ n (f45.T1 s4 s5 s6 s7) (f45.H1 s4 s5 s6 s7)
    = f45.l1 L N (f45.X1_e2 κ) n s4 s5 s6 s7 := by
  intro n
  induction n with
  | zero => intros; rfl
  | succ n ih =>
    intro s4 s5 s6 s7
    rw [evLp_succ, f45.s1_eq]
    delta f45.R1
    simp only [ih]
    rfl
def f45.X0_e0 {R : Type} (κ : KX R) := fun z3 => κ (.exit 0) (f45.T0_e0 z3) (f45.H0_e0 z3)
def f45.R0 {R : Type} (rec : KT R) := fun s0 s1 s2 => rec (f45.T0 s0 s1 s2) (f45.H0 s0 s1 s2)
theorem f45.p1_e2_eq {R : Type} (L N : Nat) (κ : KX R) (rec : KT R) (z8 : Bool) (z9 : LLM) (z10 : LB) :
    (contAt (E45 L N) (evCallI (E45 L N) 1 2000) 1000 45 60 2 f45.c0 (rdK (E45 L N) 1000 45 60 0 κ rec)) (.exit 2) (f45.T1_e2 z8 z9 z10) (f45.H1_e2 z8 z9 z10)
    = f45.p1_e2 L N (f45.X0_e0 κ) (f45.R0 rec) z8 z9 z10 := by kernel_rfl
theorem f45.s0_eq {R : Type} (L N : Nat) (κ : KX R) (rec : KT R) (s0 : Bool) (s1 : LLM) (s2 : LB) :
    evRd (E45 L N) (evCallI (E45 L N) 1 2000) 1000 45 60 0 f45.c0 κ rec (f45.T0 s0 s1 s2) (f45.H0 s0 s1 s2)
    = f45.s0 L N (f45.X0_e0 κ) (f45.R0 rec) s0 s1 s2 := by
  refine Eq.trans (b := f45.s0' L N (f45.X0_e0 κ) (f45.R0 rec) (fun s4 s5 s6 s7 => evLp (E45 L N) (evCallI (E45 L N) 1 2000) 1000 45 60 2 f45.c1 (contAt (E45 L N) (evCallI (E45 L N) 1 2000) 1000 45 60 2 f45.c0 (rdK (E45 L N) 1000 45 60 0 κ rec)) L (f45.T1 s4 s5 s6 s7) (f45.H1 s4 s5 s6 s7)) s0 s1 s2) (by kernel_rfl) ?_
  unfold f45.s0
  simp only [f45.l1_eq]
  delta f45.X1_e2
  simp only [f45.p1_e2_eq]
theorem f45.l0_eq {R : Type} (L N : Nat) (κ : KX R) : ∀ (n : Nat) (s0 : Bool) (s1 : LLM) (s2 : LB),
    evLp (E45 L N) (evCallI (E45 L N) 1 2000) 1000 45 60 0 f45.c0 κ n (f45.T0 s0 s1 s2) (f45.H0 s0 s1 s2)
    = f45.l0 L N (f45.X0_e0 κ) n s0 s1 s2 := by
  intro n
  induction n with
  | zero => intros; rfl
  | succ n ih =>
    intro s0 s1 s2
    rw [evLp_succ, f45.s0_eq]
    delta f45.R0
    simp only [ih]
    rfl
theorem f45.p0_e0_eq {R : Type} (L N : Nat) (κ : AV → Option R) (z3 : LB) :
    (contAt (E45 L N) (evCallI (E45 L N) 1 2000) 1000 45 60 0 (codeOf Tryd.f45) (finK (E45 L N) 1000 Tryd.f45 (finC (.one (.sl .bool)) κ))) (.exit 0) (f45.T0_e0 z3) (f45.H0_e0 z3)
    = f45.p0_e0 L N (fun a0 => κ (.tv (.sl .bool) a0)) z3 := by kernel_rfl
theorem f45.b_eq {R : Type} (L N : Nat) (κ : AV → Option R) (x0 : Graph) (x1 : LB) :
    evBody (E45 L N) (evCallI (E45 L N) 1 2000) 1000 45 Tryd.f45 [(.tv (.st 2) x0), (.tv (.sl .bool) x1)] [] [] (finC (.one (.sl .bool)) κ)
    = f45.b L N (fun a0 => κ (.tv (.sl .bool) a0)) x0 x1 := by
  refine Eq.trans (b := f45.b' L N (fun a0 => κ (.tv (.sl .bool) a0)) (fun s0 s1 s2 => evLp (E45 L N) (evCallI (E45 L N) 1 2000) 1000 45 60 0 f45.c0 (contAt (E45 L N) (evCallI (E45 L N) 1 2000) 1000 45 60 0 (codeOf Tryd.f45) (finK (E45 L N) 1000 Tryd.f45 (finC (.one (.sl .bool)) κ))) L (f45.T0 s0 s1 s2) (f45.H0 s0 s1 s2)) x0 x1) (by kernel_rfl) ?_
  unfold f45.b
  simp only [f45.l0_eq]
  delta f45.X0_e0
  simp only [f45.p0_e0_eq]
theorem f45.ok (L N : Nat) (hΦ : TellsOk Tryd.prog ((Φ16 L N))) : EntOk Tryd.prog 45 (f45.ent L N) := entDa_ok (E := (E45 L N)) (dep := 1000) (f := Tryd.f45) (sound_of hΦ) okP (callI_sound (sound_of hΦ) okP 1 2000) rfl fun d _ hy => (f45.b_eq L N (unR (.one (.sl .bool))) d.1 d.2.1).trans (Eq.trans (b := f45.b L N some d.1 d.2.1) (by kernel_rfl) hy)
def Φ45 (L N : Nat) : Tells := (addT (Φ16 L N) 45 (f45.ent L N))
theorem Φ45_ok (L N : Nat) : TellsOk Tryd.prog (Φ45 L N) := addT_ok (Φ16_ok L N) (f45.ok L N (Φ16_ok L N))
def f17.b' {R : Type} (L N : Nat) (k : LB → Option R) (x0 : Graph) : Option R :=
  bif (decide (0 ≤ (x0.moves.length : Int)) && decide ((x0.moves.length : Int) ≤ (lim : Int))) then
    bif (decide (0 ≤ (0 : Int)) && decide ((0 : Int) < ((List.replicate (x0.moves.length : Int).toNat false).length : Int))) then
      (f45 L N (Graph.mk x0.moves) ((List.replicate (x0.moves.length : Int).toNat false).set ((0 : Int).toNat) true)).bind fun y0 =>
      k y0
    else none
  else none
def f17.b {R : Type} (L N : Nat) (k : LB → Option R) (x0 : Graph) : Option R :=
  f17.b' L N k x0
def f17 (L N : Nat) (x0 : Graph) : Option (LB) := f17.b L N some x0
def f17.ent (L N : Nat) := entDa [(.st 2)] (.one (.sl .bool)) fun d => f17 L N d.1
noncomputable def E17 (L N : Nat) : Env := { P := Tryd.prog, ty := tyOf, Φ := (Φ45 L N), inl := inlT, live := lives, liveX := livesX, L := L, dp := none, prom := promT, heal := healT, ren := renT }
theorem f17.b_eq {R : Type} (L N : Nat) (κ : AV → Option R) (x0 : Graph) :
    evBody (E17 L N) (evCallI (E17 L N) 1 2000) 1000 17 Tryd.f17 [(.tv (.st 2) x0)] [] [] (finC (.one (.sl .bool)) κ)
    = f17.b L N (fun a0 => κ (.tv (.sl .bool) a0)) x0 := by kernel_rfl
theorem f17.ok (L N : Nat) (hΦ : TellsOk Tryd.prog ((Φ45 L N))) : EntOk Tryd.prog 17 (f17.ent L N) := entDa_ok (E := (E17 L N)) (dep := 1000) (f := Tryd.f17) (sound_of hΦ) okP (callI_sound (sound_of hΦ) okP 1 2000) rfl fun d _ hy => (f17.b_eq L N (unR (.one (.sl .bool))) d.1).trans (Eq.trans (b := f17.b L N some d.1) (by kernel_rfl) hy)
def Φ17 (L N : Nat) : Tells := (addT (Φ45 L N) 17 (f17.ent L N))
theorem Φ17_ok (L N : Nat) : TellsOk Tryd.prog (Φ17 L N) := addT_ok (Φ45_ok L N) (f17.ok L N (Φ45_ok L N))
def f19.j0' {R : Type} (L N : Nat) (k1_e2 : LB → Int → Int → LLM → LB → Option R) (rec1 : LB → Int → Int → Int → LLM → LB → Option R) (v18 : LB) (v19 : Int) (v20 : Int) (v21 : Int) (v22 : Bool) (v23 : LLM) (v24 : LB) : Option R :=
  bif v22 then
    bif (decide (0 ≤ v20) && decide (v20 < (v23.length : Int))) then
      bif (decide (0 ≤ v21) && decide (v21 < ((listAt v23 [] v20.toNat).length : Int))) then
        bif (decide (0 ≤ (listAt (listAt v23 [] v20.toNat) (Ty.dflt (.st 0)) v21.toNat).to) && decide ((listAt (listAt v23 [] v20.toNat) (Ty.dflt (.st 0)) v21.toNat).to < (v24.length : Int))) then
          rec1 v18 v19 v20 (wi (v21 + (1 : Int))) v23 (v24.set (((listAt (listAt v23 [] v20.toNat) (Ty.dflt (.st 0)) v21.toNat).to).toNat) true)
        else none
      else none
    else none
  else rec1 v18 v19 v20 (wi (v21 + (1 : Int))) v23 v24
def f19.s1' {R : Type} (L N : Nat) (k1_e2 : LB → Int → Int → LLM → LB → Option R) (rec1 : LB → Int → Int → Int → LLM → LB → Option R) (s7 : LB) (s8 : Int) (s9 : Int) (s10 : Int) (s11 : LLM) (s12 : LB) : Option R :=
  bif (decide (0 ≤ s9) && decide (s9 < (s11.length : Int))) then
    bif (decide (s10 < ((listAt s11 [] s9.toNat).length : Int))) then
      bif (decide (0 ≤ s9) && decide (s9 < (s7.length : Int))) then
        bif (listAt s7 false s9.toNat) then
          bif (decide (0 ≤ s9) && decide (s9 < (s11.length : Int))) then
            bif (decide (0 ≤ s10) && decide (s10 < ((listAt s11 [] s9.toNat).length : Int))) then
              f19.j0' L N k1_e2 rec1 s7 s8 s9 s10 ((listAt (listAt s11 [] s9.toNat) (Ty.dflt (.st 0)) s10.toNat).act == s8) s11 s12
            else none
          else none
        else f19.j0' L N k1_e2 rec1 s7 s8 s9 s10 false s11 s12
      else none
    else k1_e2 s7 s8 s9 s11 s12
  else none
def f19.s1 {R : Type} (L N : Nat) (k1_e2 : LB → Int → Int → LLM → LB → Option R) (rec1 : LB → Int → Int → Int → LLM → LB → Option R) (s7 : LB) (s8 : Int) (s9 : Int) (s10 : Int) (s11 : LLM) (s12 : LB) : Option R :=
  f19.s1' L N k1_e2 rec1 s7 s8 s9 s10 s11 s12
def f19.l1 {R : Type} (L N : Nat) (k1_e2 : LB → Int → Int → LLM → LB → Option R) : Nat → LB → Int → Int → Int → LLM → LB → Option R
  | 0, _, _, _, _, _, _ => none
  | n + 1, s7, s8, s9, s10, s11, s12 => f19.s1 L N k1_e2 (f19.l1 L N k1_e2 n) s7 s8 s9 s10 s11 s12
def f19.T1 (s7 : LB) (s8 : Int) (s9 : Int) (s10 : Int) (s11 : LLM) (s12 : LB) : T := mkT 60 [(1, (.tv (.sl .bool) s7)), (2, (.tv i64 s8)), (3, (.ptr 1003 0)), (7, (.row 1012)), (8, (.tv i64 s9)), (9, (.tv i64 s10))]
def f19.H1 (s7 : LB) (s8 : Int) (s9 : Int) (s10 : Int) (s11 : LLM) (s12 : LB) : H := [(1003, (.box [(.tv (.sl (.sl (.st 0))) s11)])), (1012, (.row 4 .bool s12))]
def f19.T1_e2 (z13 : LB) (z14 : Int) (z15 : Int) (z16 : LLM) (z17 : LB) : T := mkT 60 [(1, (.tv (.sl .bool) z13)), (2, (.tv i64 z14)), (3, (.ptr 1003 0)), (7, (.row 1012)), (8, (.tv i64 z15))]
def f19.H1_e2 (z13 : LB) (z14 : Int) (z15 : Int) (z16 : LLM) (z17 : LB) : H := [(1003, (.box [(.tv (.sl (.sl (.st 0))) z16)])), (1012, (.row 4 .bool z17))]
def f19.p1_e2' {R : Type} (L N : Nat) (k0_e0 : LLM → LB → Option R) (rec0 : LB → Int → Int → LLM → LB → Option R) (z13 : LB) (z14 : Int) (z15 : Int) (z16 : LLM) (z17 : LB) : Option R :=
  rec0 z13 z14 (wi (z15 + (1 : Int))) z16 z17
def f19.p1_e2 {R : Type} (L N : Nat) (k0_e0 : LLM → LB → Option R) (rec0 : LB → Int → Int → LLM → LB → Option R) (z13 : LB) (z14 : Int) (z15 : Int) (z16 : LLM) (z17 : LB) : Option R :=
  f19.p1_e2' L N k0_e0 rec0 z13 z14 z15 z16 z17
def f19.s0' {R : Type} (L N : Nat) (k0_e0 : LLM → LB → Option R) (rec0 : LB → Int → Int → LLM → LB → Option R) (w1 : LB → Int → Int → Int → LLM → LB → Option R) (s0 : LB) (s1 : Int) (s2 : Int) (s3 : LLM) (s4 : LB) : Option R :=
  bif (decide (s2 < (s0.length : Int))) then
    w1 s0 s1 s2 (0 : Int) s3 s4
  else k0_e0 s3 s4
def f19.s0 {R : Type} (L N : Nat) (k0_e0 : LLM → LB → Option R) (rec0 : LB → Int → Int → LLM → LB → Option R) (s0 : LB) (s1 : Int) (s2 : Int) (s3 : LLM) (s4 : LB) : Option R :=
  f19.s0' L N k0_e0 rec0 (fun s7 s8 s9 s10 s11 s12 => f19.l1 L N (fun z13 z14 z15 z16 z17 => f19.p1_e2 L N k0_e0 rec0 z13 z14 z15 z16 z17) L s7 s8 s9 s10 s11 s12) s0 s1 s2 s3 s4
def f19.l0 {R : Type} (L N : Nat) (k0_e0 : LLM → LB → Option R) : Nat → LB → Int → Int → LLM → LB → Option R
  | 0, _, _, _, _, _ => none
  | n + 1, s0, s1, s2, s3, s4 => f19.s0 L N k0_e0 (f19.l0 L N k0_e0 n) s0 s1 s2 s3 s4
def f19.T0 (s0 : LB) (s1 : Int) (s2 : Int) (s3 : LLM) (s4 : LB) : T := mkT 60 [(1, (.tv (.sl .bool) s0)), (2, (.tv i64 s1)), (3, (.ptr 1003 0)), (7, (.row 1012)), (8, (.tv i64 s2))]
def f19.H0 (s0 : LB) (s1 : Int) (s2 : Int) (s3 : LLM) (s4 : LB) : H := [(1003, (.box [(.tv (.sl (.sl (.st 0))) s3)])), (1012, (.row 4 .bool s4))]
def f19.T0_e0 (z5 : LLM) (z6 : LB) : T := mkT 60 [(3, (.ptr 1003 0)), (7, (.row 1012))]
def f19.H0_e0 (z5 : LLM) (z6 : LB) : H := [(1003, (.box [(.tv (.sl (.sl (.st 0))) z5)])), (1012, (.row 4 .bool z6))]
def f19.p0_e0' {R : Type} (L N : Nat) (k : LB → Option R) (z5 : LLM) (z6 : LB) : Option R :=
  (f45 L N (Graph.mk z5) z6).bind fun y31 =>
  k y31
def f19.p0_e0 {R : Type} (L N : Nat) (k : LB → Option R) (z5 : LLM) (z6 : LB) : Option R :=
  f19.p0_e0' L N k z5 z6
def f19.b' {R : Type} (L N : Nat) (k : LB → Option R) (w0 : LB → Int → Int → LLM → LB → Option R) (x0 : Graph) (x1 : LB) (x2 : Int) : Option R :=
  bif (decide (0 ≤ (x1.length : Int)) && decide ((x1.length : Int) ≤ (lim : Int))) then
    w0 x1 x2 (0 : Int) x0.moves (List.replicate (x1.length : Int).toNat false)
  else none
def f19.b {R : Type} (L N : Nat) (k : LB → Option R) (x0 : Graph) (x1 : LB) (x2 : Int) : Option R :=
  f19.b' L N k (fun s0 s1 s2 s3 s4 => f19.l0 L N (fun z5 z6 => f19.p0_e0 L N k z5 z6) L s0 s1 s2 s3 s4) x0 x1 x2
def f19 (L N : Nat) (x0 : Graph) (x1 : LB) (x2 : Int) : Option (LB) := f19.b L N some x0 x1 x2
def f19.ent (L N : Nat) := entDa [(.st 2), (.sl .bool), i64] (.one (.sl .bool)) fun d => f19 L N d.1 d.2.1 d.2.2.1
noncomputable def E19 (L N : Nat) : Env := { P := Tryd.prog, ty := tyOf, Φ := (Φ17 L N), inl := inlT, live := lives, liveX := livesX, L := L, dp := none, prom := promT, heal := healT, ren := renT }
noncomputable def f19.c0 : Code := loopAt 0 (codeOf Tryd.f19)
noncomputable def f19.c1 : Code := loopAt 2 f19.c0
def f19.X1_e2 {R : Type} (κ : KX R) := fun z13 z14 z15 z16 z17 => κ (.exit 2) (f19.T1_e2 z13 z14 z15 z16 z17) (f19.H1_e2 z13 z14 z15 z16 z17)
def f19.R1 {R : Type} (rec : KT R) := fun s7 s8 s9 s10 s11 s12 => rec (f19.T1 s7 s8 s9 s10 s11 s12) (f19.H1 s7 s8 s9 s10 s11 s12)
theorem f19.s1_eq {R : Type} (L N : Nat) (κ : KX R) (rec : KT R) (s7 : LB) (s8 : Int) (s9 : Int) (s10 : Int) (s11 : LLM) (s12 : LB) :
    evRd (E19 L N) (evCallI (E19 L N) 1 2000) 1000 19 60 2 f19.c1 κ rec (f19.T1 s7 s8 s9 s10 s11 s12) (f19.H1 s7 s8 s9 s10 s11 s12)
    = f19.s1 L N (f19.X1_e2 κ) (f19.R1 rec) s7 s8 s9 s10 s11 s12 := by kernel_rfl
theorem f19.l1_eq {R : Type} (L N : Nat) (κ : KX R) : ∀ (n : Nat) (s7 : LB) (s8 : Int) (s9 : Int) (s10 : Int) (s11 : LLM) (s12 : LB),
    evLp (E19 L N) (evCallI (E19 L N) 1 2000) 1000 19 60 2 f19.c1 κ n (f19.T1 s7 s8 s9 s10 s11 s12) (f19.H1 s7 s8 s9 s10 s11 s12)
    = f19.l1 L N (f19.X1_e2 κ) n s7 s8 s9 s10 s11 s12 := by
  intro n
  induction n with
  | zero => intros; rfl
  | succ n ih =>
    intro s7 s8 s9 s10 s11 s12
    rw [evLp_succ, f19.s1_eq]
    delta f19.R1
    simp only [ih]
    rfl
def f19.X0_e0 {R : Type} (κ : KX R) := fun z5 z6 => κ (.exit 0) (f19.T0_e0 z5 z6) (f19.H0_e0 z5 z6)
def f19.R0 {R : Type} (rec : KT R) := fun s0 s1 s2 s3 s4 => rec (f19.T0 s0 s1 s2 s3 s4) (f19.H0 s0 s1 s2 s3 s4)
theorem f19.p1_e2_eq {R : Type} (L N : Nat) (κ : KX R) (rec : KT R) (z13 : LB) (z14 : Int) (z15 : Int) (z16 : LLM) (z17 : LB) :
    (contAt (E19 L N) (evCallI (E19 L N) 1 2000) 1000 19 60 2 f19.c0 (rdK (E19 L N) 1000 19 60 0 κ rec)) (.exit 2) (f19.T1_e2 z13 z14 z15 z16 z17) (f19.H1_e2 z13 z14 z15 z16 z17)
    = f19.p1_e2 L N (f19.X0_e0 κ) (f19.R0 rec) z13 z14 z15 z16 z17 := by kernel_rfl
theorem f19.s0_eq {R : Type} (L N : Nat) (κ : KX R) (rec : KT R) (s0 : LB) (s1 : Int) (s2 : Int) (s3 : LLM) (s4 : LB) :
    evRd (E19 L N) (evCallI (E19 L N) 1 2000) 1000 19 60 0 f19.c0 κ rec (f19.T0 s0 s1 s2 s3 s4) (f19.H0 s0 s1 s2 s3 s4)
    = f19.s0 L N (f19.X0_e0 κ) (f19.R0 rec) s0 s1 s2 s3 s4 := by
  refine Eq.trans (b := f19.s0' L N (f19.X0_e0 κ) (f19.R0 rec) (fun s7 s8 s9 s10 s11 s12 => evLp (E19 L N) (evCallI (E19 L N) 1 2000) 1000 19 60 2 f19.c1 (contAt (E19 L N) (evCallI (E19 L N) 1 2000) 1000 19 60 2 f19.c0 (rdK (E19 L N) 1000 19 60 0 κ rec)) L (f19.T1 s7 s8 s9 s10 s11 s12) (f19.H1 s7 s8 s9 s10 s11 s12)) s0 s1 s2 s3 s4) (by kernel_rfl) ?_
  unfold f19.s0
  simp only [f19.l1_eq]
  delta f19.X1_e2
  simp only [f19.p1_e2_eq]
theorem f19.l0_eq {R : Type} (L N : Nat) (κ : KX R) : ∀ (n : Nat) (s0 : LB) (s1 : Int) (s2 : Int) (s3 : LLM) (s4 : LB),
    evLp (E19 L N) (evCallI (E19 L N) 1 2000) 1000 19 60 0 f19.c0 κ n (f19.T0 s0 s1 s2 s3 s4) (f19.H0 s0 s1 s2 s3 s4)
    = f19.l0 L N (f19.X0_e0 κ) n s0 s1 s2 s3 s4 := by
  intro n
  induction n with
  | zero => intros; rfl
  | succ n ih =>
    intro s0 s1 s2 s3 s4
    rw [evLp_succ, f19.s0_eq]
    delta f19.R0
    simp only [ih]
    rfl
theorem f19.p0_e0_eq {R : Type} (L N : Nat) (κ : AV → Option R) (z5 : LLM) (z6 : LB) :
    (contAt (E19 L N) (evCallI (E19 L N) 1 2000) 1000 19 60 0 (codeOf Tryd.f19) (finK (E19 L N) 1000 Tryd.f19 (finC (.one (.sl .bool)) κ))) (.exit 0) (f19.T0_e0 z5 z6) (f19.H0_e0 z5 z6)
    = f19.p0_e0 L N (fun a0 => κ (.tv (.sl .bool) a0)) z5 z6 := by kernel_rfl
theorem f19.b_eq {R : Type} (L N : Nat) (κ : AV → Option R) (x0 : Graph) (x1 : LB) (x2 : Int) :
    evBody (E19 L N) (evCallI (E19 L N) 1 2000) 1000 19 Tryd.f19 [(.tv (.st 2) x0), (.tv (.sl .bool) x1), (.tv i64 x2)] [] [] (finC (.one (.sl .bool)) κ)
    = f19.b L N (fun a0 => κ (.tv (.sl .bool) a0)) x0 x1 x2 := by
  refine Eq.trans (b := f19.b' L N (fun a0 => κ (.tv (.sl .bool) a0)) (fun s0 s1 s2 s3 s4 => evLp (E19 L N) (evCallI (E19 L N) 1 2000) 1000 19 60 0 f19.c0 (contAt (E19 L N) (evCallI (E19 L N) 1 2000) 1000 19 60 0 (codeOf Tryd.f19) (finK (E19 L N) 1000 Tryd.f19 (finC (.one (.sl .bool)) κ))) L (f19.T0 s0 s1 s2 s3 s4) (f19.H0 s0 s1 s2 s3 s4)) x0 x1 x2) (by kernel_rfl) ?_
  unfold f19.b
  simp only [f19.l0_eq]
  delta f19.X0_e0
  simp only [f19.p0_e0_eq]
theorem f19.ok (L N : Nat) (hΦ : TellsOk Tryd.prog ((Φ17 L N))) : EntOk Tryd.prog 19 (f19.ent L N) := entDa_ok (E := (E19 L N)) (dep := 1000) (f := Tryd.f19) (sound_of hΦ) okP (callI_sound (sound_of hΦ) okP 1 2000) rfl fun d _ hy => (f19.b_eq L N (unR (.one (.sl .bool))) d.1 d.2.1 d.2.2.1).trans (Eq.trans (b := f19.b L N some d.1 d.2.1 d.2.2.1) (by kernel_rfl) hy)
def Φ19 (L N : Nat) : Tells := (addT (Φ17 L N) 19 (f19.ent L N))
theorem Φ19_ok (L N : Nat) : TellsOk Tryd.prog (Φ19 L N) := addT_ok (Φ17_ok L N) (f19.ok L N (Φ17_ok L N))
def f20.s0' {R : Type} (L N : Nat) (k0_e0 : Option R) (k0_r : Bool → Option R) (rec0 : LB → Int → Option R) (s0 : LB) (s1 : Int) : Option R :=
  bif (decide (s1 < (s0.length : Int))) then
    bif (decide (0 ≤ s1) && decide (s1 < (s0.length : Int))) then
      bif (listAt s0 false s1.toNat) then
        k0_r true
      else rec0 s0 (wi (s1 + (1 : Int)))
    else none
  else k0_e0
def f20.s0 {R : Type} (L N : Nat) (k0_e0 : Option R) (k0_r : Bool → Option R) (rec0 : LB → Int → Option R) (s0 : LB) (s1 : Int) : Option R :=
  f20.s0' L N k0_e0 k0_r rec0 s0 s1
def f20.l0 {R : Type} (L N : Nat) (k0_e0 : Option R) (k0_r : Bool → Option R) : Nat → LB → Int → Option R
  | 0, _, _ => none
  | n + 1, s0, s1 => f20.s0 L N k0_e0 k0_r (f20.l0 L N k0_e0 k0_r n) s0 s1
def f20.T0 (s0 : LB) (s1 : Int) : T := mkT 14 [(0, (.tv (.sl .bool) s0)), (3, (.tv i64 s1))]
def f20.H0 (s0 : LB) (s1 : Int) : H := []
def f20.T0_e0 : T := mkT 14 []
def f20.H0_e0 : H := []
def f20.T0_r (z2 : Bool) : T := mkT 14 [(2, (.tv .bool z2))]
def f20.H0_r (z2 : Bool) : H := []
def f20.p0_e0' {R : Type} (L N : Nat) (k : Bool → Option R) : Option R :=
  k false
def f20.p0_e0 {R : Type} (L N : Nat) (k : Bool → Option R) : Option R :=
  f20.p0_e0' L N k
def f20.p0_r' {R : Type} (L N : Nat) (k : Bool → Option R) (z2 : Bool) : Option R :=
  k z2
def f20.p0_r {R : Type} (L N : Nat) (k : Bool → Option R) (z2 : Bool) : Option R :=
  f20.p0_r' L N k z2
def f20.b' {R : Type} (L N : Nat) (k : Bool → Option R) (w0 : LB → Int → Option R) (x0 : LB) : Option R :=
  w0 x0 (0 : Int)
def f20.b {R : Type} (L N : Nat) (k : Bool → Option R) (x0 : LB) : Option R :=
  f20.b' L N k (fun s0 s1 => f20.l0 L N (f20.p0_e0 L N k) (fun z2 => f20.p0_r L N k z2) L s0 s1) x0
def f20 (L N : Nat) (x0 : LB) : Option (Bool) := f20.b L N some x0
def f20.ent (L N : Nat) := entRo [(.sl .bool)] (.one .bool) fun d => f20 L N d.1
noncomputable def E20 (L N : Nat) : Env := { P := Tryd.prog, ty := tyOf, Φ := (Φ19 L N), inl := inlT, live := lives, liveX := livesX, L := L, dp := none, prom := promT, heal := healT, ren := renT }
noncomputable def f20.c0 : Code := loopAt 0 (codeOf Tryd.f20)
def f20.X0_e0 {R : Type} (κ : KX R) := κ (.exit 0) f20.T0_e0 f20.H0_e0
def f20.X0_r {R : Type} (κ : KX R) := fun z2 => κ .ret (f20.T0_r z2) (f20.H0_r z2)
def f20.R0 {R : Type} (rec : KT R) := fun s0 s1 => rec (f20.T0 s0 s1) (f20.H0 s0 s1)
theorem f20.s0_eq {R : Type} (L N : Nat) (κ : KX R) (rec : KT R) (s0 : LB) (s1 : Int) :
    evRd (E20 L N) (evCallI (E20 L N) 1 2000) 1000 20 14 0 f20.c0 κ rec (f20.T0 s0 s1) (f20.H0 s0 s1)
    = f20.s0 L N (f20.X0_e0 κ) (f20.X0_r κ) (f20.R0 rec) s0 s1 := by kernel_rfl
theorem f20.l0_eq {R : Type} (L N : Nat) (κ : KX R) : ∀ (n : Nat) (s0 : LB) (s1 : Int),
    evLp (E20 L N) (evCallI (E20 L N) 1 2000) 1000 20 14 0 f20.c0 κ n (f20.T0 s0 s1) (f20.H0 s0 s1)
    = f20.l0 L N (f20.X0_e0 κ) (f20.X0_r κ) n s0 s1 := by
  intro n
  induction n with
  | zero => intros; rfl
  | succ n ih =>
    intro s0 s1
    rw [evLp_succ, f20.s0_eq]
    delta f20.R0
    simp only [ih]
    rfl
theorem f20.p0_e0_eq {R : Type} (L N : Nat) (κ : AV → Option R) :
    (contAt (E20 L N) (evCallI (E20 L N) 1 2000) 1000 20 14 0 (codeOf Tryd.f20) (finK (E20 L N) 1000 Tryd.f20 (finC (.one .bool) κ))) (.exit 0) f20.T0_e0 f20.H0_e0
    = f20.p0_e0 L N (fun a0 => κ (.tv .bool a0)) := by kernel_rfl
theorem f20.p0_r_eq {R : Type} (L N : Nat) (κ : AV → Option R) (z2 : Bool) :
    (contAt (E20 L N) (evCallI (E20 L N) 1 2000) 1000 20 14 0 (codeOf Tryd.f20) (finK (E20 L N) 1000 Tryd.f20 (finC (.one .bool) κ))) .ret (f20.T0_r z2) (f20.H0_r z2)
    = f20.p0_r L N (fun a0 => κ (.tv .bool a0)) z2 := by kernel_rfl
theorem f20.b_eq {R : Type} (L N : Nat) (κ : AV → Option R) (x0 : LB) :
    evBody (E20 L N) (evCallI (E20 L N) 1 2000) 1000 20 Tryd.f20 [(.tv (.sl .bool) x0)] [] [] (finC (.one .bool) κ)
    = f20.b L N (fun a0 => κ (.tv .bool a0)) x0 := by
  refine Eq.trans (b := f20.b' L N (fun a0 => κ (.tv .bool a0)) (fun s0 s1 => evLp (E20 L N) (evCallI (E20 L N) 1 2000) 1000 20 14 0 f20.c0 (contAt (E20 L N) (evCallI (E20 L N) 1 2000) 1000 20 14 0 (codeOf Tryd.f20) (finK (E20 L N) 1000 Tryd.f20 (finC (.one .bool) κ))) L (f20.T0 s0 s1) (f20.H0 s0 s1)) x0) (by kernel_rfl) ?_
  unfold f20.b
  simp only [f20.l0_eq]
  delta f20.X0_e0 f20.X0_r
  simp only [f20.p0_e0_eq, f20.p0_r_eq]
theorem f20.ok (L N : Nat) (hΦ : TellsOk Tryd.prog ((Φ19 L N))) : EntOk Tryd.prog 20 (f20.ent L N) := entRo_ok (E := (E20 L N)) (dep := 1000) (f := Tryd.f20) (sound_of hΦ) okP (callI_sound (sound_of hΦ) okP 1 2000) rfl rfl fun d _ hy => (f20.b_eq L N (unR (.one .bool)) d.1).trans (Eq.trans (b := f20.b L N some d.1) (by kernel_rfl) hy)
def Φ20 (L N : Nat) : Tells := (addT (Φ19 L N) 20 (f20.ent L N))
theorem Φ20_ok (L N : Nat) : TellsOk Tryd.prog (Φ20 L N) := addT_ok (Φ19_ok L N) (f20.ok L N (Φ19_ok L N))
def f46.b' {R : Type} (L N : Nat) (k : Int → Option R) (x0 : Int) : Option R :=
  bif (decide (x0 > (0 : Int))) then
    k (wi ((wi ((4 : Int) + x0)) - (1 : Int)))
  else k (wi ((wi (0 - x0)) - (1 : Int)))
def f46.b {R : Type} (L N : Nat) (k : Int → Option R) (x0 : Int) : Option R :=
  f46.b' L N k x0
def f46 (L N : Nat) (x0 : Int) : Option (Int) := f46.b L N some x0
def f46.ent (L N : Nat) := entRo [i64] (.one i64) fun d => f46 L N d.1
noncomputable def E46 (L N : Nat) : Env := { P := Tryd.prog, ty := tyOf, Φ := (Φ20 L N), inl := inlT, live := lives, liveX := livesX, L := L, dp := none, prom := promT, heal := healT, ren := renT }
theorem f46.b_eq {R : Type} (L N : Nat) (κ : AV → Option R) (x0 : Int) :
    evBody (E46 L N) (evCallI (E46 L N) 1 2000) 1000 46 Tryd.f46 [(.tv i64 x0)] [] [] (finC (.one i64) κ)
    = f46.b L N (fun a0 => κ (.tv i64 a0)) x0 := by kernel_rfl
theorem f46.ok (L N : Nat) (hΦ : TellsOk Tryd.prog ((Φ20 L N))) : EntOk Tryd.prog 46 (f46.ent L N) := entRo_ok (E := (E46 L N)) (dep := 1000) (f := Tryd.f46) (sound_of hΦ) okP (callI_sound (sound_of hΦ) okP 1 2000) rfl rfl fun d _ hy => (f46.b_eq L N (unR (.one i64)) d.1).trans (Eq.trans (b := f46.b L N some d.1) (by kernel_rfl) hy)
def Φ46 (L N : Nat) : Tells := (addT (Φ20 L N) 46 (f46.ent L N))
theorem Φ46_ok (L N : Nat) : TellsOk Tryd.prog (Φ46 L N) := addT_ok (Φ20_ok L N) (f46.ok L N (Φ20_ok L N))
def f79.s0' {R : Type} (L N : Nat) (k0_e0 : Bool → LB → Option R) (rec0 : Int → Bool → Int → LLM → LB → Option R) (s0 : Int) (s1 : Bool) (s2 : Int) (s3 : LLM) (s4 : LB) : Option R :=
  bif (decide (0 ≤ s0) && decide (s0 < (s3.length : Int))) then
    bif (decide (s2 < ((listAt s3 [] s0.toNat).length : Int))) then
      bif (decide (0 ≤ s0) && decide (s0 < (s3.length : Int))) then
        bif (decide (0 ≤ s2) && decide (s2 < ((listAt s3 [] s0.toNat).length : Int))) then
          bif ((listAt (listAt s3 [] s0.toNat) (Ty.dflt (.st 0)) s2.toNat).act == (0 : Int)) then
            rec0 s0 false (wi (s2 + (1 : Int))) s3 s4
          else (f46 L N ((listAt (listAt s3 [] s0.toNat) (Ty.dflt (.st 0)) s2.toNat).act)).bind fun y7 =>
          bif (decide (0 ≤ y7) && decide (y7 < (s4.length : Int))) then
            rec0 s0 s1 (wi (s2 + (1 : Int))) s3 (s4.set y7.toNat true)
          else none
        else none
      else none
    else k0_e0 s1 s4
  else none
def f79.s0 {R : Type} (L N : Nat) (k0_e0 : Bool → LB → Option R) (rec0 : Int → Bool → Int → LLM → LB → Option R) (s0 : Int) (s1 : Bool) (s2 : Int) (s3 : LLM) (s4 : LB) : Option R :=
  f79.s0' L N k0_e0 rec0 s0 s1 s2 s3 s4
def f79.l0 {R : Type} (L N : Nat) (k0_e0 : Bool → LB → Option R) : Nat → Int → Bool → Int → LLM → LB → Option R
  | 0, _, _, _, _, _ => none
  | n + 1, s0, s1, s2, s3, s4 => f79.s0 L N k0_e0 (f79.l0 L N k0_e0 n) s0 s1 s2 s3 s4
def f79.T0 (s0 : Int) (s1 : Bool) (s2 : Int) (s3 : LLM) (s4 : LB) : T := mkT 38 [(1, (.tv i64 s0)), (2, (.ptr 1002 0)), (6, (.row 1010)), (7, (.tv .bool s1)), (8, (.tv i64 s2))]
def f79.H0 (s0 : Int) (s1 : Bool) (s2 : Int) (s3 : LLM) (s4 : LB) : H := [(1002, (.box [(.tv (.sl (.sl (.st 0))) s3)])), (1010, (.row 4 .bool s4))]
def f79.T0_e0 (z5 : Bool) (z6 : LB) : T := mkT 38 [(6, (.row 1010)), (7, (.tv .bool z5))]
def f79.H0_e0 (z5 : Bool) (z6 : LB) : H := [(1010, (.row 4 .bool z6))]
def f79.p0_e0' {R : Type} (L N : Nat) (k : LB → Bool → Option R) (z5 : Bool) (z6 : LB) : Option R :=
  k z6 z5
def f79.p0_e0 {R : Type} (L N : Nat) (k : LB → Bool → Option R) (z5 : Bool) (z6 : LB) : Option R :=
  f79.p0_e0' L N k z5 z6
def f79.b' {R : Type} (L N : Nat) (k : LB → Bool → Option R) (w0 : Int → Bool → Int → LLM → LB → Option R) (x0 : Graph) (x1 : Int) : Option R :=
  bif (decide (0 ≤ (8 : Int)) && decide ((8 : Int) ≤ (lim : Int))) then
    w0 x1 true (0 : Int) x0.moves (List.replicate (8 : Int).toNat false)
  else none
def f79.b {R : Type} (L N : Nat) (k : LB → Bool → Option R) (x0 : Graph) (x1 : Int) : Option R :=
  f79.b' L N k (fun s0 s1 s2 s3 s4 => f79.l0 L N (fun z5 z6 => f79.p0_e0 L N k z5 z6) L s0 s1 s2 s3 s4) x0 x1
def f79 (L N : Nat) (x0 : Graph) (x1 : Int) : Option (LB × Bool) := f79.b L N (fun a0 a1 => some (a0, a1)) x0 x1
def f79.ent (L N : Nat) := entDa [(.st 2), i64] (.many [(.sl .bool), .bool]) fun d => f79 L N d.1 d.2.1
noncomputable def E79 (L N : Nat) : Env := { P := Tryd.prog, ty := tyOf, Φ := (Φ46 L N), inl := inlT, live := lives, liveX := livesX, L := L, dp := none, prom := promT, heal := healT, ren := renT }
noncomputable def f79.c0 : Code := loopAt 0 (codeOf Tryd.f79)
def f79.X0_e0 {R : Type} (κ : KX R) := fun z5 z6 => κ (.exit 0) (f79.T0_e0 z5 z6) (f79.H0_e0 z5 z6)
def f79.R0 {R : Type} (rec : KT R) := fun s0 s1 s2 s3 s4 => rec (f79.T0 s0 s1 s2 s3 s4) (f79.H0 s0 s1 s2 s3 s4)
theorem f79.s0_eq {R : Type} (L N : Nat) (κ : KX R) (rec : KT R) (s0 : Int) (s1 : Bool) (s2 : Int) (s3 : LLM) (s4 : LB) :
    evRd (E79 L N) (evCallI (E79 L N) 1 2000) 1000 79 38 0 f79.c0 κ rec (f79.T0 s0 s1 s2 s3 s4) (f79.H0 s0 s1 s2 s3 s4)
    = f79.s0 L N (f79.X0_e0 κ) (f79.R0 rec) s0 s1 s2 s3 s4 := by kernel_rfl
theorem f79.l0_eq {R : Type} (L N : Nat) (κ : KX R) : ∀ (n : Nat) (s0 : Int) (s1 : Bool) (s2 : Int) (s3 : LLM) (s4 : LB),
    evLp (E79 L N) (evCallI (E79 L N) 1 2000) 1000 79 38 0 f79.c0 κ n (f79.T0 s0 s1 s2 s3 s4) (f79.H0 s0 s1 s2 s3 s4)
    = f79.l0 L N (f79.X0_e0 κ) n s0 s1 s2 s3 s4 := by
  intro n
  induction n with
  | zero => intros; rfl
  | succ n ih =>
    intro s0 s1 s2 s3 s4
    rw [evLp_succ, f79.s0_eq]
    delta f79.R0
    simp only [ih]
    rfl
theorem f79.p0_e0_eq {R : Type} (L N : Nat) (κ : AV → Option R) (z5 : Bool) (z6 : LB) :
    (contAt (E79 L N) (evCallI (E79 L N) 1 2000) 1000 79 38 0 (codeOf Tryd.f79) (finK (E79 L N) 1000 Tryd.f79 (finC (.many [(.sl .bool), .bool]) κ))) (.exit 0) (f79.T0_e0 z5 z6) (f79.H0_e0 z5 z6)
    = f79.p0_e0 L N (fun a0 a1 => κ (.tup [(.tv (.sl .bool) a0), (.tv .bool a1)])) z5 z6 := by kernel_rfl
theorem f79.b_eq {R : Type} (L N : Nat) (κ : AV → Option R) (x0 : Graph) (x1 : Int) :
    evBody (E79 L N) (evCallI (E79 L N) 1 2000) 1000 79 Tryd.f79 [(.tv (.st 2) x0), (.tv i64 x1)] [] [] (finC (.many [(.sl .bool), .bool]) κ)
    = f79.b L N (fun a0 a1 => κ (.tup [(.tv (.sl .bool) a0), (.tv .bool a1)])) x0 x1 := by
  refine Eq.trans (b := f79.b' L N (fun a0 a1 => κ (.tup [(.tv (.sl .bool) a0), (.tv .bool a1)])) (fun s0 s1 s2 s3 s4 => evLp (E79 L N) (evCallI (E79 L N) 1 2000) 1000 79 38 0 f79.c0 (contAt (E79 L N) (evCallI (E79 L N) 1 2000) 1000 79 38 0 (codeOf Tryd.f79) (finK (E79 L N) 1000 Tryd.f79 (finC (.many [(.sl .bool), .bool]) κ))) L (f79.T0 s0 s1 s2 s3 s4) (f79.H0 s0 s1 s2 s3 s4)) x0 x1) (by kernel_rfl) ?_
  unfold f79.b
  simp only [f79.l0_eq]
  delta f79.X0_e0
  simp only [f79.p0_e0_eq]
theorem f79.ok (L N : Nat) (hΦ : TellsOk Tryd.prog ((Φ46 L N))) : EntOk Tryd.prog 79 (f79.ent L N) := entDa_ok (E := (E79 L N)) (dep := 1000) (f := Tryd.f79) (sound_of hΦ) okP (callI_sound (sound_of hΦ) okP 1 2000) rfl fun d _ hy => (f79.b_eq L N (unR (.many [(.sl .bool), .bool])) d.1 d.2.1).trans (Eq.trans (b := f79.b L N (fun a0 a1 => some (a0, a1)) d.1 d.2.1) (by kernel_rfl) hy)
def Φ79 (L N : Nat) : Tells := (addT (Φ46 L N) 79 (f79.ent L N))
theorem Φ79_ok (L N : Nat) : TellsOk Tryd.prog (Φ79 L N) := addT_ok (Φ46_ok L N) (f79.ok L N (Φ46_ok L N))
def f68.s0' {R : Type} (L N : Nat) (k0_e0 : Bool → Option R) (k0_r : Bool → Bool → Option R) (rec0 : LB → LB → Bool → Int → Option R) (s1 : LB) (s2 : LB) (s3 : Bool) (s4 : Int) : Option R :=
  bif (decide (s4 < (s1.length : Int))) then
    bif (decide (0 ≤ s4) && decide (s4 < (s1.length : Int))) then
      bif (listAt s1 false s4.toNat) then
        bif (decide (0 ≤ s4) && decide (s4 < (s2.length : Int))) then
          bif (listAt s2 false s4.toNat) then
            k0_r false s3
          else rec0 s1 s2 s3 (wi (s4 + (1 : Int)))
        else none
      else rec0 s1 s2 s3 (wi (s4 + (1 : Int)))
    else none
  else k0_e0 s3
def f68.s0 {R : Type} (L N : Nat) (k0_e0 : Bool → Option R) (k0_r : Bool → Bool → Option R) (rec0 : LB → LB → Bool → Int → Option R) (s1 : LB) (s2 : LB) (s3 : Bool) (s4 : Int) : Option R :=
  f68.s0' L N k0_e0 k0_r rec0 s1 s2 s3 s4
def f68.l0 {R : Type} (L N : Nat) (k0_e0 : Bool → Option R) (k0_r : Bool → Bool → Option R) : Nat → LB → LB → Bool → Int → Option R
  | 0, _, _, _, _ => none
  | n + 1, s1, s2, s3, s4 => f68.s0 L N k0_e0 k0_r (f68.l0 L N k0_e0 k0_r n) s1 s2 s3 s4
def f68.T0 (s1 : LB) (s2 : LB) (s3 : Bool) (s4 : Int) : T := mkT 33 [(2, (.tv (.sl .bool) s1)), (7, (.tv (.sl .bool) s2)), (8, (.tv .bool s3)), (9, (.tv i64 s4))]
def f68.H0 (s1 : LB) (s2 : LB) (s3 : Bool) (s4 : Int) : H := []
def f68.T0_e0 (z5 : Bool) : T := mkT 33 [(8, (.tv .bool z5))]
def f68.H0_e0 (z5 : Bool) : H := []
def f68.T0_r (z11 : Bool) (z12 : Bool) : T := mkT 33 [(6, (.tv .bool z11)), (8, (.tv .bool z12))]
def f68.H0_r (z11 : Bool) (z12 : Bool) : H := []
def f68.p0_e0' {R : Type} (L N : Nat) (k : Bool → Option R) (z5 : Bool) : Option R :=
  k z5
def f68.p0_e0 {R : Type} (L N : Nat) (k : Bool → Option R) (z5 : Bool) : Option R :=
  f68.p0_e0' L N k z5
def f68.p0_r' {R : Type} (L N : Nat) (k : Bool → Option R) (z11 : Bool) (z12 : Bool) : Option R :=
  k z11
def f68.p0_r {R : Type} (L N : Nat) (k : Bool → Option R) (z11 : Bool) (z12 : Bool) : Option R :=
  f68.p0_r' L N k z11 z12
def f68.b' {R : Type} (L N : Nat) (k : Bool → Option R) (w0 : LB → LB → Bool → Int → Option R) (x0 : Graph) (x1 : Int) (x2 : LB) : Option R :=
  (f79 L N (Graph.mk x0.moves) x1).bind fun y0 =>
  w0 x2 y0.1 y0.2 (0 : Int)
def f68.b {R : Type} (L N : Nat) (k : Bool → Option R) (x0 : Graph) (x1 : Int) (x2 : LB) : Option R :=
  f68.b' L N k (fun s1 s2 s3 s4 => f68.l0 L N (fun z5 => f68.p0_e0 L N k z5) (fun z11 z12 => f68.p0_r L N k z11 z12) L s1 s2 s3 s4) x0 x1 x2
def f68 (L N : Nat) (x0 : Graph) (x1 : Int) (x2 : LB) : Option (Bool) := f68.b L N some x0 x1 x2
def f68.ent (L N : Nat) := entRo [(.st 2), i64, (.sl .bool)] (.one .bool) fun d => f68 L N d.1 d.2.1 d.2.2.1
noncomputable def E68 (L N : Nat) : Env := { P := Tryd.prog, ty := tyOf, Φ := (Φ79 L N), inl := inlT, live := lives, liveX := livesX, L := L, dp := none, prom := promT, heal := healT, ren := renT }
noncomputable def f68.c0 : Code := loopAt 0 (codeOf Tryd.f68)
def f68.X0_e0 {R : Type} (κ : KX R) := fun z5 => κ (.exit 0) (f68.T0_e0 z5) (f68.H0_e0 z5)
def f68.X0_r {R : Type} (κ : KX R) := fun z11 z12 => κ .ret (f68.T0_r z11 z12) (f68.H0_r z11 z12)
def f68.R0 {R : Type} (rec : KT R) := fun s1 s2 s3 s4 => rec (f68.T0 s1 s2 s3 s4) (f68.H0 s1 s2 s3 s4)
theorem f68.s0_eq {R : Type} (L N : Nat) (κ : KX R) (rec : KT R) (s1 : LB) (s2 : LB) (s3 : Bool) (s4 : Int) :
    evRd (E68 L N) (evCallI (E68 L N) 1 2000) 1000 68 33 0 f68.c0 κ rec (f68.T0 s1 s2 s3 s4) (f68.H0 s1 s2 s3 s4)
    = f68.s0 L N (f68.X0_e0 κ) (f68.X0_r κ) (f68.R0 rec) s1 s2 s3 s4 := by kernel_rfl
theorem f68.l0_eq {R : Type} (L N : Nat) (κ : KX R) : ∀ (n : Nat) (s1 : LB) (s2 : LB) (s3 : Bool) (s4 : Int),
    evLp (E68 L N) (evCallI (E68 L N) 1 2000) 1000 68 33 0 f68.c0 κ n (f68.T0 s1 s2 s3 s4) (f68.H0 s1 s2 s3 s4)
    = f68.l0 L N (f68.X0_e0 κ) (f68.X0_r κ) n s1 s2 s3 s4 := by
  intro n
  induction n with
  | zero => intros; rfl
  | succ n ih =>
    intro s1 s2 s3 s4
    rw [evLp_succ, f68.s0_eq]
    delta f68.R0
    simp only [ih]
    rfl
theorem f68.p0_e0_eq {R : Type} (L N : Nat) (κ : AV → Option R) (z5 : Bool) :
    (contAt (E68 L N) (evCallI (E68 L N) 1 2000) 1000 68 33 0 (codeOf Tryd.f68) (finK (E68 L N) 1000 Tryd.f68 (finC (.one .bool) κ))) (.exit 0) (f68.T0_e0 z5) (f68.H0_e0 z5)
    = f68.p0_e0 L N (fun a0 => κ (.tv .bool a0)) z5 := by kernel_rfl
theorem f68.p0_r_eq {R : Type} (L N : Nat) (κ : AV → Option R) (z11 : Bool) (z12 : Bool) :
    (contAt (E68 L N) (evCallI (E68 L N) 1 2000) 1000 68 33 0 (codeOf Tryd.f68) (finK (E68 L N) 1000 Tryd.f68 (finC (.one .bool) κ))) .ret (f68.T0_r z11 z12) (f68.H0_r z11 z12)
    = f68.p0_r L N (fun a0 => κ (.tv .bool a0)) z11 z12 := by kernel_rfl
theorem f68.b_eq {R : Type} (L N : Nat) (κ : AV → Option R) (x0 : Graph) (x1 : Int) (x2 : LB) :
    evBody (E68 L N) (evCallI (E68 L N) 1 2000) 1000 68 Tryd.f68 [(.tv (.st 2) x0), (.tv i64 x1), (.tv (.sl .bool) x2)] [] [] (finC (.one .bool) κ)
    = f68.b L N (fun a0 => κ (.tv .bool a0)) x0 x1 x2 := by
  refine Eq.trans (b := f68.b' L N (fun a0 => κ (.tv .bool a0)) (fun s1 s2 s3 s4 => evLp (E68 L N) (evCallI (E68 L N) 1 2000) 1000 68 33 0 f68.c0 (contAt (E68 L N) (evCallI (E68 L N) 1 2000) 1000 68 33 0 (codeOf Tryd.f68) (finK (E68 L N) 1000 Tryd.f68 (finC (.one .bool) κ))) L (f68.T0 s1 s2 s3 s4) (f68.H0 s1 s2 s3 s4)) x0 x1 x2) (by kernel_rfl) ?_
  unfold f68.b
  simp only [f68.l0_eq]
  delta f68.X0_e0 f68.X0_r
  simp only [f68.p0_e0_eq, f68.p0_r_eq]
theorem f68.ok (L N : Nat) (hΦ : TellsOk Tryd.prog ((Φ79 L N))) : EntOk Tryd.prog 68 (f68.ent L N) := entRo_ok (E := (E68 L N)) (dep := 1000) (f := Tryd.f68) (sound_of hΦ) okP (callI_sound (sound_of hΦ) okP 1 2000) rfl rfl fun d _ hy => (f68.b_eq L N (unR (.one .bool)) d.1 d.2.1 d.2.2.1).trans (Eq.trans (b := f68.b L N some d.1 d.2.1 d.2.2.1) (by kernel_rfl) hy)
def Φ68 (L N : Nat) : Tells := (addT (Φ79 L N) 68 (f68.ent L N))
theorem Φ68_ok (L N : Nat) : TellsOk Tryd.prog (Φ68 L N) := addT_ok (Φ79_ok L N) (f68.ok L N (Φ79_ok L N))
def f47.s0' {R : Type} (L N : Nat) (k0_e0 : Option R) (k0_r : Bool → Option R) (rec0 : LB → LB → Int → LLM → Option R) (s0 : LB) (s1 : LB) (s2 : Int) (s3 : LLM) : Option R :=
  bif (decide (s2 < (s0.length : Int))) then
    bif (decide (0 ≤ s2) && decide (s2 < (s0.length : Int))) then
      bif (listAt s0 false s2.toNat) then
        (f68 L N (Graph.mk s3) s2 s1).bind fun y4 =>
        bif y4 then
          k0_r true
        else rec0 s0 s1 (wi (s2 + (1 : Int))) s3
      else rec0 s0 s1 (wi (s2 + (1 : Int))) s3
    else none
  else k0_e0
def f47.s0 {R : Type} (L N : Nat) (k0_e0 : Option R) (k0_r : Bool → Option R) (rec0 : LB → LB → Int → LLM → Option R) (s0 : LB) (s1 : LB) (s2 : Int) (s3 : LLM) : Option R :=
  f47.s0' L N k0_e0 k0_r rec0 s0 s1 s2 s3
def f47.l0 {R : Type} (L N : Nat) (k0_e0 : Option R) (k0_r : Bool → Option R) : Nat → LB → LB → Int → LLM → Option R
  | 0, _, _, _, _ => none
  | n + 1, s0, s1, s2, s3 => f47.s0 L N k0_e0 k0_r (f47.l0 L N k0_e0 k0_r n) s0 s1 s2 s3
def f47.T0 (s0 : LB) (s1 : LB) (s2 : Int) (s3 : LLM) : T := mkT 24 [(1, (.tv (.sl .bool) s0)), (2, (.tv (.sl .bool) s1)), (3, (.ptr 1003 0)), (7, (.tv i64 s2))]
def f47.H0 (s0 : LB) (s1 : LB) (s2 : Int) (s3 : LLM) : H := [(1003, (.box [(.tv (.sl (.sl (.st 0))) s3)]))]
def f47.T0_e0 : T := mkT 24 []
def f47.H0_e0 : H := []
def f47.T0_r (z10 : Bool) : T := mkT 24 [(6, (.tv .bool z10))]
def f47.H0_r (z10 : Bool) : H := []
def f47.p0_e0' {R : Type} (L N : Nat) (k : Bool → Option R) : Option R :=
  k false
def f47.p0_e0 {R : Type} (L N : Nat) (k : Bool → Option R) : Option R :=
  f47.p0_e0' L N k
def f47.p0_r' {R : Type} (L N : Nat) (k : Bool → Option R) (z10 : Bool) : Option R :=
  k z10
def f47.p0_r {R : Type} (L N : Nat) (k : Bool → Option R) (z10 : Bool) : Option R :=
  f47.p0_r' L N k z10
def f47.b' {R : Type} (L N : Nat) (k : Bool → Option R) (w0 : LB → LB → Int → LLM → Option R) (x0 : Graph) (x1 : LB) (x2 : LB) : Option R :=
  w0 x1 x2 (0 : Int) x0.moves
def f47.b {R : Type} (L N : Nat) (k : Bool → Option R) (x0 : Graph) (x1 : LB) (x2 : LB) : Option R :=
  f47.b' L N k (fun s0 s1 s2 s3 => f47.l0 L N (f47.p0_e0 L N k) (fun z10 => f47.p0_r L N k z10) L s0 s1 s2 s3) x0 x1 x2
def f47 (L N : Nat) (x0 : Graph) (x1 : LB) (x2 : LB) : Option (Bool) := f47.b L N some x0 x1 x2
def f47.ent (L N : Nat) := entRo [(.st 2), (.sl .bool), (.sl .bool)] (.one .bool) fun d => f47 L N d.1 d.2.1 d.2.2.1
noncomputable def E47 (L N : Nat) : Env := { P := Tryd.prog, ty := tyOf, Φ := (Φ68 L N), inl := inlT, live := lives, liveX := livesX, L := L, dp := none, prom := promT, heal := healT, ren := renT }
noncomputable def f47.c0 : Code := loopAt 0 (codeOf Tryd.f47)
def f47.X0_e0 {R : Type} (κ : KX R) := κ (.exit 0) f47.T0_e0 f47.H0_e0
def f47.X0_r {R : Type} (κ : KX R) := fun z10 => κ .ret (f47.T0_r z10) (f47.H0_r z10)
def f47.R0 {R : Type} (rec : KT R) := fun s0 s1 s2 s3 => rec (f47.T0 s0 s1 s2 s3) (f47.H0 s0 s1 s2 s3)
theorem f47.s0_eq {R : Type} (L N : Nat) (κ : KX R) (rec : KT R) (s0 : LB) (s1 : LB) (s2 : Int) (s3 : LLM) :
    evRd (E47 L N) (evCallI (E47 L N) 1 2000) 1000 47 24 0 f47.c0 κ rec (f47.T0 s0 s1 s2 s3) (f47.H0 s0 s1 s2 s3)
    = f47.s0 L N (f47.X0_e0 κ) (f47.X0_r κ) (f47.R0 rec) s0 s1 s2 s3 := by kernel_rfl
theorem f47.l0_eq {R : Type} (L N : Nat) (κ : KX R) : ∀ (n : Nat) (s0 : LB) (s1 : LB) (s2 : Int) (s3 : LLM),
    evLp (E47 L N) (evCallI (E47 L N) 1 2000) 1000 47 24 0 f47.c0 κ n (f47.T0 s0 s1 s2 s3) (f47.H0 s0 s1 s2 s3)
    = f47.l0 L N (f47.X0_e0 κ) (f47.X0_r κ) n s0 s1 s2 s3 := by
  intro n
  induction n with
  | zero => intros; rfl
  | succ n ih =>
    intro s0 s1 s2 s3
    rw [evLp_succ, f47.s0_eq]
    delta f47.R0
    simp only [ih]
    rfl
theorem f47.p0_e0_eq {R : Type} (L N : Nat) (κ : AV → Option R) :
    (contAt (E47 L N) (evCallI (E47 L N) 1 2000) 1000 47 24 0 (codeOf Tryd.f47) (finK (E47 L N) 1000 Tryd.f47 (finC (.one .bool) κ))) (.exit 0) f47.T0_e0 f47.H0_e0
    = f47.p0_e0 L N (fun a0 => κ (.tv .bool a0)) := by kernel_rfl
theorem f47.p0_r_eq {R : Type} (L N : Nat) (κ : AV → Option R) (z10 : Bool) :
    (contAt (E47 L N) (evCallI (E47 L N) 1 2000) 1000 47 24 0 (codeOf Tryd.f47) (finK (E47 L N) 1000 Tryd.f47 (finC (.one .bool) κ))) .ret (f47.T0_r z10) (f47.H0_r z10)
    = f47.p0_r L N (fun a0 => κ (.tv .bool a0)) z10 := by kernel_rfl
theorem f47.b_eq {R : Type} (L N : Nat) (κ : AV → Option R) (x0 : Graph) (x1 : LB) (x2 : LB) :
    evBody (E47 L N) (evCallI (E47 L N) 1 2000) 1000 47 Tryd.f47 [(.tv (.st 2) x0), (.tv (.sl .bool) x1), (.tv (.sl .bool) x2)] [] [] (finC (.one .bool) κ)
    = f47.b L N (fun a0 => κ (.tv .bool a0)) x0 x1 x2 := by
  refine Eq.trans (b := f47.b' L N (fun a0 => κ (.tv .bool a0)) (fun s0 s1 s2 s3 => evLp (E47 L N) (evCallI (E47 L N) 1 2000) 1000 47 24 0 f47.c0 (contAt (E47 L N) (evCallI (E47 L N) 1 2000) 1000 47 24 0 (codeOf Tryd.f47) (finK (E47 L N) 1000 Tryd.f47 (finC (.one .bool) κ))) L (f47.T0 s0 s1 s2 s3) (f47.H0 s0 s1 s2 s3)) x0 x1 x2) (by kernel_rfl) ?_
  unfold f47.b
  simp only [f47.l0_eq]
  delta f47.X0_e0 f47.X0_r
  simp only [f47.p0_e0_eq, f47.p0_r_eq]
theorem f47.ok (L N : Nat) (hΦ : TellsOk Tryd.prog ((Φ68 L N))) : EntOk Tryd.prog 47 (f47.ent L N) := entRo_ok (E := (E47 L N)) (dep := 1000) (f := Tryd.f47) (sound_of hΦ) okP (callI_sound (sound_of hΦ) okP 1 2000) rfl rfl fun d _ hy => (f47.b_eq L N (unR (.one .bool)) d.1 d.2.1 d.2.2.1).trans (Eq.trans (b := f47.b L N some d.1 d.2.1 d.2.2.1) (by kernel_rfl) hy)
def Φ47 (L N : Nat) : Tells := (addT (Φ68 L N) 47 (f47.ent L N))
theorem Φ47_ok (L N : Nat) : TellsOk Tryd.prog (Φ47 L N) := addT_ok (Φ68_ok L N) (f47.ok L N (Φ68_ok L N))
def f18.j0' {R : Type} (L N : Nat) (k0_e0 : Option R) (k0_r : Bool → Option R) (rec0 : LB → Int → LLM → Option R) (v9 : LB) (v10 : Int) (v11 : LLM) : Option R :=
  bif (decide (0 ≤ (8 : Int)) && decide ((8 : Int) ≤ (lim : Int))) then
    (f46 L N v10).bind fun y12 =>
    bif (decide (0 ≤ y12) && decide (y12 < ((List.replicate (8 : Int).toNat false).length : Int))) then
      (f47 L N (Graph.mk v11) v9 ((List.replicate (8 : Int).toNat false).set y12.toNat true)).bind fun y13 =>
      bif y13 then
        k0_r false
      else rec0 v9 (wi (v10 + (1 : Int))) v11
    else none
  else none
def f18.s0' {R : Type} (L N : Nat) (k0_e0 : Option R) (k0_r : Bool → Option R) (rec0 : LB → Int → LLM → Option R) (s0 : LB) (s1 : Int) (s2 : LLM) : Option R :=
  bif (decide (s1 ≤ (4 : Int))) then
    bif (s1 == (0 : Int)) then
      rec0 s0 (wi (s1 + (1 : Int))) s2
    else (f19 L N (Graph.mk s2) s0 s1).bind fun y3 =>
    (f20 L N y3).bind fun y4 =>
    bif (!y4) then
      rec0 s0 (wi (s1 + (1 : Int))) s2
    else f18.j0' L N k0_e0 k0_r rec0 s0 s1 s2
  else k0_e0
def f18.s0 {R : Type} (L N : Nat) (k0_e0 : Option R) (k0_r : Bool → Option R) (rec0 : LB → Int → LLM → Option R) (s0 : LB) (s1 : Int) (s2 : LLM) : Option R :=
  f18.s0' L N k0_e0 k0_r rec0 s0 s1 s2
def f18.l0 {R : Type} (L N : Nat) (k0_e0 : Option R) (k0_r : Bool → Option R) : Nat → LB → Int → LLM → Option R
  | 0, _, _, _ => none
  | n + 1, s0, s1, s2 => f18.s0 L N k0_e0 k0_r (f18.l0 L N k0_e0 k0_r n) s0 s1 s2
def f18.T0 (s0 : LB) (s1 : Int) (s2 : LLM) : T := mkT 30 [(1, (.tv (.sl .bool) s0)), (2, (.ptr 1002 0)), (5, (.tv i64 s1))]
def f18.H0 (s0 : LB) (s1 : Int) (s2 : LLM) : H := [(1002, (.box [(.tv (.sl (.sl (.st 0))) s2)]))]
def f18.T0_e0 : T := mkT 30 []
def f18.H0_e0 : H := []
def f18.T0_r (z14 : Bool) : T := mkT 30 [(4, (.tv .bool z14))]
def f18.H0_r (z14 : Bool) : H := []
def f18.p0_e0' {R : Type} (L N : Nat) (k : Bool → Option R) : Option R :=
  k true
def f18.p0_e0 {R : Type} (L N : Nat) (k : Bool → Option R) : Option R :=
  f18.p0_e0' L N k
def f18.p0_r' {R : Type} (L N : Nat) (k : Bool → Option R) (z14 : Bool) : Option R :=
  k z14
def f18.p0_r {R : Type} (L N : Nat) (k : Bool → Option R) (z14 : Bool) : Option R :=
  f18.p0_r' L N k z14
def f18.b' {R : Type} (L N : Nat) (k : Bool → Option R) (w0 : LB → Int → LLM → Option R) (x0 : Graph) (x1 : LB) : Option R :=
  w0 x1 (-4 : Int) x0.moves
def f18.b {R : Type} (L N : Nat) (k : Bool → Option R) (x0 : Graph) (x1 : LB) : Option R :=
  f18.b' L N k (fun s0 s1 s2 => f18.l0 L N (f18.p0_e0 L N k) (fun z14 => f18.p0_r L N k z14) L s0 s1 s2) x0 x1
def f18 (L N : Nat) (x0 : Graph) (x1 : LB) : Option (Bool) := f18.b L N some x0 x1
def f18.ent (L N : Nat) := entRo [(.st 2), (.sl .bool)] (.one .bool) fun d => f18 L N d.1 d.2.1
noncomputable def E18 (L N : Nat) : Env := { P := Tryd.prog, ty := tyOf, Φ := (Φ47 L N), inl := inlT, live := lives, liveX := livesX, L := L, dp := none, prom := promT, heal := healT, ren := renT }
noncomputable def f18.c0 : Code := loopAt 0 (codeOf Tryd.f18)
def f18.X0_e0 {R : Type} (κ : KX R) := κ (.exit 0) f18.T0_e0 f18.H0_e0
def f18.X0_r {R : Type} (κ : KX R) := fun z14 => κ .ret (f18.T0_r z14) (f18.H0_r z14)
def f18.R0 {R : Type} (rec : KT R) := fun s0 s1 s2 => rec (f18.T0 s0 s1 s2) (f18.H0 s0 s1 s2)
theorem f18.s0_eq {R : Type} (L N : Nat) (κ : KX R) (rec : KT R) (s0 : LB) (s1 : Int) (s2 : LLM) :
    evRd (E18 L N) (evCallI (E18 L N) 1 2000) 1000 18 30 0 f18.c0 κ rec (f18.T0 s0 s1 s2) (f18.H0 s0 s1 s2)
    = f18.s0 L N (f18.X0_e0 κ) (f18.X0_r κ) (f18.R0 rec) s0 s1 s2 := by kernel_rfl
theorem f18.l0_eq {R : Type} (L N : Nat) (κ : KX R) : ∀ (n : Nat) (s0 : LB) (s1 : Int) (s2 : LLM),
    evLp (E18 L N) (evCallI (E18 L N) 1 2000) 1000 18 30 0 f18.c0 κ n (f18.T0 s0 s1 s2) (f18.H0 s0 s1 s2)
    = f18.l0 L N (f18.X0_e0 κ) (f18.X0_r κ) n s0 s1 s2 := by
  intro n
  induction n with
  | zero => intros; rfl
  | succ n ih =>
    intro s0 s1 s2
    rw [evLp_succ, f18.s0_eq]
    delta f18.R0
    simp only [ih]
    rfl
theorem f18.p0_e0_eq {R : Type} (L N : Nat) (κ : AV → Option R) :
    (contAt (E18 L N) (evCallI (E18 L N) 1 2000) 1000 18 30 0 (codeOf Tryd.f18) (finK (E18 L N) 1000 Tryd.f18 (finC (.one .bool) κ))) (.exit 0) f18.T0_e0 f18.H0_e0
    = f18.p0_e0 L N (fun a0 => κ (.tv .bool a0)) := by kernel_rfl
theorem f18.p0_r_eq {R : Type} (L N : Nat) (κ : AV → Option R) (z14 : Bool) :
    (contAt (E18 L N) (evCallI (E18 L N) 1 2000) 1000 18 30 0 (codeOf Tryd.f18) (finK (E18 L N) 1000 Tryd.f18 (finC (.one .bool) κ))) .ret (f18.T0_r z14) (f18.H0_r z14)
    = f18.p0_r L N (fun a0 => κ (.tv .bool a0)) z14 := by kernel_rfl
theorem f18.b_eq {R : Type} (L N : Nat) (κ : AV → Option R) (x0 : Graph) (x1 : LB) :
    evBody (E18 L N) (evCallI (E18 L N) 1 2000) 1000 18 Tryd.f18 [(.tv (.st 2) x0), (.tv (.sl .bool) x1)] [] [] (finC (.one .bool) κ)
    = f18.b L N (fun a0 => κ (.tv .bool a0)) x0 x1 := by
  refine Eq.trans (b := f18.b' L N (fun a0 => κ (.tv .bool a0)) (fun s0 s1 s2 => evLp (E18 L N) (evCallI (E18 L N) 1 2000) 1000 18 30 0 f18.c0 (contAt (E18 L N) (evCallI (E18 L N) 1 2000) 1000 18 30 0 (codeOf Tryd.f18) (finK (E18 L N) 1000 Tryd.f18 (finC (.one .bool) κ))) L (f18.T0 s0 s1 s2) (f18.H0 s0 s1 s2)) x0 x1) (by kernel_rfl) ?_
  unfold f18.b
  simp only [f18.l0_eq]
  delta f18.X0_e0 f18.X0_r
  simp only [f18.p0_e0_eq, f18.p0_r_eq]
theorem f18.ok (L N : Nat) (hΦ : TellsOk Tryd.prog ((Φ47 L N))) : EntOk Tryd.prog 18 (f18.ent L N) := entRo_ok (E := (E18 L N)) (dep := 1000) (f := Tryd.f18) (sound_of hΦ) okP (callI_sound (sound_of hΦ) okP 1 2000) rfl rfl fun d _ hy => (f18.b_eq L N (unR (.one .bool)) d.1 d.2.1).trans (Eq.trans (b := f18.b L N some d.1 d.2.1) (by kernel_rfl) hy)
def Φ18 (L N : Nat) : Tells := (addT (Φ47 L N) 18 (f18.ent L N))
theorem Φ18_ok (L N : Nat) : TellsOk Tryd.prog (Φ18 L N) := addT_ok (Φ47_ok L N) (f18.ok L N (Φ47_ok L N))
def f48.s0' {R : Type} (L N : Nat) (k0_e0 : Option R) (k0_r : Bool → Option R) (rec0 : LI → LI → Int → Option R) (s0 : LI) (s1 : LI) (s2 : Int) : Option R :=
  bif (decide (s2 < (s0.length : Int))) then
    bif (decide (0 ≤ s2) && decide (s2 < (s0.length : Int))) then
      bif (decide (0 ≤ s2) && decide (s2 < (s1.length : Int))) then
        bif ((listAt s0 (0 : Int) s2.toNat) != (listAt s1 (0 : Int) s2.toNat)) then
          k0_r false
        else rec0 s0 s1 (wi (s2 + (1 : Int)))
      else none
    else none
  else k0_e0
def f48.s0 {R : Type} (L N : Nat) (k0_e0 : Option R) (k0_r : Bool → Option R) (rec0 : LI → LI → Int → Option R) (s0 : LI) (s1 : LI) (s2 : Int) : Option R :=
  f48.s0' L N k0_e0 k0_r rec0 s0 s1 s2
def f48.l0 {R : Type} (L N : Nat) (k0_e0 : Option R) (k0_r : Bool → Option R) : Nat → LI → LI → Int → Option R
  | 0, _, _, _ => none
  | n + 1, s0, s1, s2 => f48.s0 L N k0_e0 k0_r (f48.l0 L N k0_e0 k0_r n) s0 s1 s2
def f48.T0 (s0 : LI) (s1 : LI) (s2 : Int) : T := mkT 26 [(0, (.tv (.sl i64) s0)), (1, (.tv (.sl i64) s1)), (5, (.tv i64 s2))]
def f48.H0 (s0 : LI) (s1 : LI) (s2 : Int) : H := []
def f48.T0_e0 : T := mkT 26 []
def f48.H0_e0 : H := []
def f48.T0_r (z3 : Bool) : T := mkT 26 [(4, (.tv .bool z3))]
def f48.H0_r (z3 : Bool) : H := []
def f48.p0_e0' {R : Type} (L N : Nat) (k : Bool → Option R) : Option R :=
  k true
def f48.p0_e0 {R : Type} (L N : Nat) (k : Bool → Option R) : Option R :=
  f48.p0_e0' L N k
def f48.p0_r' {R : Type} (L N : Nat) (k : Bool → Option R) (z3 : Bool) : Option R :=
  k z3
def f48.p0_r {R : Type} (L N : Nat) (k : Bool → Option R) (z3 : Bool) : Option R :=
  f48.p0_r' L N k z3
def f48.b' {R : Type} (L N : Nat) (k : Bool → Option R) (w0 : LI → LI → Int → Option R) (x0 : LI) (x1 : LI) : Option R :=
  bif ((x0.length : Int) != (x1.length : Int)) then
    k false
  else w0 x0 x1 (0 : Int)
def f48.b {R : Type} (L N : Nat) (k : Bool → Option R) (x0 : LI) (x1 : LI) : Option R :=
  f48.b' L N k (fun s0 s1 s2 => f48.l0 L N (f48.p0_e0 L N k) (fun z3 => f48.p0_r L N k z3) L s0 s1 s2) x0 x1
def f48 (L N : Nat) (x0 : LI) (x1 : LI) : Option (Bool) := f48.b L N some x0 x1
def f48.ent (L N : Nat) := entRo [(.sl i64), (.sl i64)] (.one .bool) fun d => f48 L N d.1 d.2.1
noncomputable def E48 (L N : Nat) : Env := { P := Tryd.prog, ty := tyOf, Φ := (Φ18 L N), inl := inlT, live := lives, liveX := livesX, L := L, dp := none, prom := promT, heal := healT, ren := renT }
noncomputable def f48.c0 : Code := loopAt 0 (codeOf Tryd.f48)
def f48.X0_e0 {R : Type} (κ : KX R) := κ (.exit 0) f48.T0_e0 f48.H0_e0
def f48.X0_r {R : Type} (κ : KX R) := fun z3 => κ .ret (f48.T0_r z3) (f48.H0_r z3)
def f48.R0 {R : Type} (rec : KT R) := fun s0 s1 s2 => rec (f48.T0 s0 s1 s2) (f48.H0 s0 s1 s2)
theorem f48.s0_eq {R : Type} (L N : Nat) (κ : KX R) (rec : KT R) (s0 : LI) (s1 : LI) (s2 : Int) :
    evRd (E48 L N) (evCallI (E48 L N) 1 2000) 1000 48 26 0 f48.c0 κ rec (f48.T0 s0 s1 s2) (f48.H0 s0 s1 s2)
    = f48.s0 L N (f48.X0_e0 κ) (f48.X0_r κ) (f48.R0 rec) s0 s1 s2 := by kernel_rfl
theorem f48.l0_eq {R : Type} (L N : Nat) (κ : KX R) : ∀ (n : Nat) (s0 : LI) (s1 : LI) (s2 : Int),
    evLp (E48 L N) (evCallI (E48 L N) 1 2000) 1000 48 26 0 f48.c0 κ n (f48.T0 s0 s1 s2) (f48.H0 s0 s1 s2)
    = f48.l0 L N (f48.X0_e0 κ) (f48.X0_r κ) n s0 s1 s2 := by
  intro n
  induction n with
  | zero => intros; rfl
  | succ n ih =>
    intro s0 s1 s2
    rw [evLp_succ, f48.s0_eq]
    delta f48.R0
    simp only [ih]
    rfl
theorem f48.p0_e0_eq {R : Type} (L N : Nat) (κ : AV → Option R) :
    (contAt (E48 L N) (evCallI (E48 L N) 1 2000) 1000 48 26 0 (codeOf Tryd.f48) (finK (E48 L N) 1000 Tryd.f48 (finC (.one .bool) κ))) (.exit 0) f48.T0_e0 f48.H0_e0
    = f48.p0_e0 L N (fun a0 => κ (.tv .bool a0)) := by kernel_rfl
theorem f48.p0_r_eq {R : Type} (L N : Nat) (κ : AV → Option R) (z3 : Bool) :
    (contAt (E48 L N) (evCallI (E48 L N) 1 2000) 1000 48 26 0 (codeOf Tryd.f48) (finK (E48 L N) 1000 Tryd.f48 (finC (.one .bool) κ))) .ret (f48.T0_r z3) (f48.H0_r z3)
    = f48.p0_r L N (fun a0 => κ (.tv .bool a0)) z3 := by kernel_rfl
theorem f48.b_eq {R : Type} (L N : Nat) (κ : AV → Option R) (x0 : LI) (x1 : LI) :
    evBody (E48 L N) (evCallI (E48 L N) 1 2000) 1000 48 Tryd.f48 [(.tv (.sl i64) x0), (.tv (.sl i64) x1)] [] [] (finC (.one .bool) κ)
    = f48.b L N (fun a0 => κ (.tv .bool a0)) x0 x1 := by
  refine Eq.trans (b := f48.b' L N (fun a0 => κ (.tv .bool a0)) (fun s0 s1 s2 => evLp (E48 L N) (evCallI (E48 L N) 1 2000) 1000 48 26 0 f48.c0 (contAt (E48 L N) (evCallI (E48 L N) 1 2000) 1000 48 26 0 (codeOf Tryd.f48) (finK (E48 L N) 1000 Tryd.f48 (finC (.one .bool) κ))) L (f48.T0 s0 s1 s2) (f48.H0 s0 s1 s2)) x0 x1) (by kernel_rfl) ?_
  unfold f48.b
  simp only [f48.l0_eq]
  delta f48.X0_e0 f48.X0_r
  simp only [f48.p0_e0_eq, f48.p0_r_eq]
theorem f48.ok (L N : Nat) (hΦ : TellsOk Tryd.prog ((Φ18 L N))) : EntOk Tryd.prog 48 (f48.ent L N) := entRo_ok (E := (E48 L N)) (dep := 1000) (f := Tryd.f48) (sound_of hΦ) okP (callI_sound (sound_of hΦ) okP 1 2000) rfl rfl fun d _ hy => (f48.b_eq L N (unR (.one .bool)) d.1 d.2.1).trans (Eq.trans (b := f48.b L N some d.1 d.2.1) (by kernel_rfl) hy)
def Φ48 (L N : Nat) : Tells := (addT (Φ18 L N) 48 (f48.ent L N))
theorem Φ48_ok (L N : Nat) : TellsOk Tryd.prog (Φ48 L N) := addT_ok (Φ18_ok L N) (f48.ok L N (Φ18_ok L N))
def f49.s0' {R : Type} (L N : Nat) (k0_e0 : LI → Option R) (rec0 : LB → Int → LI → Option R) (s0 : LB) (s1 : Int) (s2 : LI) : Option R :=
  bif (decide (s1 < (s0.length : Int))) then
    bif (decide (0 ≤ s1) && decide (s1 < (s0.length : Int))) then
      bif (listAt s0 false s1.toNat) then
        bif (decide (s2.length + ([s1] : LI).length ≤ lim)) then
          rec0 s0 (wi (s1 + (1 : Int))) (s2 ++ ([s1] : LI))
        else none
      else rec0 s0 (wi (s1 + (1 : Int))) s2
    else none
  else k0_e0 s2
def f49.s0 {R : Type} (L N : Nat) (k0_e0 : LI → Option R) (rec0 : LB → Int → LI → Option R) (s0 : LB) (s1 : Int) (s2 : LI) : Option R :=
  f49.s0' L N k0_e0 rec0 s0 s1 s2
def f49.l0 {R : Type} (L N : Nat) (k0_e0 : LI → Option R) : Nat → LB → Int → LI → Option R
  | 0, _, _, _ => none
  | n + 1, s0, s1, s2 => f49.s0 L N k0_e0 (f49.l0 L N k0_e0 n) s0 s1 s2
def f49.T0 (s0 : LB) (s1 : Int) (s2 : LI) : T := mkT 21 [(0, (.tv (.sl .bool) s0)), (3, (.row 1005)), (4, (.tv i64 s1))]
def f49.H0 (s0 : LB) (s1 : Int) (s2 : LI) : H := [(1005, (.row 3 i64 s2))]
def f49.T0_e0 (z3 : LI) : T := mkT 21 [(3, (.row 1005))]
def f49.H0_e0 (z3 : LI) : H := [(1005, (.row 3 i64 z3))]
def f49.p0_e0' {R : Type} (L N : Nat) (k : LI → Option R) (z3 : LI) : Option R :=
  k z3
def f49.p0_e0 {R : Type} (L N : Nat) (k : LI → Option R) (z3 : LI) : Option R :=
  f49.p0_e0' L N k z3
def f49.b' {R : Type} (L N : Nat) (k : LI → Option R) (w0 : LB → Int → LI → Option R) (x0 : LB) : Option R :=
  w0 x0 (0 : Int) ([] : LI)
def f49.b {R : Type} (L N : Nat) (k : LI → Option R) (x0 : LB) : Option R :=
  f49.b' L N k (fun s0 s1 s2 => f49.l0 L N (fun z3 => f49.p0_e0 L N k z3) L s0 s1 s2) x0
def f49 (L N : Nat) (x0 : LB) : Option (LI) := f49.b L N some x0
def f49.ent (L N : Nat) := entDa [(.sl .bool)] (.one (.sl i64)) fun d => f49 L N d.1
noncomputable def E49 (L N : Nat) : Env := { P := Tryd.prog, ty := tyOf, Φ := (Φ48 L N), inl := inlT, live := lives, liveX := livesX, L := L, dp := none, prom := promT, heal := healT, ren := renT }
noncomputable def f49.c0 : Code := loopAt 0 (codeOf Tryd.f49)
def f49.X0_e0 {R : Type} (κ : KX R) := fun z3 => κ (.exit 0) (f49.T0_e0 z3) (f49.H0_e0 z3)
def f49.R0 {R : Type} (rec : KT R) := fun s0 s1 s2 => rec (f49.T0 s0 s1 s2) (f49.H0 s0 s1 s2)
theorem f49.s0_eq {R : Type} (L N : Nat) (κ : KX R) (rec : KT R) (s0 : LB) (s1 : Int) (s2 : LI) :
    evRd (E49 L N) (evCallI (E49 L N) 1 2000) 1000 49 21 0 f49.c0 κ rec (f49.T0 s0 s1 s2) (f49.H0 s0 s1 s2)
    = f49.s0 L N (f49.X0_e0 κ) (f49.R0 rec) s0 s1 s2 := by kernel_rfl
theorem f49.l0_eq {R : Type} (L N : Nat) (κ : KX R) : ∀ (n : Nat) (s0 : LB) (s1 : Int) (s2 : LI),
    evLp (E49 L N) (evCallI (E49 L N) 1 2000) 1000 49 21 0 f49.c0 κ n (f49.T0 s0 s1 s2) (f49.H0 s0 s1 s2)
    = f49.l0 L N (f49.X0_e0 κ) n s0 s1 s2 := by
  intro n
  induction n with
  | zero => intros; rfl
  | succ n ih =>
    intro s0 s1 s2
    rw [evLp_succ, f49.s0_eq]
    delta f49.R0
    simp only [ih]
    rfl
theorem f49.p0_e0_eq {R : Type} (L N : Nat) (κ : AV → Option R) (z3 : LI) :
    (contAt (E49 L N) (evCallI (E49 L N) 1 2000) 1000 49 21 0 (codeOf Tryd.f49) (finK (E49 L N) 1000 Tryd.f49 (finC (.one (.sl i64)) κ))) (.exit 0) (f49.T0_e0 z3) (f49.H0_e0 z3)
    = f49.p0_e0 L N (fun a0 => κ (.tv (.sl i64) a0)) z3 := by kernel_rfl
theorem f49.b_eq {R : Type} (L N : Nat) (κ : AV → Option R) (x0 : LB) :
    evBody (E49 L N) (evCallI (E49 L N) 1 2000) 1000 49 Tryd.f49 [(.tv (.sl .bool) x0)] [] [] (finC (.one (.sl i64)) κ)
    = f49.b L N (fun a0 => κ (.tv (.sl i64) a0)) x0 := by
  refine Eq.trans (b := f49.b' L N (fun a0 => κ (.tv (.sl i64) a0)) (fun s0 s1 s2 => evLp (E49 L N) (evCallI (E49 L N) 1 2000) 1000 49 21 0 f49.c0 (contAt (E49 L N) (evCallI (E49 L N) 1 2000) 1000 49 21 0 (codeOf Tryd.f49) (finK (E49 L N) 1000 Tryd.f49 (finC (.one (.sl i64)) κ))) L (f49.T0 s0 s1 s2) (f49.H0 s0 s1 s2)) x0) (by kernel_rfl) ?_
  unfold f49.b
  simp only [f49.l0_eq]
  delta f49.X0_e0
  simp only [f49.p0_e0_eq]
theorem f49.ok (L N : Nat) (hΦ : TellsOk Tryd.prog ((Φ48 L N))) : EntOk Tryd.prog 49 (f49.ent L N) := entDa_ok (E := (E49 L N)) (dep := 1000) (f := Tryd.f49) (sound_of hΦ) okP (callI_sound (sound_of hΦ) okP 1 2000) rfl fun d _ hy => (f49.b_eq L N (unR (.one (.sl i64))) d.1).trans (Eq.trans (b := f49.b L N some d.1) (by kernel_rfl) hy)
def Φ49 (L N : Nat) : Tells := (addT (Φ48 L N) 49 (f49.ent L N))
theorem Φ49_ok (L N : Nat) : TellsOk Tryd.prog (Φ49 L N) := addT_ok (Φ48_ok L N) (f49.ok L N (Φ48_ok L N))
def f21.s0' {R : Type} (L N : Nat) (k0_e0 : LLB → Option R) (k0_r : LLB → Int → Option R) (rec0 : LLB → LB → Int → Option R) (s0 : LLB) (s1 : LB) (s2 : Int) : Option R :=
  bif (decide (s2 < (s0.length : Int))) then
    bif (decide (0 ≤ s2) && decide (s2 < (s0.length : Int))) then
      (f49 L N (listAt s0 [] s2.toNat)).bind fun y4 =>
      (f49 L N s1).bind fun y5 =>
      (f48 L N y4 y5).bind fun y6 =>
      bif y6 then
        k0_r s0 s2
      else rec0 s0 s1 (wi (s2 + (1 : Int)))
    else none
  else k0_e0 s0
def f21.s0 {R : Type} (L N : Nat) (k0_e0 : LLB → Option R) (k0_r : LLB → Int → Option R) (rec0 : LLB → LB → Int → Option R) (s0 : LLB) (s1 : LB) (s2 : Int) : Option R :=
  f21.s0' L N k0_e0 k0_r rec0 s0 s1 s2
def f21.l0 {R : Type} (L N : Nat) (k0_e0 : LLB → Option R) (k0_r : LLB → Int → Option R) : Nat → LLB → LB → Int → Option R
  | 0, _, _, _ => none
  | n + 1, s0, s1, s2 => f21.s0 L N k0_e0 k0_r (f21.l0 L N k0_e0 k0_r n) s0 s1 s2
def f21.T0 (s0 : LLB) (s1 : LB) (s2 : Int) : T := mkT 23 [(0, (.tv (.sl (.sl .bool)) s0)), (1, (.tv (.sl .bool) s1)), (5, (.tv i64 s2))]
def f21.H0 (s0 : LLB) (s1 : LB) (s2 : Int) : H := []
def f21.T0_e0 (z3 : LLB) : T := mkT 23 [(0, (.tv (.sl (.sl .bool)) z3))]
def f21.H0_e0 (z3 : LLB) : H := []
def f21.T0_r (z7 : LLB) (z8 : Int) : T := mkT 23 [(0, (.tv (.sl (.sl .bool)) z7)), (4, (.tv i64 z8))]
def f21.H0_r (z7 : LLB) (z8 : Int) : H := []
def f21.p0_e0' {R : Type} (L N : Nat) (k : Int → Option R) (z3 : LLB) : Option R :=
  k (z3.length : Int)
def f21.p0_e0 {R : Type} (L N : Nat) (k : Int → Option R) (z3 : LLB) : Option R :=
  f21.p0_e0' L N k z3
def f21.p0_r' {R : Type} (L N : Nat) (k : Int → Option R) (z7 : LLB) (z8 : Int) : Option R :=
  k z8
def f21.p0_r {R : Type} (L N : Nat) (k : Int → Option R) (z7 : LLB) (z8 : Int) : Option R :=
  f21.p0_r' L N k z7 z8
def f21.b' {R : Type} (L N : Nat) (k : Int → Option R) (w0 : LLB → LB → Int → Option R) (x0 : LLB) (x1 : LB) : Option R :=
  w0 x0 x1 (0 : Int)
def f21.b {R : Type} (L N : Nat) (k : Int → Option R) (x0 : LLB) (x1 : LB) : Option R :=
  f21.b' L N k (fun s0 s1 s2 => f21.l0 L N (fun z3 => f21.p0_e0 L N k z3) (fun z7 z8 => f21.p0_r L N k z7 z8) L s0 s1 s2) x0 x1
def f21 (L N : Nat) (x0 : LLB) (x1 : LB) : Option (Int) := f21.b L N some x0 x1
def f21.ent (L N : Nat) := entRo [(.sl (.sl .bool)), (.sl .bool)] (.one i64) fun d => f21 L N d.1 d.2.1
noncomputable def E21 (L N : Nat) : Env := { P := Tryd.prog, ty := tyOf, Φ := (Φ49 L N), inl := inlT, live := lives, liveX := livesX, L := L, dp := none, prom := promT, heal := healT, ren := renT }
noncomputable def f21.c0 : Code := loopAt 0 (codeOf Tryd.f21)
def f21.X0_e0 {R : Type} (κ : KX R) := fun z3 => κ (.exit 0) (f21.T0_e0 z3) (f21.H0_e0 z3)
def f21.X0_r {R : Type} (κ : KX R) := fun z7 z8 => κ .ret (f21.T0_r z7 z8) (f21.H0_r z7 z8)
def f21.R0 {R : Type} (rec : KT R) := fun s0 s1 s2 => rec (f21.T0 s0 s1 s2) (f21.H0 s0 s1 s2)
theorem f21.s0_eq {R : Type} (L N : Nat) (κ : KX R) (rec : KT R) (s0 : LLB) (s1 : LB) (s2 : Int) :
    evRd (E21 L N) (evCallI (E21 L N) 1 2000) 1000 21 23 0 f21.c0 κ rec (f21.T0 s0 s1 s2) (f21.H0 s0 s1 s2)
    = f21.s0 L N (f21.X0_e0 κ) (f21.X0_r κ) (f21.R0 rec) s0 s1 s2 := by kernel_rfl
theorem f21.l0_eq {R : Type} (L N : Nat) (κ : KX R) : ∀ (n : Nat) (s0 : LLB) (s1 : LB) (s2 : Int),
    evLp (E21 L N) (evCallI (E21 L N) 1 2000) 1000 21 23 0 f21.c0 κ n (f21.T0 s0 s1 s2) (f21.H0 s0 s1 s2)
    = f21.l0 L N (f21.X0_e0 κ) (f21.X0_r κ) n s0 s1 s2 := by
  intro n
  induction n with
  | zero => intros; rfl
  | succ n ih =>
    intro s0 s1 s2
    rw [evLp_succ, f21.s0_eq]
    delta f21.R0
    simp only [ih]
    rfl
theorem f21.p0_e0_eq {R : Type} (L N : Nat) (κ : AV → Option R) (z3 : LLB) :
    (contAt (E21 L N) (evCallI (E21 L N) 1 2000) 1000 21 23 0 (codeOf Tryd.f21) (finK (E21 L N) 1000 Tryd.f21 (finC (.one i64) κ))) (.exit 0) (f21.T0_e0 z3) (f21.H0_e0 z3)
    = f21.p0_e0 L N (fun a0 => κ (.tv i64 a0)) z3 := by kernel_rfl
theorem f21.p0_r_eq {R : Type} (L N : Nat) (κ : AV → Option R) (z7 : LLB) (z8 : Int) :
    (contAt (E21 L N) (evCallI (E21 L N) 1 2000) 1000 21 23 0 (codeOf Tryd.f21) (finK (E21 L N) 1000 Tryd.f21 (finC (.one i64) κ))) .ret (f21.T0_r z7 z8) (f21.H0_r z7 z8)
    = f21.p0_r L N (fun a0 => κ (.tv i64 a0)) z7 z8 := by kernel_rfl
theorem f21.b_eq {R : Type} (L N : Nat) (κ : AV → Option R) (x0 : LLB) (x1 : LB) :
    evBody (E21 L N) (evCallI (E21 L N) 1 2000) 1000 21 Tryd.f21 [(.tv (.sl (.sl .bool)) x0), (.tv (.sl .bool) x1)] [] [] (finC (.one i64) κ)
    = f21.b L N (fun a0 => κ (.tv i64 a0)) x0 x1 := by
  refine Eq.trans (b := f21.b' L N (fun a0 => κ (.tv i64 a0)) (fun s0 s1 s2 => evLp (E21 L N) (evCallI (E21 L N) 1 2000) 1000 21 23 0 f21.c0 (contAt (E21 L N) (evCallI (E21 L N) 1 2000) 1000 21 23 0 (codeOf Tryd.f21) (finK (E21 L N) 1000 Tryd.f21 (finC (.one i64) κ))) L (f21.T0 s0 s1 s2) (f21.H0 s0 s1 s2)) x0 x1) (by kernel_rfl) ?_
  unfold f21.b
  simp only [f21.l0_eq]
  delta f21.X0_e0 f21.X0_r
  simp only [f21.p0_e0_eq, f21.p0_r_eq]
theorem f21.ok (L N : Nat) (hΦ : TellsOk Tryd.prog ((Φ49 L N))) : EntOk Tryd.prog 21 (f21.ent L N) := entRo_ok (E := (E21 L N)) (dep := 1000) (f := Tryd.f21) (sound_of hΦ) okP (callI_sound (sound_of hΦ) okP 1 2000) rfl rfl fun d _ hy => (f21.b_eq L N (unR (.one i64)) d.1 d.2.1).trans (Eq.trans (b := f21.b L N some d.1 d.2.1) (by kernel_rfl) hy)
def Φ21 (L N : Nat) : Tells := (addT (Φ49 L N) 21 (f21.ent L N))
theorem Φ21_ok (L N : Nat) : TellsOk Tryd.prog (Φ21 L N) := addT_ok (Φ49_ok L N) (f21.ok L N (Φ49_ok L N))
def f6.j0' {R : Type} (L N : Nat) (k1_e2 : Int → LLM → LLB → Option R) (rec1 : Int → Int → LLM → LLB → Option R) (v22 : Int) (v23 : Int) (v24 : LB) (v25 : Bool) (v26 : LLM) (v27 : LLB) : Option R :=
  bif v25 then
    bif (decide (v27.length + ([v24] : LLB).length ≤ lim)) then
      rec1 v22 (wi (v23 + (1 : Int))) v26 (v27 ++ ([v24] : LLB))
    else none
  else rec1 v22 (wi (v23 + (1 : Int))) v26 v27
def f6.s1' {R : Type} (L N : Nat) (k1_e2 : Int → LLM → LLB → Option R) (rec1 : Int → Int → LLM → LLB → Option R) (s12 : Int) (s13 : Int) (s14 : LLM) (s15 : LLB) : Option R :=
  bif (decide (s13 ≤ (4 : Int))) then
    bif (decide (0 ≤ s12) && decide (s12 < (s15.length : Int))) then
      (f19 L N (Graph.mk s14) (listAt s15 [] s12.toNat) s13).bind fun y19 =>
      bif (s13 != (0 : Int)) then
        (f20 L N y19).bind fun y20 =>
        bif y20 then
          (f21 L N s15 y19).bind fun y21 =>
          f6.j0' L N k1_e2 rec1 s12 s13 y19 (y21 == (s15.length : Int)) s14 s15
        else f6.j0' L N k1_e2 rec1 s12 s13 y19 false s14 s15
      else f6.j0' L N k1_e2 rec1 s12 s13 y19 false s14 s15
    else none
  else k1_e2 s12 s14 s15
def f6.s1 {R : Type} (L N : Nat) (k1_e2 : Int → LLM → LLB → Option R) (rec1 : Int → Int → LLM → LLB → Option R) (s12 : Int) (s13 : Int) (s14 : LLM) (s15 : LLB) : Option R :=
  f6.s1' L N k1_e2 rec1 s12 s13 s14 s15
def f6.l1 {R : Type} (L N : Nat) (k1_e2 : Int → LLM → LLB → Option R) : Nat → Int → Int → LLM → LLB → Option R
  | 0, _, _, _, _ => none
  | n + 1, s12, s13, s14, s15 => f6.s1 L N k1_e2 (f6.l1 L N k1_e2 n) s12 s13 s14 s15
def f6.T1 (s12 : Int) (s13 : Int) (s14 : LLM) (s15 : LLB) : T := mkT 64 [(1, (.ptr 1001 0)), (4, (.row 1018)), (5, (.tv i64 s12)), (6, (.tv i64 s13))]
def f6.H1 (s12 : Int) (s13 : Int) (s14 : LLM) (s15 : LLB) : H := [(1001, (.box [(.tv (.sl (.sl (.st 0))) s14)])), (1018, (.row 39 (.sl .bool) s15))]
def f6.T1_e2 (z16 : Int) (z17 : LLM) (z18 : LLB) : T := mkT 64 [(1, (.ptr 1001 0)), (4, (.row 1018)), (5, (.tv i64 z16))]
def f6.H1_e2 (z16 : Int) (z17 : LLM) (z18 : LLB) : H := [(1001, (.box [(.tv (.sl (.sl (.st 0))) z17)])), (1018, (.row 39 (.sl .bool) z18))]
def f6.p1_e2' {R : Type} (L N : Nat) (k0_e0 : Option R) (k0_r : Bool → Bool → Option R) (rec0 : Int → LLM → LLB → Option R) (z16 : Int) (z17 : LLM) (z18 : LLB) : Option R :=
  rec0 (wi (z16 + (1 : Int))) z17 z18
def f6.p1_e2 {R : Type} (L N : Nat) (k0_e0 : Option R) (k0_r : Bool → Bool → Option R) (rec0 : Int → LLM → LLB → Option R) (z16 : Int) (z17 : LLM) (z18 : LLB) : Option R :=
  f6.p1_e2' L N k0_e0 k0_r rec0 z16 z17 z18
def f6.s0' {R : Type} (L N : Nat) (k0_e0 : Option R) (k0_r : Bool → Bool → Option R) (rec0 : Int → LLM → LLB → Option R) (w1 : Int → Int → LLM → LLB → Option R) (s6 : Int) (s7 : LLM) (s8 : LLB) : Option R :=
  bif (decide (s6 < (s8.length : Int))) then
    bif (decide ((s8.length : Int) > (400 : Int))) then
      k0_r false false
    else bif (decide (0 ≤ s6) && decide (s6 < (s8.length : Int))) then
      (f18 L N (Graph.mk s7) (listAt s8 [] s6.toNat)).bind fun y11 =>
      bif (!y11) then
        k0_r false true
      else w1 s6 (-4 : Int) s7 s8
    else none
  else k0_e0
def f6.s0 {R : Type} (L N : Nat) (k0_e0 : Option R) (k0_r : Bool → Bool → Option R) (rec0 : Int → LLM → LLB → Option R) (s6 : Int) (s7 : LLM) (s8 : LLB) : Option R :=
  f6.s0' L N k0_e0 k0_r rec0 (fun s12 s13 s14 s15 => f6.l1 L N (fun z16 z17 z18 => f6.p1_e2 L N k0_e0 k0_r rec0 z16 z17 z18) L s12 s13 s14 s15) s6 s7 s8
def f6.l0 {R : Type} (L N : Nat) (k0_e0 : Option R) (k0_r : Bool → Bool → Option R) : Nat → Int → LLM → LLB → Option R
  | 0, _, _, _ => none
  | n + 1, s6, s7, s8 => f6.s0 L N k0_e0 k0_r (f6.l0 L N k0_e0 k0_r n) s6 s7 s8
def f6.T0 (s6 : Int) (s7 : LLM) (s8 : LLB) : T := mkT 64 [(1, (.ptr 1001 0)), (4, (.row 1018)), (5, (.tv i64 s6))]
def f6.H0 (s6 : Int) (s7 : LLM) (s8 : LLB) : H := [(1001, (.box [(.tv (.sl (.sl (.st 0))) s7)])), (1018, (.row 39 (.sl .bool) s8))]
def f6.T0_e0 : T := mkT 64 []
def f6.H0_e0 : H := []
def f6.T0_r (z9 : Bool) (z10 : Bool) : T := mkT 64 [(2, (.tv .bool z9)), (3, (.tv .bool z10))]
def f6.H0_r (z9 : Bool) (z10 : Bool) : H := []
def f6.p0_e0' {R : Type} (L N : Nat) (k : Bool → Bool → Option R) : Option R :=
  k true true
def f6.p0_e0 {R : Type} (L N : Nat) (k : Bool → Bool → Option R) : Option R :=
  f6.p0_e0' L N k
def f6.p0_r' {R : Type} (L N : Nat) (k : Bool → Bool → Option R) (z9 : Bool) (z10 : Bool) : Option R :=
  k z9 z10
def f6.p0_r {R : Type} (L N : Nat) (k : Bool → Bool → Option R) (z9 : Bool) (z10 : Bool) : Option R :=
  f6.p0_r' L N k z9 z10
def f6.j1' {R : Type} (L N : Nat) (k : Bool → Bool → Option R) (w0 : Int → LLM → LLB → Option R) (v4 : LLM) : Option R :=
  (f17 L N (Graph.mk v4)).bind fun y5 =>
  w0 (0 : Int) v4 ([y5] : LLB)
def f6.b' {R : Type} (L N : Nat) (k : Bool → Bool → Option R) (w0 : Int → LLM → LLB → Option R) (x0 : Graph) : Option R :=
  (f15 L N (Graph.mk x0.moves)).bind fun y0 =>
  bif (!y0) then
    k false false
  else (f16 L N (Graph.mk x0.moves)).bind fun y1 =>
  bif (!y1) then
    k false false
  else f6.j1' L N k w0 x0.moves
def f6.b {R : Type} (L N : Nat) (k : Bool → Bool → Option R) (x0 : Graph) : Option R :=
  f6.b' L N k (fun s6 s7 s8 => f6.l0 L N (f6.p0_e0 L N k) (fun z9 z10 => f6.p0_r L N k z9 z10) L s6 s7 s8) x0
def f6 (L N : Nat) (x0 : Graph) : Option (Bool × Bool) := f6.b L N (fun a0 a1 => some (a0, a1)) x0
def f6.ent (L N : Nat) := entRo [(.st 2)] (.many [.bool, .bool]) fun d => f6 L N d.1
noncomputable def E6 (L N : Nat) : Env := { P := Tryd.prog, ty := tyOf, Φ := (Φ21 L N), inl := inlT, live := lives, liveX := livesX, L := L, dp := none, prom := promT, heal := healT, ren := renT }
noncomputable def f6.c0 : Code := loopAt 0 (codeOf Tryd.f6)
noncomputable def f6.c1 : Code := loopAt 2 f6.c0
def f6.X1_e2 {R : Type} (κ : KX R) := fun z16 z17 z18 => κ (.exit 2) (f6.T1_e2 z16 z17 z18) (f6.H1_e2 z16 z17 z18)
def f6.R1 {R : Type} (rec : KT R) := fun s12 s13 s14 s15 => rec (f6.T1 s12 s13 s14 s15) (f6.H1 s12 s13 s14 s15)
theorem f6.s1_eq {R : Type} (L N : Nat) (κ : KX R) (rec : KT R) (s12 : Int) (s13 : Int) (s14 : LLM) (s15 : LLB) :
    evRd (E6 L N) (evCallI (E6 L N) 1 2000) 1000 6 64 2 f6.c1 κ rec (f6.T1 s12 s13 s14 s15) (f6.H1 s12 s13 s14 s15)
    = f6.s1 L N (f6.X1_e2 κ) (f6.R1 rec) s12 s13 s14 s15 := by kernel_rfl
theorem f6.l1_eq {R : Type} (L N : Nat) (κ : KX R) : ∀ (n : Nat) (s12 : Int) (s13 : Int) (s14 : LLM) (s15 : LLB),
    evLp (E6 L N) (evCallI (E6 L N) 1 2000) 1000 6 64 2 f6.c1 κ n (f6.T1 s12 s13 s14 s15) (f6.H1 s12 s13 s14 s15)
    = f6.l1 L N (f6.X1_e2 κ) n s12 s13 s14 s15 := by
  intro n
  induction n with
  | zero => intros; rfl
  | succ n ih =>
    intro s12 s13 s14 s15
    rw [evLp_succ, f6.s1_eq]
    delta f6.R1
    simp only [ih]
    rfl
def f6.X0_e0 {R : Type} (κ : KX R) := κ (.exit 0) f6.T0_e0 f6.H0_e0
def f6.X0_r {R : Type} (κ : KX R) := fun z9 z10 => κ .ret (f6.T0_r z9 z10) (f6.H0_r z9 z10)
def f6.R0 {R : Type} (rec : KT R) := fun s6 s7 s8 => rec (f6.T0 s6 s7 s8) (f6.H0 s6 s7 s8)
theorem f6.p1_e2_eq {R : Type} (L N : Nat) (κ : KX R) (rec : KT R) (z16 : Int) (z17 : LLM) (z18 : LLB) :
    (contAt (E6 L N) (evCallI (E6 L N) 1 2000) 1000 6 64 2 f6.c0 (rdK (E6 L N) 1000 6 64 0 κ rec)) (.exit 2) (f6.T1_e2 z16 z17 z18) (f6.H1_e2 z16 z17 z18)
    = f6.p1_e2 L N (f6.X0_e0 κ) (f6.X0_r κ) (f6.R0 rec) z16 z17 z18 := by kernel_rfl
theorem f6.s0_eq {R : Type} (L N : Nat) (κ : KX R) (rec : KT R) (s6 : Int) (s7 : LLM) (s8 : LLB) :
    evRd (E6 L N) (evCallI (E6 L N) 1 2000) 1000 6 64 0 f6.c0 κ rec (f6.T0 s6 s7 s8) (f6.H0 s6 s7 s8)
    = f6.s0 L N (f6.X0_e0 κ) (f6.X0_r κ) (f6.R0 rec) s6 s7 s8 := by
  refine Eq.trans (b := f6.s0' L N (f6.X0_e0 κ) (f6.X0_r κ) (f6.R0 rec) (fun s12 s13 s14 s15 => evLp (E6 L N) (evCallI (E6 L N) 1 2000) 1000 6 64 2 f6.c1 (contAt (E6 L N) (evCallI (E6 L N) 1 2000) 1000 6 64 2 f6.c0 (rdK (E6 L N) 1000 6 64 0 κ rec)) L (f6.T1 s12 s13 s14 s15) (f6.H1 s12 s13 s14 s15)) s6 s7 s8) (by kernel_rfl) ?_
  unfold f6.s0
  simp only [f6.l1_eq]
  delta f6.X1_e2
  simp only [f6.p1_e2_eq]
theorem f6.l0_eq {R : Type} (L N : Nat) (κ : KX R) : ∀ (n : Nat) (s6 : Int) (s7 : LLM) (s8 : LLB),
    evLp (E6 L N) (evCallI (E6 L N) 1 2000) 1000 6 64 0 f6.c0 κ n (f6.T0 s6 s7 s8) (f6.H0 s6 s7 s8)
    = f6.l0 L N (f6.X0_e0 κ) (f6.X0_r κ) n s6 s7 s8 := by
  intro n
  induction n with
  | zero => intros; rfl
  | succ n ih =>
    intro s6 s7 s8
    rw [evLp_succ, f6.s0_eq]
    delta f6.R0
    simp only [ih]
    rfl
theorem f6.p0_e0_eq {R : Type} (L N : Nat) (κ : AV → Option R) :
    (contAt (E6 L N) (evCallI (E6 L N) 1 2000) 1000 6 64 0 (codeOf Tryd.f6) (finK (E6 L N) 1000 Tryd.f6 (finC (.many [.bool, .bool]) κ))) (.exit 0) f6.T0_e0 f6.H0_e0
    = f6.p0_e0 L N (fun a0 a1 => κ (.tup [(.tv .bool a0), (.tv .bool a1)])) := by kernel_rfl
theorem f6.p0_r_eq {R : Type} (L N : Nat) (κ : AV → Option R) (z9 : Bool) (z10 : Bool) :
    (contAt (E6 L N) (evCallI (E6 L N) 1 2000) 1000 6 64 0 (codeOf Tryd.f6) (finK (E6 L N) 1000 Tryd.f6 (finC (.many [.bool, .bool]) κ))) .ret (f6.T0_r z9 z10) (f6.H0_r z9 z10)
    = f6.p0_r L N (fun a0 a1 => κ (.tup [(.tv .bool a0), (.tv .bool a1)])) z9 z10 := by kernel_rfl
theorem f6.b_eq {R : Type} (L N : Nat) (κ : AV → Option R) (x0 : Graph) :
    evBody (E6 L N) (evCallI (E6 L N) 1 2000) 1000 6 Tryd.f6 [(.tv (.st 2) x0)] [] [] (finC (.many [.bool, .bool]) κ)
    = f6.b L N (fun a0 a1 => κ (.tup [(.tv .bool a0), (.tv .bool a1)])) x0 := by
  refine Eq.trans (b := f6.b' L N (fun a0 a1 => κ (.tup [(.tv .bool a0), (.tv .bool a1)])) (fun s6 s7 s8 => evLp (E6 L N) (evCallI (E6 L N) 1 2000) 1000 6 64 0 f6.c0 (contAt (E6 L N) (evCallI (E6 L N) 1 2000) 1000 6 64 0 (codeOf Tryd.f6) (finK (E6 L N) 1000 Tryd.f6 (finC (.many [.bool, .bool]) κ))) L (f6.T0 s6 s7 s8) (f6.H0 s6 s7 s8)) x0) (by kernel_rfl) ?_
  unfold f6.b
  simp only [f6.l0_eq]
  delta f6.X0_e0 f6.X0_r
  simp only [f6.p0_e0_eq, f6.p0_r_eq]
theorem f6.ok (L N : Nat) (hΦ : TellsOk Tryd.prog ((Φ21 L N))) : EntOk Tryd.prog 6 (f6.ent L N) := entRo_ok (E := (E6 L N)) (dep := 1000) (f := Tryd.f6) (sound_of hΦ) okP (callI_sound (sound_of hΦ) okP 1 2000) rfl rfl fun d _ hy => (f6.b_eq L N (unR (.many [.bool, .bool])) d.1).trans (Eq.trans (b := f6.b L N (fun a0 a1 => some (a0, a1)) d.1) (by kernel_rfl) hy)
def Φ6 (L N : Nat) : Tells := (addT (Φ21 L N) 6 (f6.ent L N))
theorem Φ6_ok (L N : Nat) : TellsOk Tryd.prog (Φ6 L N) := addT_ok (Φ21_ok L N) (f6.ok L N (Φ21_ok L N))
def f69.b' {R : Type} (L N : Nat) (k : Move → Option R) (x0 : Move) : Option R :=
  k (Move.mk ((Move.mk x0.act x0.to).act) ((Move.mk x0.act x0.to).to))
def f69.b {R : Type} (L N : Nat) (k : Move → Option R) (x0 : Move) : Option R :=
  f69.b' L N k x0
def f69 (L N : Nat) (x0 : Move) : Option (Move) := f69.b L N some x0
def f69.ent (L N : Nat) := entDa [(.st 0)] (.one (.st 0)) fun d => f69 L N d.1
noncomputable def E69 (L N : Nat) : Env := { P := Tryd.prog, ty := tyOf, Φ := (Φ6 L N), inl := inlT, live := lives, liveX := livesX, L := L, dp := none, prom := promT, heal := healT, ren := renT }
theorem f69.b_eq {R : Type} (L N : Nat) (κ : AV → Option R) (x0 : Move) :
    evBody (E69 L N) (evCallI (E69 L N) 1 2000) 1000 69 Tryd.f69 [(.tv (.st 0) x0)] [] [] (finC (.one (.st 0)) κ)
    = f69.b L N (fun a0 => κ (.tv (.st 0) a0)) x0 := by kernel_rfl
theorem f69.ok (L N : Nat) (hΦ : TellsOk Tryd.prog ((Φ6 L N))) : EntOk Tryd.prog 69 (f69.ent L N) := entDa_ok (E := (E69 L N)) (dep := 1000) (f := Tryd.f69) (sound_of hΦ) okP (callI_sound (sound_of hΦ) okP 1 2000) rfl fun d _ hy => (f69.b_eq L N (unR (.one (.st 0))) d.1).trans (Eq.trans (b := f69.b L N some d.1) (by kernel_rfl) hy)
def Φ69 (L N : Nat) : Tells := (addT (Φ6 L N) 69 (f69.ent L N))
theorem Φ69_ok (L N : Nat) : TellsOk Tryd.prog (Φ69 L N) := addT_ok (Φ6_ok L N) (f69.ok L N (Φ6_ok L N))
def f50.s0' {R : Type} (L N : Nat) (k0_e0 : LM → Option R) (rec0 : LM → Int → LM → Option R) (s0 : LM) (s1 : Int) (s2 : LM) : Option R :=
  bif (decide (s1 < (s0.length : Int))) then
    bif (decide (0 ≤ s1) && decide (s1 < (s0.length : Int))) then
      (f69 L N (listAt s0 (Ty.dflt (.st 0)) s1.toNat)).bind fun y4 =>
      bif (decide (0 ≤ s1) && decide (s1 < (s2.length : Int))) then
        rec0 s0 (wi (s1 + (1 : Int))) (s2.set s1.toNat y4)
      else none
    else none
  else k0_e0 s2
def f50.s0 {R : Type} (L N : Nat) (k0_e0 : LM → Option R) (rec0 : LM → Int → LM → Option R) (s0 : LM) (s1 : Int) (s2 : LM) : Option R :=
  f50.s0' L N k0_e0 rec0 s0 s1 s2
def f50.l0 {R : Type} (L N : Nat) (k0_e0 : LM → Option R) : Nat → LM → Int → LM → Option R
  | 0, _, _, _ => none
  | n + 1, s0, s1, s2 => f50.s0 L N k0_e0 (f50.l0 L N k0_e0 n) s0 s1 s2
def f50.T0 (s0 : LM) (s1 : Int) (s2 : LM) : T := mkT 23 [(0, (.tv (.sl (.st 0)) s0)), (3, (.row 1007)), (4, (.tv i64 s1))]
def f50.H0 (s0 : LM) (s1 : Int) (s2 : LM) : H := [(1007, (.row 56 (.st 0) s2))]
def f50.T0_e0 (z3 : LM) : T := mkT 23 [(3, (.row 1007))]
def f50.H0_e0 (z3 : LM) : H := [(1007, (.row 56 (.st 0) z3))]
def f50.p0_e0' {R : Type} (L N : Nat) (k : LM → Option R) (z3 : LM) : Option R :=
  k z3
def f50.p0_e0 {R : Type} (L N : Nat) (k : LM → Option R) (z3 : LM) : Option R :=
  f50.p0_e0' L N k z3
def f50.b' {R : Type} (L N : Nat) (k : LM → Option R) (w0 : LM → Int → LM → Option R) (x0 : LM) : Option R :=
  bif (decide (0 ≤ (x0.length : Int)) && decide ((x0.length : Int) ≤ (lim : Int))) then
    w0 x0 (0 : Int) (List.replicate (x0.length : Int).toNat (Ty.dflt (.st 0)))
  else none
def f50.b {R : Type} (L N : Nat) (k : LM → Option R) (x0 : LM) : Option R :=
  f50.b' L N k (fun s0 s1 s2 => f50.l0 L N (fun z3 => f50.p0_e0 L N k z3) L s0 s1 s2) x0
def f50 (L N : Nat) (x0 : LM) : Option (LM) := f50.b L N some x0
def f50.ent (L N : Nat) (args : List AV) (vw : View) (site : Nat) : Ans := match roD [(.sl (.st 0))] vw args with
  | some d => ⟨LM, f50 L N d.1, fun y => (RN.av site .row (), [(site, some (mkO none 56 (.st 0) y))], [])⟩
  | none => Ans.no
noncomputable def E50 (L N : Nat) : Env := { P := Tryd.prog, ty := tyOf, Φ := (Φ69 L N), inl := inlT, live := lives, liveX := livesX, L := L, dp := none, prom := promT, heal := healT, ren := renT }
noncomputable def f50.c0 : Code := loopAt 0 (codeOf Tryd.f50)
def f50.X0_e0 {R : Type} (κ : KX R) := fun z3 => κ (.exit 0) (f50.T0_e0 z3) (f50.H0_e0 z3)
def f50.R0 {R : Type} (rec : KT R) := fun s0 s1 s2 => rec (f50.T0 s0 s1 s2) (f50.H0 s0 s1 s2)
theorem f50.s0_eq {R : Type} (L N : Nat) (κ : KX R) (rec : KT R) (s0 : LM) (s1 : Int) (s2 : LM) :
    evRd (E50 L N) (evCallI (E50 L N) 1 2000) 1000 50 23 0 f50.c0 κ rec (f50.T0 s0 s1 s2) (f50.H0 s0 s1 s2)
    = f50.s0 L N (f50.X0_e0 κ) (f50.R0 rec) s0 s1 s2 := by kernel_rfl
theorem f50.l0_eq {R : Type} (L N : Nat) (κ : KX R) : ∀ (n : Nat) (s0 : LM) (s1 : Int) (s2 : LM),
    evLp (E50 L N) (evCallI (E50 L N) 1 2000) 1000 50 23 0 f50.c0 κ n (f50.T0 s0 s1 s2) (f50.H0 s0 s1 s2)
    = f50.l0 L N (f50.X0_e0 κ) n s0 s1 s2 := by
  intro n
  induction n with
  | zero => intros; rfl
  | succ n ih =>
    intro s0 s1 s2
    rw [evLp_succ, f50.s0_eq]
    delta f50.R0
    simp only [ih]
    rfl
theorem f50.p0_e0_eq {R : Type} (L N : Nat) (κ : RN.Den .row → List Move → Option R) (z3 : LM) :
    (contAt (E50 L N) (evCallI (E50 L N) 1 2000) 1000 50 23 0 (codeOf Tryd.f50) (finK (E50 L N) 1000 Tryd.f50 (finN .row none 56 (.st 0) κ))) (.exit 0) (f50.T0_e0 z3) (f50.H0_e0 z3)
    = f50.p0_e0 L N (fun a0 => κ () a0) z3 := by kernel_rfl
theorem f50.b_eq {R : Type} (L N : Nat) (κ : RN.Den .row → List Move → Option R) (x0 : LM) :
    evBody (E50 L N) (evCallI (E50 L N) 1 2000) 1000 50 Tryd.f50 [(.tv (.sl (.st 0)) x0)] [] [] (finN .row none 56 (.st 0) κ)
    = f50.b L N (fun a0 => κ () a0) x0 := by
  refine Eq.trans (b := f50.b' L N (fun a0 => κ () a0) (fun s0 s1 s2 => evLp (E50 L N) (evCallI (E50 L N) 1 2000) 1000 50 23 0 f50.c0 (contAt (E50 L N) (evCallI (E50 L N) 1 2000) 1000 50 23 0 (codeOf Tryd.f50) (finK (E50 L N) 1000 Tryd.f50 (finN .row none 56 (.st 0) κ))) L (f50.T0 s0 s1 s2) (f50.H0 s0 s1 s2)) x0) (by kernel_rfl) ?_
  unfold f50.b
  simp only [f50.l0_eq]
  delta f50.X0_e0
  simp only [f50.p0_e0_eq]
theorem f50.ok (L N : Nat) (hΦ : TellsOk Tryd.prog ((Φ69 L N))) : EntOk Tryd.prog 50 (f50.ent L N) := by
  intro args vw site h
  unfold f50.ent
  split
  · rename_i d ha
    intro y hy hs
    refine call_ron (y := y) (dep := 1000) (E := (E50 L N)) (ts := [(.sl (.st 0))]) (rn := .row) (q := none) (el := 56) (ty := (.st 0)) (d1 := ()) (xs := y) (κ := (fun d xs => some xs)) (sound_of hΦ) okP (callI_sound (sound_of hΦ) okP 1 2000) (f := Tryd.f50) rfl hs ha ?_ (fun _ _ h => by obtain rfl := Option.some.inj h; exact ⟨rfl, rfl⟩) rfl site
    exact (f50.b_eq L N (fun d xs => some xs) d.1).trans (Eq.trans (b := f50.b L N some d.1) (by kernel_rfl) hy)
  · intro y hy
    cases hy
def Φ50 (L N : Nat) : Tells := (addT (Φ69 L N) 50 (f50.ent L N))
theorem Φ50_ok (L N : Nat) : TellsOk Tryd.prog (Φ50 L N) := addT_ok (Φ69_ok L N) (f50.ok L N (Φ69_ok L N))
def f22.s0' {R : Type} (L N : Nat) (k0_e0 : LLM → Option R) (rec0 : LLM → Int → LLM → Option R) (s0 : LLM) (s1 : Int) (s2 : LLM) : Option R :=
  bif (decide (s1 < (s0.length : Int))) then
    bif (decide (0 ≤ s1) && decide (s1 < (s0.length : Int))) then
      (f50 L N (listAt s0 [] s1.toNat)).bind fun y4 =>
      bif (decide (0 ≤ s1) && decide (s1 < (s2.length : Int))) then
        rec0 s0 (wi (s1 + (1 : Int))) (s2.set s1.toNat y4)
      else none
    else none
  else k0_e0 s2
def f22.s0 {R : Type} (L N : Nat) (k0_e0 : LLM → Option R) (rec0 : LLM → Int → LLM → Option R) (s0 : LLM) (s1 : Int) (s2 : LLM) : Option R :=
  f22.s0' L N k0_e0 rec0 s0 s1 s2
def f22.l0 {R : Type} (L N : Nat) (k0_e0 : LLM → Option R) : Nat → LLM → Int → LLM → Option R
  | 0, _, _, _ => none
  | n + 1, s0, s1, s2 => f22.s0 L N k0_e0 (f22.l0 L N k0_e0 n) s0 s1 s2
def f22.T0 (s0 : LLM) (s1 : Int) (s2 : LLM) : T := mkT 23 [(0, (.tv (.sl (.sl (.st 0))) s0)), (3, (.row 1007)), (4, (.tv i64 s1))]
def f22.H0 (s0 : LLM) (s1 : Int) (s2 : LLM) : H := [(1007, (.deep 0 (.sl (.st 0)) s2 none))]
def f22.T0_e0 (z3 : LLM) : T := mkT 23 [(3, (.row 1007))]
def f22.H0_e0 (z3 : LLM) : H := [(1007, (.deep 0 (.sl (.st 0)) z3 none))]
def f22.p0_e0' {R : Type} (L N : Nat) (k : LLM → Option R) (z3 : LLM) : Option R :=
  k z3
def f22.p0_e0 {R : Type} (L N : Nat) (k : LLM → Option R) (z3 : LLM) : Option R :=
  f22.p0_e0' L N k z3
def f22.b' {R : Type} (L N : Nat) (k : LLM → Option R) (w0 : LLM → Int → LLM → Option R) (x0 : LLM) : Option R :=
  bif (decide (0 ≤ (x0.length : Int)) && decide ((x0.length : Int) ≤ (lim : Int))) then
    w0 x0 (0 : Int) (List.replicate (x0.length : Int).toNat [])
  else none
def f22.b {R : Type} (L N : Nat) (k : LLM → Option R) (x0 : LLM) : Option R :=
  f22.b' L N k (fun s0 s1 s2 => f22.l0 L N (fun z3 => f22.p0_e0 L N k z3) L s0 s1 s2) x0
def f22 (L N : Nat) (x0 : LLM) : Option (LLM) := f22.b L N some x0
def f22.ent (L N : Nat) (args : List AV) (vw : View) (site : Nat) : Ans := match roD [(.sl (.sl (.st 0)))] vw args with
  | some d => ⟨LLM, f22 L N d.1, fun y => (RN.av site .row (), [(site, some (mkO (some 0) 54 (.sl (.st 0)) y))], [])⟩
  | none => Ans.no
noncomputable def E22 (L N : Nat) : Env := { P := Tryd.prog, ty := tyOf, Φ := (Φ50 L N), inl := inlT, live := lives, liveX := livesX, L := L, dp := (some 0), prom := promT, heal := healT, ren := renT }
noncomputable def f22.c0 : Code := loopAt 0 (codeOf Tryd.f22)
def f22.X0_e0 {R : Type} (κ : KX R) := fun z3 => κ (.exit 0) (f22.T0_e0 z3) (f22.H0_e0 z3)
def f22.R0 {R : Type} (rec : KT R) := fun s0 s1 s2 => rec (f22.T0 s0 s1 s2) (f22.H0 s0 s1 s2)
theorem f22.s0_eq {R : Type} (L N : Nat) (κ : KX R) (rec : KT R) (s0 : LLM) (s1 : Int) (s2 : LLM) :
    evRd (E22 L N) (evCallI (E22 L N) 1 2000) 1000 22 23 0 f22.c0 κ rec (f22.T0 s0 s1 s2) (f22.H0 s0 s1 s2)
    = f22.s0 L N (f22.X0_e0 κ) (f22.R0 rec) s0 s1 s2 := by kernel_rfl
theorem f22.l0_eq {R : Type} (L N : Nat) (κ : KX R) : ∀ (n : Nat) (s0 : LLM) (s1 : Int) (s2 : LLM),
    evLp (E22 L N) (evCallI (E22 L N) 1 2000) 1000 22 23 0 f22.c0 κ n (f22.T0 s0 s1 s2) (f22.H0 s0 s1 s2)
    = f22.l0 L N (f22.X0_e0 κ) n s0 s1 s2 := by
  intro n
  induction n with
  | zero => intros; rfl
  | succ n ih =>
    intro s0 s1 s2
    rw [evLp_succ, f22.s0_eq]
    delta f22.R0
    simp only [ih]
    rfl
theorem f22.p0_e0_eq {R : Type} (L N : Nat) (κ : RN.Den .row → List LM → Option R) (z3 : LLM) :
    (contAt (E22 L N) (evCallI (E22 L N) 1 2000) 1000 22 23 0 (codeOf Tryd.f22) (finK (E22 L N) 1000 Tryd.f22 (finN .row (some 0) 54 (.sl (.st 0)) κ))) (.exit 0) (f22.T0_e0 z3) (f22.H0_e0 z3)
    = f22.p0_e0 L N (fun a0 => κ () a0) z3 := by kernel_rfl
theorem f22.b_eq {R : Type} (L N : Nat) (κ : RN.Den .row → List LM → Option R) (x0 : LLM) :
    evBody (E22 L N) (evCallI (E22 L N) 1 2000) 1000 22 Tryd.f22 [(.tv (.sl (.sl (.st 0))) x0)] [] [] (finN .row (some 0) 54 (.sl (.st 0)) κ)
    = f22.b L N (fun a0 => κ () a0) x0 := by
  refine Eq.trans (b := f22.b' L N (fun a0 => κ () a0) (fun s0 s1 s2 => evLp (E22 L N) (evCallI (E22 L N) 1 2000) 1000 22 23 0 f22.c0 (contAt (E22 L N) (evCallI (E22 L N) 1 2000) 1000 22 23 0 (codeOf Tryd.f22) (finK (E22 L N) 1000 Tryd.f22 (finN .row (some 0) 54 (.sl (.st 0)) κ))) L (f22.T0 s0 s1 s2) (f22.H0 s0 s1 s2)) x0) (by kernel_rfl) ?_
  unfold f22.b
  simp only [f22.l0_eq]
  delta f22.X0_e0
  simp only [f22.p0_e0_eq]
theorem f22.ok (L N : Nat) (hΦ : TellsOk Tryd.prog ((Φ50 L N))) : EntOk Tryd.prog 22 (f22.ent L N) := by
  intro args vw site h
  unfold f22.ent
  split
  · rename_i d ha
    intro y hy hs
    refine call_ron (y := y) (dep := 1000) (E := (E22 L N)) (ts := [(.sl (.sl (.st 0)))]) (rn := .row) (q := (some 0)) (el := 54) (ty := (.sl (.st 0))) (d1 := ()) (xs := y) (κ := (fun d xs => some xs)) (sound_of hΦ) okP (callI_sound (sound_of hΦ) okP 1 2000) (f := Tryd.f22) rfl hs ha ?_ (fun _ _ h => by obtain rfl := Option.some.inj h; exact ⟨rfl, rfl⟩) rfl site
    exact (f22.b_eq L N (fun d xs => some xs) d.1).trans (Eq.trans (b := f22.b L N some d.1) (by kernel_rfl) hy)
  · intro y hy
    cases hy
def Φ22 (L N : Nat) : Tells := (addT (Φ50 L N) 22 (f22.ent L N))
theorem Φ22_ok (L N : Nat) : TellsOk Tryd.prog (Φ22 L N) := addT_ok (Φ50_ok L N) (f22.ok L N (Φ50_ok L N))
def f7.b' {R : Type} (L N : Nat) (k : LLM → Option R) (x0 : Graph) : Option R :=
  (f22 L N x0.moves).bind fun y0 =>
  k y0
def f7.b {R : Type} (L N : Nat) (k : LLM → Option R) (x0 : Graph) : Option R :=
  f7.b' L N k x0
def f7 (L N : Nat) (x0 : Graph) : Option (LLM) := f7.b L N some x0
def f7.ent (L N : Nat) (args : List AV) (vw : View) (site : Nat) : Ans := match roD [(.st 2)] vw args with
  | some d => ⟨LLM, f7 L N d.1, fun y => (RN.av site (.agg []) (()), [(site, some (mkO (some 0) 54 (.sl (.st 0)) y))], [])⟩
  | none => Ans.no
noncomputable def E7 (L N : Nat) : Env := { P := Tryd.prog, ty := tyOf, Φ := (Φ22 L N), inl := inlT, live := lives, liveX := livesX, L := L, dp := (some 0), prom := promT, heal := healT, ren := renT }
theorem f7.b_eq {R : Type} (L N : Nat) (κ : RN.Den (.agg []) → List LM → Option R) (x0 : Graph) :
    evBody (E7 L N) (evCallI (E7 L N) 1 2000) 1000 7 Tryd.f7 [(.tv (.st 2) x0)] [] [] (finN (.agg []) (some 0) 54 (.sl (.st 0)) κ)
    = f7.b L N (fun a0 => κ (()) a0) x0 := by kernel_rfl
theorem f7.ok (L N : Nat) (hΦ : TellsOk Tryd.prog ((Φ22 L N))) : EntOk Tryd.prog 7 (f7.ent L N) := by
  intro args vw site h
  unfold f7.ent
  split
  · rename_i d ha
    intro y hy hs
    refine call_ron (y := y) (dep := 1000) (E := (E7 L N)) (ts := [(.st 2)]) (rn := (.agg [])) (q := (some 0)) (el := 54) (ty := (.sl (.st 0))) (d1 := (())) (xs := y) (κ := (fun d xs => some xs)) (sound_of hΦ) okP (callI_sound (sound_of hΦ) okP 1 2000) (f := Tryd.f7) rfl hs ha ?_ (fun _ _ h => by obtain rfl := Option.some.inj h; exact ⟨rfl, rfl⟩) rfl site
    exact (f7.b_eq L N (fun d xs => some xs) d.1).trans (Eq.trans (b := f7.b L N some d.1) (by kernel_rfl) hy)
  · intro y hy
    cases hy
def Φ7 (L N : Nat) : Tells := (addT (Φ22 L N) 7 (f7.ent L N))
theorem Φ7_ok (L N : Nat) : TellsOk Tryd.prog (Φ7 L N) := addT_ok (Φ22_ok L N) (f7.ok L N (Φ22_ok L N))
def f51.b' {R : Type} (L N : Nat) (k : Bool → Option R) (x0 : Int) : Option R :=
  bif (decide (x0 ≥ (-4 : Int))) then
    k (decide (x0 ≤ (4 : Int)))
  else k false
def f51.b {R : Type} (L N : Nat) (k : Bool → Option R) (x0 : Int) : Option R :=
  f51.b' L N k x0
def f51 (L N : Nat) (x0 : Int) : Option (Bool) := f51.b L N some x0
def f51.ent (L N : Nat) := entRo [i64] (.one .bool) fun d => f51 L N d.1
noncomputable def E51 (L N : Nat) : Env := { P := Tryd.prog, ty := tyOf, Φ := (Φ7 L N), inl := inlT, live := lives, liveX := livesX, L := L, dp := none, prom := promT, heal := healT, ren := renT }
theorem f51.b_eq {R : Type} (L N : Nat) (κ : AV → Option R) (x0 : Int) :
    evBody (E51 L N) (evCallI (E51 L N) 1 2000) 1000 51 Tryd.f51 [(.tv i64 x0)] [] [] (finC (.one .bool) κ)
    = f51.b L N (fun a0 => κ (.tv .bool a0)) x0 := by kernel_rfl
theorem f51.ok (L N : Nat) (hΦ : TellsOk Tryd.prog ((Φ7 L N))) : EntOk Tryd.prog 51 (f51.ent L N) := entRo_ok (E := (E51 L N)) (dep := 1000) (f := Tryd.f51) (sound_of hΦ) okP (callI_sound (sound_of hΦ) okP 1 2000) rfl rfl fun d _ hy => (f51.b_eq L N (unR (.one .bool)) d.1).trans (Eq.trans (b := f51.b L N some d.1) (by kernel_rfl) hy)
def Φ51 (L N : Nat) : Tells := (addT (Φ7 L N) 51 (f51.ent L N))
theorem Φ51_ok (L N : Nat) : TellsOk Tryd.prog (Φ51 L N) := addT_ok (Φ7_ok L N) (f51.ok L N (Φ7_ok L N))
def f80.b' {R : Type} (L N : Nat) (k : Bool → Option R) (x0 : Int) : Option R :=
  k (x0 != x0)
def f80.b {R : Type} (L N : Nat) (k : Bool → Option R) (x0 : Int) : Option R :=
  f80.b' L N k x0
def f80 (L N : Nat) (x0 : Int) : Option (Bool) := f80.b L N some x0
def f80.ent (L N : Nat) := entRo [i64] (.one .bool) fun d => f80 L N d.1
noncomputable def E80 (L N : Nat) : Env := { P := Tryd.prog, ty := tyOf, Φ := (Φ51 L N), inl := inlT, live := lives, liveX := livesX, L := L, dp := none, prom := promT, heal := healT, ren := renT }
theorem f80.b_eq {R : Type} (L N : Nat) (κ : AV → Option R) (x0 : Int) :
    evBody (E80 L N) (evCallI (E80 L N) 1 2000) 1000 80 Tryd.f80 [(.tv i64 x0)] [] [] (finC (.one .bool) κ)
    = f80.b L N (fun a0 => κ (.tv .bool a0)) x0 := by kernel_rfl
theorem f80.ok (L N : Nat) (hΦ : TellsOk Tryd.prog ((Φ51 L N))) : EntOk Tryd.prog 80 (f80.ent L N) := entRo_ok (E := (E80 L N)) (dep := 1000) (f := Tryd.f80) (sound_of hΦ) okP (callI_sound (sound_of hΦ) okP 1 2000) rfl rfl fun d _ hy => (f80.b_eq L N (unR (.one .bool)) d.1).trans (Eq.trans (b := f80.b L N some d.1) (by kernel_rfl) hy)
def Φ80 (L N : Nat) : Tells := (addT (Φ51 L N) 80 (f80.ent L N))
theorem Φ80_ok (L N : Nat) : TellsOk Tryd.prog (Φ80 L N) := addT_ok (Φ51_ok L N) (f80.ok L N (Φ51_ok L N))
def f70.b' {R : Type} (L N : Nat) (k : Int → Option R) (x0 : Int) (x1 : Int) : Option R :=
  (f80 L N x0).bind fun y0 =>
  (f80 L N x1).bind fun y1 =>
  bif y0 then
    bif y1 then
      k (0 : Int)
    else k (-1 : Int)
  else bif y1 then
    k (1 : Int)
  else bif (decide (x0 < x1)) then
    k (-1 : Int)
  else bif (decide (x0 > x1)) then
    k (1 : Int)
  else k (0 : Int)
def f70.b {R : Type} (L N : Nat) (k : Int → Option R) (x0 : Int) (x1 : Int) : Option R :=
  f70.b' L N k x0 x1
def f70 (L N : Nat) (x0 : Int) (x1 : Int) : Option (Int) := f70.b L N some x0 x1
def f70.ent (L N : Nat) := entRo [i64, i64] (.one i64) fun d => f70 L N d.1 d.2.1
noncomputable def E70 (L N : Nat) : Env := { P := Tryd.prog, ty := tyOf, Φ := (Φ80 L N), inl := inlT, live := lives, liveX := livesX, L := L, dp := none, prom := promT, heal := healT, ren := renT }
theorem f70.b_eq {R : Type} (L N : Nat) (κ : AV → Option R) (x0 : Int) (x1 : Int) :
    evBody (E70 L N) (evCallI (E70 L N) 1 2000) 1000 70 Tryd.f70 [(.tv i64 x0), (.tv i64 x1)] [] [] (finC (.one i64) κ)
    = f70.b L N (fun a0 => κ (.tv i64 a0)) x0 x1 := by kernel_rfl
theorem f70.ok (L N : Nat) (hΦ : TellsOk Tryd.prog ((Φ80 L N))) : EntOk Tryd.prog 70 (f70.ent L N) := entRo_ok (E := (E70 L N)) (dep := 1000) (f := Tryd.f70) (sound_of hΦ) okP (callI_sound (sound_of hΦ) okP 1 2000) rfl rfl fun d _ hy => (f70.b_eq L N (unR (.one i64)) d.1 d.2.1).trans (Eq.trans (b := f70.b L N some d.1 d.2.1) (by kernel_rfl) hy)
def Φ70 (L N : Nat) : Tells := (addT (Φ80 L N) 70 (f70.ent L N))
theorem Φ70_ok (L N : Nat) : TellsOk Tryd.prog (Φ70 L N) := addT_ok (Φ80_ok L N) (f70.ok L N (Φ80_ok L N))
def f52.b' {R : Type} (L N : Nat) (k : Int → Option R) (x0 : Move) (x1 : Move) : Option R :=
  (f70 L N x0.act x1.act).bind fun y0 =>
  bif (y0 != (0 : Int)) then
    k y0
  else (f70 L N x0.to x1.to).bind fun y1 =>
  k y1
def f52.b {R : Type} (L N : Nat) (k : Int → Option R) (x0 : Move) (x1 : Move) : Option R :=
  f52.b' L N k x0 x1
def f52 (L N : Nat) (x0 : Move) (x1 : Move) : Option (Int) := f52.b L N some x0 x1
def f52.ent (L N : Nat) := entRo [(.st 0), (.st 0)] (.one i64) fun d => f52 L N d.1 d.2.1
noncomputable def E52 (L N : Nat) : Env := { P := Tryd.prog, ty := tyOf, Φ := (Φ70 L N), inl := inlT, live := lives, liveX := livesX, L := L, dp := none, prom := promT, heal := healT, ren := renT }
theorem f52.b_eq {R : Type} (L N : Nat) (κ : AV → Option R) (x0 : Move) (x1 : Move) :
    evBody (E52 L N) (evCallI (E52 L N) 1 2000) 1000 52 Tryd.f52 [(.tv (.st 0) x0), (.tv (.st 0) x1)] [] [] (finC (.one i64) κ)
    = f52.b L N (fun a0 => κ (.tv i64 a0)) x0 x1 := by kernel_rfl
theorem f52.ok (L N : Nat) (hΦ : TellsOk Tryd.prog ((Φ70 L N))) : EntOk Tryd.prog 52 (f52.ent L N) := entRo_ok (E := (E52 L N)) (dep := 1000) (f := Tryd.f52) (sound_of hΦ) okP (callI_sound (sound_of hΦ) okP 1 2000) rfl rfl fun d _ hy => (f52.b_eq L N (unR (.one i64)) d.1 d.2.1).trans (Eq.trans (b := f52.b L N some d.1 d.2.1) (by kernel_rfl) hy)
def Φ52 (L N : Nat) : Tells := (addT (Φ70 L N) 52 (f52.ent L N))
theorem Φ52_ok (L N : Nat) : TellsOk Tryd.prog (Φ52 L N) := addT_ok (Φ70_ok L N) (f52.ok L N (Φ70_ok L N))
def f23.s1' {R : Type} (L N : Nat) (k1_e2 : LLM → Int → Int → LLM → Option R) (k1_r : Bool → LLM → Int → Int → LLM → Option R) (rec1 : LM → LLM → Int → Int → LM → Int → Int → LLM → Option R) (s7 : LM) (s8 : LLM) (s9 : Int) (s10 : Int) (s11 : LM) (s12 : Int) (s13 : Int) (s14 : LLM) : Option R :=
  bif (decide (s13 < s12)) then
    bif (decide (0 ≤ s13) && decide (s13 < (s11.length : Int))) then
      (f51 L N ((listAt s11 (Ty.dflt (.st 0)) s13.toNat).act)).bind fun y19 =>
      bif (!y19) then
        k1_r false s8 s9 s10 s14
      else bif (decide ((listAt s11 (Ty.dflt (.st 0)) s13.toNat).to < (0 : Int))) then
        k1_r false s8 s9 s10 s14
      else bif (decide ((listAt s11 (Ty.dflt (.st 0)) s13.toNat).to ≥ (s14.length : Int))) then
        k1_r false s8 s9 s10 s14
      else bif (decide (s13 > (0 : Int))) then
        bif (decide (0 ≤ (wi (s13 - (1 : Int)))) && decide ((wi (s13 - (1 : Int))) < (s7.length : Int))) then
          (f52 L N (listAt s7 (Ty.dflt (.st 0)) (wi (s13 - (1 : Int))).toNat) (Move.mk ((listAt s11 (Ty.dflt (.st 0)) s13.toNat).act) ((listAt s11 (Ty.dflt (.st 0)) s13.toNat).to))).bind fun y20 =>
          bif (decide (y20 ≥ (0 : Int))) then
            k1_r false s8 s9 s10 s14
          else rec1 s7 s8 s9 s10 s11 s12 (wi (s13 + (1 : Int))) s14
        else none
      else rec1 s7 s8 s9 s10 s11 s12 (wi (s13 + (1 : Int))) s14
    else none
  else k1_e2 s8 s9 s10 s14
def f23.s1 {R : Type} (L N : Nat) (k1_e2 : LLM → Int → Int → LLM → Option R) (k1_r : Bool → LLM → Int → Int → LLM → Option R) (rec1 : LM → LLM → Int → Int → LM → Int → Int → LLM → Option R) (s7 : LM) (s8 : LLM) (s9 : Int) (s10 : Int) (s11 : LM) (s12 : Int) (s13 : Int) (s14 : LLM) : Option R :=
  f23.s1' L N k1_e2 k1_r rec1 s7 s8 s9 s10 s11 s12 s13 s14
def f23.l1 {R : Type} (L N : Nat) (k1_e2 : LLM → Int → Int → LLM → Option R) (k1_r : Bool → LLM → Int → Int → LLM → Option R) : Nat → LM → LLM → Int → Int → LM → Int → Int → LLM → Option R
  | 0, _, _, _, _, _, _, _, _ => none
  | n + 1, s7, s8, s9, s10, s11, s12, s13, s14 => f23.s1 L N k1_e2 k1_r (f23.l1 L N k1_e2 k1_r n) s7 s8 s9 s10 s11 s12 s13 s14
def f23.T1 (s7 : LM) (s8 : LLM) (s9 : Int) (s10 : Int) (s11 : LM) (s12 : Int) (s13 : Int) (s14 : LLM) : T := mkT 64 [(1, (.ptr 1001 0)), (4, (.tv (.sl (.st 0)) s7)), (18, (.tv (.sl (.sl (.st 0))) s8)), (19, (.tv i64 s9)), (20, (.tv i64 s10)), (24, (.tv (.sl (.st 0)) s11)), (25, (.tv i64 s12)), (26, (.tv i64 s13))]
def f23.H1 (s7 : LM) (s8 : LLM) (s9 : Int) (s10 : Int) (s11 : LM) (s12 : Int) (s13 : Int) (s14 : LLM) : H := [(1001, (.box [(.tv (.sl (.sl (.st 0))) s14)]))]
def f23.T1_e2 (z15 : LLM) (z16 : Int) (z17 : Int) (z18 : LLM) : T := mkT 64 [(1, (.ptr 1001 0)), (18, (.tv (.sl (.sl (.st 0))) z15)), (19, (.tv i64 z16)), (20, (.tv i64 z17))]
def f23.H1_e2 (z15 : LLM) (z16 : Int) (z17 : Int) (z18 : LLM) : H := [(1001, (.box [(.tv (.sl (.sl (.st 0))) z18)]))]
def f23.T1_r (z30 : Bool) (z31 : LLM) (z32 : Int) (z33 : Int) (z34 : LLM) : T := mkT 64 [(1, (.ptr 1001 0)), (2, (.tv .bool z30)), (18, (.tv (.sl (.sl (.st 0))) z31)), (19, (.tv i64 z32)), (20, (.tv i64 z33))]
def f23.H1_r (z30 : Bool) (z31 : LLM) (z32 : Int) (z33 : Int) (z34 : LLM) : H := [(1001, (.box [(.tv (.sl (.sl (.st 0))) z34)]))]
def f23.p1_e2' {R : Type} (L N : Nat) (k0_e0 : Option R) (k0_r : Bool → Option R) (rec0 : LLM → Int → Int → LLM → Option R) (z15 : LLM) (z16 : Int) (z17 : Int) (z18 : LLM) : Option R :=
  rec0 z15 z16 (wi (z17 + (1 : Int))) z18
def f23.p1_e2 {R : Type} (L N : Nat) (k0_e0 : Option R) (k0_r : Bool → Option R) (rec0 : LLM → Int → Int → LLM → Option R) (z15 : LLM) (z16 : Int) (z17 : Int) (z18 : LLM) : Option R :=
  f23.p1_e2' L N k0_e0 k0_r rec0 z15 z16 z17 z18
def f23.p1_r' {R : Type} (L N : Nat) (k0_e0 : Option R) (k0_r : Bool → Option R) (rec0 : LLM → Int → Int → LLM → Option R) (z30 : Bool) (z31 : LLM) (z32 : Int) (z33 : Int) (z34 : LLM) : Option R :=
  k0_r z30
def f23.p1_r {R : Type} (L N : Nat) (k0_e0 : Option R) (k0_r : Bool → Option R) (rec0 : LLM → Int → Int → LLM → Option R) (z30 : Bool) (z31 : LLM) (z32 : Int) (z33 : Int) (z34 : LLM) : Option R :=
  f23.p1_r' L N k0_e0 k0_r rec0 z30 z31 z32 z33 z34
def f23.s0' {R : Type} (L N : Nat) (k0_e0 : Option R) (k0_r : Bool → Option R) (rec0 : LLM → Int → Int → LLM → Option R) (w1 : LM → LLM → Int → Int → LM → Int → Int → LLM → Option R) (s3 : LLM) (s4 : Int) (s5 : Int) (s6 : LLM) : Option R :=
  bif (decide (s5 < s4)) then
    bif (decide (0 ≤ s5) && decide (s5 < (s3.length : Int))) then
      w1 (listAt s3 [] s5.toNat) s3 s4 s5 (listAt s3 [] s5.toNat) ((listAt s3 [] s5.toNat).length : Int) (0 : Int) s6
    else none
  else k0_e0
def f23.s0 {R : Type} (L N : Nat) (k0_e0 : Option R) (k0_r : Bool → Option R) (rec0 : LLM → Int → Int → LLM → Option R) (s3 : LLM) (s4 : Int) (s5 : Int) (s6 : LLM) : Option R :=
  f23.s0' L N k0_e0 k0_r rec0 (fun s7 s8 s9 s10 s11 s12 s13 s14 => f23.l1 L N (fun z15 z16 z17 z18 => f23.p1_e2 L N k0_e0 k0_r rec0 z15 z16 z17 z18) (fun z30 z31 z32 z33 z34 => f23.p1_r L N k0_e0 k0_r rec0 z30 z31 z32 z33 z34) L s7 s8 s9 s10 s11 s12 s13 s14) s3 s4 s5 s6
def f23.l0 {R : Type} (L N : Nat) (k0_e0 : Option R) (k0_r : Bool → Option R) : Nat → LLM → Int → Int → LLM → Option R
  | 0, _, _, _, _ => none
  | n + 1, s3, s4, s5, s6 => f23.s0 L N k0_e0 k0_r (f23.l0 L N k0_e0 k0_r n) s3 s4 s5 s6
def f23.T0 (s3 : LLM) (s4 : Int) (s5 : Int) (s6 : LLM) : T := mkT 64 [(1, (.ptr 1001 0)), (18, (.tv (.sl (.sl (.st 0))) s3)), (19, (.tv i64 s4)), (20, (.tv i64 s5))]
def f23.H0 (s3 : LLM) (s4 : Int) (s5 : Int) (s6 : LLM) : H := [(1001, (.box [(.tv (.sl (.sl (.st 0))) s6)]))]
def f23.T0_e0 : T := mkT 64 []
def f23.H0_e0 : H := []
def f23.T0_r (z43 : Bool) : T := mkT 64 [(2, (.tv .bool z43))]
def f23.H0_r (z43 : Bool) : H := []
def f23.p0_e0' {R : Type} (L N : Nat) (k : Bool → Option R) : Option R :=
  k true
def f23.p0_e0 {R : Type} (L N : Nat) (k : Bool → Option R) : Option R :=
  f23.p0_e0' L N k
def f23.p0_r' {R : Type} (L N : Nat) (k : Bool → Option R) (z43 : Bool) : Option R :=
  k z43
def f23.p0_r {R : Type} (L N : Nat) (k : Bool → Option R) (z43 : Bool) : Option R :=
  f23.p0_r' L N k z43
def f23.j0' {R : Type} (L N : Nat) (k : Bool → Option R) (w0 : LLM → Int → Int → LLM → Option R) (v2 : LLM) : Option R :=
  w0 v2 (v2.length : Int) (0 : Int) v2
def f23.b' {R : Type} (L N : Nat) (k : Bool → Option R) (w0 : LLM → Int → Int → LLM → Option R) (x0 : Graph) : Option R :=
  bif (decide ((x0.moves.length : Int) < (1 : Int))) then
    k false
  else bif (decide ((x0.moves.length : Int) > (60 : Int))) then
    k false
  else f23.j0' L N k w0 x0.moves
def f23.b {R : Type} (L N : Nat) (k : Bool → Option R) (x0 : Graph) : Option R :=
  f23.b' L N k (fun s3 s4 s5 s6 => f23.l0 L N (f23.p0_e0 L N k) (fun z43 => f23.p0_r L N k z43) L s3 s4 s5 s6) x0
def f23 (L N : Nat) (x0 : Graph) : Option (Bool) := f23.b L N some x0
def f23.ent (L N : Nat) := entRo [(.st 2)] (.one .bool) fun d => f23 L N d.1
noncomputable def E23 (L N : Nat) : Env := { P := Tryd.prog, ty := tyOf, Φ := (Φ52 L N), inl := inlT, live := lives, liveX := livesX, L := L, dp := none, prom := promT, heal := healT, ren := renT }
noncomputable def f23.c0 : Code := loopAt 0 (codeOf Tryd.f23)
noncomputable def f23.c1 : Code := loopAt 2 f23.c0
def f23.X1_e2 {R : Type} (κ : KX R) := fun z15 z16 z17 z18 => κ (.exit 2) (f23.T1_e2 z15 z16 z17 z18) (f23.H1_e2 z15 z16 z17 z18)
def f23.X1_r {R : Type} (κ : KX R) := fun z30 z31 z32 z33 z34 => κ .ret (f23.T1_r z30 z31 z32 z33 z34) (f23.H1_r z30 z31 z32 z33 z34)
def f23.R1 {R : Type} (rec : KT R) := fun s7 s8 s9 s10 s11 s12 s13 s14 => rec (f23.T1 s7 s8 s9 s10 s11 s12 s13 s14) (f23.H1 s7 s8 s9 s10 s11 s12 s13 s14)
theorem f23.s1_eq {R : Type} (L N : Nat) (κ : KX R) (rec : KT R) (s7 : LM) (s8 : LLM) (s9 : Int) (s10 : Int) (s11 : LM) (s12 : Int) (s13 : Int) (s14 : LLM) :
    evRd (E23 L N) (evCallI (E23 L N) 1 2000) 1000 23 64 2 f23.c1 κ rec (f23.T1 s7 s8 s9 s10 s11 s12 s13 s14) (f23.H1 s7 s8 s9 s10 s11 s12 s13 s14)
    = f23.s1 L N (f23.X1_e2 κ) (f23.X1_r κ) (f23.R1 rec) s7 s8 s9 s10 s11 s12 s13 s14 := by kernel_rfl
theorem f23.l1_eq {R : Type} (L N : Nat) (κ : KX R) : ∀ (n : Nat) (s7 : LM) (s8 : LLM) (s9 : Int) (s10 : Int) (s11 : LM) (s12 : Int) (s13 : Int) (s14 : LLM),
    evLp (E23 L N) (evCallI (E23 L N) 1 2000) 1000 23 64 2 f23.c1 κ n (f23.T1 s7 s8 s9 s10 s11 s12 s13 s14) (f23.H1 s7 s8 s9 s10 s11 s12 s13 s14)
    = f23.l1 L N (f23.X1_e2 κ) (f23.X1_r κ) n s7 s8 s9 s10 s11 s12 s13 s14 := by
  intro n
  induction n with
  | zero => intros; rfl
  | succ n ih =>
    intro s7 s8 s9 s10 s11 s12 s13 s14
    rw [evLp_succ, f23.s1_eq]
    delta f23.R1
    simp only [ih]
    rfl
def f23.X0_e0 {R : Type} (κ : KX R) := κ (.exit 0) f23.T0_e0 f23.H0_e0
def f23.X0_r {R : Type} (κ : KX R) := fun z43 => κ .ret (f23.T0_r z43) (f23.H0_r z43)
def f23.R0 {R : Type} (rec : KT R) := fun s3 s4 s5 s6 => rec (f23.T0 s3 s4 s5 s6) (f23.H0 s3 s4 s5 s6)
theorem f23.p1_e2_eq {R : Type} (L N : Nat) (κ : KX R) (rec : KT R) (z15 : LLM) (z16 : Int) (z17 : Int) (z18 : LLM) :
    (contAt (E23 L N) (evCallI (E23 L N) 1 2000) 1000 23 64 2 f23.c0 (rdK (E23 L N) 1000 23 64 0 κ rec)) (.exit 2) (f23.T1_e2 z15 z16 z17 z18) (f23.H1_e2 z15 z16 z17 z18)
    = f23.p1_e2 L N (f23.X0_e0 κ) (f23.X0_r κ) (f23.R0 rec) z15 z16 z17 z18 := by kernel_rfl
theorem f23.p1_r_eq {R : Type} (L N : Nat) (κ : KX R) (rec : KT R) (z30 : Bool) (z31 : LLM) (z32 : Int) (z33 : Int) (z34 : LLM) :
    (contAt (E23 L N) (evCallI (E23 L N) 1 2000) 1000 23 64 2 f23.c0 (rdK (E23 L N) 1000 23 64 0 κ rec)) .ret (f23.T1_r z30 z31 z32 z33 z34) (f23.H1_r z30 z31 z32 z33 z34)
    = f23.p1_r L N (f23.X0_e0 κ) (f23.X0_r κ) (f23.R0 rec) z30 z31 z32 z33 z34 := by kernel_rfl
theorem f23.s0_eq {R : Type} (L N : Nat) (κ : KX R) (rec : KT R) (s3 : LLM) (s4 : Int) (s5 : Int) (s6 : LLM) :
    evRd (E23 L N) (evCallI (E23 L N) 1 2000) 1000 23 64 0 f23.c0 κ rec (f23.T0 s3 s4 s5 s6) (f23.H0 s3 s4 s5 s6)
    = f23.s0 L N (f23.X0_e0 κ) (f23.X0_r κ) (f23.R0 rec) s3 s4 s5 s6 := by
  refine Eq.trans (b := f23.s0' L N (f23.X0_e0 κ) (f23.X0_r κ) (f23.R0 rec) (fun s7 s8 s9 s10 s11 s12 s13 s14 => evLp (E23 L N) (evCallI (E23 L N) 1 2000) 1000 23 64 2 f23.c1 (contAt (E23 L N) (evCallI (E23 L N) 1 2000) 1000 23 64 2 f23.c0 (rdK (E23 L N) 1000 23 64 0 κ rec)) L (f23.T1 s7 s8 s9 s10 s11 s12 s13 s14) (f23.H1 s7 s8 s9 s10 s11 s12 s13 s14)) s3 s4 s5 s6) (by kernel_rfl) ?_
  unfold f23.s0
  simp only [f23.l1_eq]
  delta f23.X1_e2 f23.X1_r
  simp only [f23.p1_e2_eq, f23.p1_r_eq]
theorem f23.l0_eq {R : Type} (L N : Nat) (κ : KX R) : ∀ (n : Nat) (s3 : LLM) (s4 : Int) (s5 : Int) (s6 : LLM),
    evLp (E23 L N) (evCallI (E23 L N) 1 2000) 1000 23 64 0 f23.c0 κ n (f23.T0 s3 s4 s5 s6) (f23.H0 s3 s4 s5 s6)
    = f23.l0 L N (f23.X0_e0 κ) (f23.X0_r κ) n s3 s4 s5 s6 := by
  intro n
  induction n with
  | zero => intros; rfl
  | succ n ih =>
    intro s3 s4 s5 s6
    rw [evLp_succ, f23.s0_eq]
    delta f23.R0
    simp only [ih]
    rfl
theorem f23.p0_e0_eq {R : Type} (L N : Nat) (κ : AV → Option R) :
    (contAt (E23 L N) (evCallI (E23 L N) 1 2000) 1000 23 64 0 (codeOf Tryd.f23) (finK (E23 L N) 1000 Tryd.f23 (finC (.one .bool) κ))) (.exit 0) f23.T0_e0 f23.H0_e0
    = f23.p0_e0 L N (fun a0 => κ (.tv .bool a0)) := by kernel_rfl
theorem f23.p0_r_eq {R : Type} (L N : Nat) (κ : AV → Option R) (z43 : Bool) :
    (contAt (E23 L N) (evCallI (E23 L N) 1 2000) 1000 23 64 0 (codeOf Tryd.f23) (finK (E23 L N) 1000 Tryd.f23 (finC (.one .bool) κ))) .ret (f23.T0_r z43) (f23.H0_r z43)
    = f23.p0_r L N (fun a0 => κ (.tv .bool a0)) z43 := by kernel_rfl
theorem f23.b_eq {R : Type} (L N : Nat) (κ : AV → Option R) (x0 : Graph) :
    evBody (E23 L N) (evCallI (E23 L N) 1 2000) 1000 23 Tryd.f23 [(.tv (.st 2) x0)] [] [] (finC (.one .bool) κ)
    = f23.b L N (fun a0 => κ (.tv .bool a0)) x0 := by
  refine Eq.trans (b := f23.b' L N (fun a0 => κ (.tv .bool a0)) (fun s3 s4 s5 s6 => evLp (E23 L N) (evCallI (E23 L N) 1 2000) 1000 23 64 0 f23.c0 (contAt (E23 L N) (evCallI (E23 L N) 1 2000) 1000 23 64 0 (codeOf Tryd.f23) (finK (E23 L N) 1000 Tryd.f23 (finC (.one .bool) κ))) L (f23.T0 s3 s4 s5 s6) (f23.H0 s3 s4 s5 s6)) x0) (by kernel_rfl) ?_
  unfold f23.b
  simp only [f23.l0_eq]
  delta f23.X0_e0 f23.X0_r
  simp only [f23.p0_e0_eq, f23.p0_r_eq]
theorem f23.ok (L N : Nat) (hΦ : TellsOk Tryd.prog ((Φ52 L N))) : EntOk Tryd.prog 23 (f23.ent L N) := entRo_ok (E := (E23 L N)) (dep := 1000) (f := Tryd.f23) (sound_of hΦ) okP (callI_sound (sound_of hΦ) okP 1 2000) rfl rfl fun d _ hy => (f23.b_eq L N (unR (.one .bool)) d.1).trans (Eq.trans (b := f23.b L N some d.1) (by kernel_rfl) hy)
def Φ23 (L N : Nat) : Tells := (addT (Φ52 L N) 23 (f23.ent L N))
theorem Φ23_ok (L N : Nat) : TellsOk Tryd.prog (Φ23 L N) := addT_ok (Φ52_ok L N) (f23.ok L N (Φ52_ok L N))
def f71_1.b' {R : Type} (L N : Nat) (k : Bool → Option R) (x0 : Move) (x1 : LB) : Option R :=
  bif (x0.act == (0 : Int)) then
    bif (decide (0 ≤ x0.to) && decide (x0.to < (x1.length : Int))) then
      k (listAt x1 false x0.to.toNat)
    else none
  else k false
def f71_1.b {R : Type} (L N : Nat) (k : Bool → Option R) (x0 : Move) (x1 : LB) : Option R :=
  f71_1.b' L N k x0 x1
def f71_1 (L N : Nat) (x0 : Move) (x1 : LB) : Option (Bool) := f71_1.b L N some x0 x1
def f71_1.ent (L N : Nat) := entRf [(.dat (.st 0)), (.imp (.sl .bool) 0)] (.one .bool) fun d => f71_1 L N d.1 d.2.1
noncomputable def E71_1 (L N : Nat) : Env := { P := Tryd.prog, ty := tyOf, Φ := (Φ23 L N), inl := inlT, live := lives, liveX := livesX, L := L, dp := none, prom := promT, heal := healT, ren := renT }
theorem f71_1.b_eq {R : Type} (L N : Nat) (κ : AV → Option R) (x0 : Move) (x1 : LB) :
    evBody (E71_1 L N) (evCallI (E71_1 L N) 1 2000) 1000 71 Tryd.f71 [(.tv (.st 0) x0), (.imp (.sl .bool) x1 0)] [] [] (finC (.one .bool) κ)
    = f71_1.b L N (fun a0 => κ (.tv .bool a0)) x0 x1 := by kernel_rfl
theorem f71_1.ok (L N : Nat) (hΦ : TellsOk Tryd.prog ((Φ23 L N))) : EntOkO Tryd.prog 71 (f71_1.ent L N) := entRf_ok (E := (E71_1 L N)) (dep := 1000) (f := Tryd.f71) (sound_of hΦ) okP (callI_sound (sound_of hΦ) okP 1 2000) rfl rfl fun d _ hy => (f71_1.b_eq L N (unR (.one .bool)) d.1 d.2.1).trans (Eq.trans (b := f71_1.b L N some d.1 d.2.1) (by kernel_rfl) hy)
def Φ71_1 (L N : Nat) : Tells := (addO (Φ23 L N) 71 (f71_1.ent L N))
theorem Φ71_1_ok (L N : Nat) : TellsOk Tryd.prog (Φ71_1 L N) := addO_ok (Φ23_ok L N) (f71_1.ok L N (Φ23_ok L N))
def f61_1.s0' {R : Type} (L N : Nat) (k0_e0 : Option R) (k0_r : Int → Option R) (rec0 : LM → LB → Int → Int → Option R) (s0 : LM) (s1 : LB) (s2 : Int) (s3 : Int) : Option R :=
  bif (decide (s3 < s2)) then
    bif (decide (0 ≤ s3) && decide (s3 < (s0.length : Int))) then
      (f71_1 L N (listAt s0 (Ty.dflt (.st 0)) s3.toNat) s1).bind fun y4 =>
      bif y4 then
        k0_r s3
      else rec0 s0 s1 s2 (wi (s3 + (1 : Int)))
    else none
  else k0_e0
def f61_1.s0 {R : Type} (L N : Nat) (k0_e0 : Option R) (k0_r : Int → Option R) (rec0 : LM → LB → Int → Int → Option R) (s0 : LM) (s1 : LB) (s2 : Int) (s3 : Int) : Option R :=
  f61_1.s0' L N k0_e0 k0_r rec0 s0 s1 s2 s3
def f61_1.l0 {R : Type} (L N : Nat) (k0_e0 : Option R) (k0_r : Int → Option R) : Nat → LM → LB → Int → Int → Option R
  | 0, _, _, _, _ => none
  | n + 1, s0, s1, s2, s3 => f61_1.s0 L N k0_e0 k0_r (f61_1.l0 L N k0_e0 k0_r n) s0 s1 s2 s3
def f61_1.T0 (s0 : LM) (s1 : LB) (s2 : Int) (s3 : Int) : T := mkT 19 [(0, (.tv (.sl (.st 0)) s0)), (1, (.fn 71 [(.imp (.sl .bool) s1 0)])), (7, (.tv i64 s2)), (8, (.tv i64 s3))]
def f61_1.H0 (s0 : LM) (s1 : LB) (s2 : Int) (s3 : Int) : H := []
def f61_1.T0_e0 : T := mkT 19 []
def f61_1.H0_e0 : H := []
def f61_1.T0_r (z5 : Int) : T := mkT 19 [(4, (.tv i64 z5))]
def f61_1.H0_r (z5 : Int) : H := []
def f61_1.p0_e0' {R : Type} (L N : Nat) (k : Int → Option R) : Option R :=
  k (-1 : Int)
def f61_1.p0_e0 {R : Type} (L N : Nat) (k : Int → Option R) : Option R :=
  f61_1.p0_e0' L N k
def f61_1.p0_r' {R : Type} (L N : Nat) (k : Int → Option R) (z5 : Int) : Option R :=
  k z5
def f61_1.p0_r {R : Type} (L N : Nat) (k : Int → Option R) (z5 : Int) : Option R :=
  f61_1.p0_r' L N k z5
def f61_1.b' {R : Type} (L N : Nat) (k : Int → Option R) (w0 : LM → LB → Int → Int → Option R) (x0 : LM) (x1 : LB) : Option R :=
  w0 x0 x1 (x0.length : Int) (0 : Int)
def f61_1.b {R : Type} (L N : Nat) (k : Int → Option R) (x0 : LM) (x1 : LB) : Option R :=
  f61_1.b' L N k (fun s0 s1 s2 s3 => f61_1.l0 L N (f61_1.p0_e0 L N k) (fun z5 => f61_1.p0_r L N k z5) L s0 s1 s2 s3) x0 x1
def f61_1 (L N : Nat) (x0 : LM) (x1 : LB) : Option (Int) := f61_1.b L N some x0 x1
def f61_1.ent (L N : Nat) := entRf [(.dat (.sl (.st 0))), (.fn 71 [(.imp (.sl .bool) 0)])] (.one i64) fun d => f61_1 L N d.1 d.2.1.1
noncomputable def E61_1 (L N : Nat) : Env := { P := Tryd.prog, ty := tyOf, Φ := (Φ71_1 L N), inl := inlT, live := lives, liveX := livesX, L := L, dp := none, prom := promT, heal := healT, ren := renT }
noncomputable def f61_1.c0 : Code := loopAt 0 (codeOf Tryd.f61)
def f61_1.X0_e0 {R : Type} (κ : KX R) := κ (.exit 0) f61_1.T0_e0 f61_1.H0_e0
def f61_1.X0_r {R : Type} (κ : KX R) := fun z5 => κ .ret (f61_1.T0_r z5) (f61_1.H0_r z5)
def f61_1.R0 {R : Type} (rec : KT R) := fun s0 s1 s2 s3 => rec (f61_1.T0 s0 s1 s2 s3) (f61_1.H0 s0 s1 s2 s3)
theorem f61_1.s0_eq {R : Type} (L N : Nat) (κ : KX R) (rec : KT R) (s0 : LM) (s1 : LB) (s2 : Int) (s3 : Int) :
    evRd (E61_1 L N) (evCallI (E61_1 L N) 1 2000) 1000 61 19 0 f61_1.c0 κ rec (f61_1.T0 s0 s1 s2 s3) (f61_1.H0 s0 s1 s2 s3)
    = f61_1.s0 L N (f61_1.X0_e0 κ) (f61_1.X0_r κ) (f61_1.R0 rec) s0 s1 s2 s3 := by kernel_rfl
theorem f61_1.l0_eq {R : Type} (L N : Nat) (κ : KX R) : ∀ (n : Nat) (s0 : LM) (s1 : LB) (s2 : Int) (s3 : Int),
    evLp (E61_1 L N) (evCallI (E61_1 L N) 1 2000) 1000 61 19 0 f61_1.c0 κ n (f61_1.T0 s0 s1 s2 s3) (f61_1.H0 s0 s1 s2 s3)
    = f61_1.l0 L N (f61_1.X0_e0 κ) (f61_1.X0_r κ) n s0 s1 s2 s3 := by
  intro n
  induction n with
  | zero => intros; rfl
  | succ n ih =>
    intro s0 s1 s2 s3
    rw [evLp_succ, f61_1.s0_eq]
    delta f61_1.R0
    simp only [ih]
    rfl
theorem f61_1.p0_e0_eq {R : Type} (L N : Nat) (κ : AV → Option R) :
    (contAt (E61_1 L N) (evCallI (E61_1 L N) 1 2000) 1000 61 19 0 (codeOf Tryd.f61) (finK (E61_1 L N) 1000 Tryd.f61 (finC (.one i64) κ))) (.exit 0) f61_1.T0_e0 f61_1.H0_e0
    = f61_1.p0_e0 L N (fun a0 => κ (.tv i64 a0)) := by kernel_rfl
theorem f61_1.p0_r_eq {R : Type} (L N : Nat) (κ : AV → Option R) (z5 : Int) :
    (contAt (E61_1 L N) (evCallI (E61_1 L N) 1 2000) 1000 61 19 0 (codeOf Tryd.f61) (finK (E61_1 L N) 1000 Tryd.f61 (finC (.one i64) κ))) .ret (f61_1.T0_r z5) (f61_1.H0_r z5)
    = f61_1.p0_r L N (fun a0 => κ (.tv i64 a0)) z5 := by kernel_rfl
theorem f61_1.b_eq {R : Type} (L N : Nat) (κ : AV → Option R) (x0 : LM) (x1 : LB) :
    evBody (E61_1 L N) (evCallI (E61_1 L N) 1 2000) 1000 61 Tryd.f61 [(.tv (.sl (.st 0)) x0), (.fn 71 [(.imp (.sl .bool) x1 0)])] [] [] (finC (.one i64) κ)
    = f61_1.b L N (fun a0 => κ (.tv i64 a0)) x0 x1 := by
  refine Eq.trans (b := f61_1.b' L N (fun a0 => κ (.tv i64 a0)) (fun s0 s1 s2 s3 => evLp (E61_1 L N) (evCallI (E61_1 L N) 1 2000) 1000 61 19 0 f61_1.c0 (contAt (E61_1 L N) (evCallI (E61_1 L N) 1 2000) 1000 61 19 0 (codeOf Tryd.f61) (finK (E61_1 L N) 1000 Tryd.f61 (finC (.one i64) κ))) L (f61_1.T0 s0 s1 s2 s3) (f61_1.H0 s0 s1 s2 s3)) x0 x1) (by kernel_rfl) ?_
  unfold f61_1.b
  simp only [f61_1.l0_eq]
  delta f61_1.X0_e0 f61_1.X0_r
  simp only [f61_1.p0_e0_eq, f61_1.p0_r_eq]
theorem f61_1.ok (L N : Nat) (hΦ : TellsOk Tryd.prog ((Φ71_1 L N))) : EntOkO Tryd.prog 61 (f61_1.ent L N) := entRf_ok (E := (E61_1 L N)) (dep := 1000) (f := Tryd.f61) (sound_of hΦ) okP (callI_sound (sound_of hΦ) okP 1 2000) rfl rfl fun d _ hy => (f61_1.b_eq L N (unR (.one i64)) d.1 d.2.1.1).trans (Eq.trans (b := f61_1.b L N some d.1 d.2.1.1) (by kernel_rfl) hy)
def Φ61_1 (L N : Nat) : Tells := (addO (Φ71_1 L N) 61 (f61_1.ent L N))
theorem Φ61_1_ok (L N : Nat) : TellsOk Tryd.prog (Φ61_1 L N) := addO_ok (Φ71_1_ok L N) (f61_1.ok L N (Φ71_1_ok L N))
def f29_1.b' {R : Type} (L N : Nat) (k : Bool → Option R) (x0 : LM) (x1 : LB) : Option R :=
  (f61_1 L N x0 x1).bind fun y0 =>
  k (decide (y0 ≥ (0 : Int)))
def f29_1.b {R : Type} (L N : Nat) (k : Bool → Option R) (x0 : LM) (x1 : LB) : Option R :=
  f29_1.b' L N k x0 x1
def f29_1 (L N : Nat) (x0 : LM) (x1 : LB) : Option (Bool) := f29_1.b L N some x0 x1
def f29_1.ent (L N : Nat) := entRf [(.dat (.sl (.st 0))), (.fn 71 [(.imp (.sl .bool) 0)])] (.one .bool) fun d => f29_1 L N d.1 d.2.1.1
noncomputable def E29_1 (L N : Nat) : Env := { P := Tryd.prog, ty := tyOf, Φ := (Φ61_1 L N), inl := inlT, live := lives, liveX := livesX, L := L, dp := none, prom := promT, heal := healT, ren := renT }
theorem f29_1.b_eq {R : Type} (L N : Nat) (κ : AV → Option R) (x0 : LM) (x1 : LB) :
    evBody (E29_1 L N) (evCallI (E29_1 L N) 1 2000) 1000 29 Tryd.f29 [(.tv (.sl (.st 0)) x0), (.fn 71 [(.imp (.sl .bool) x1 0)])] [] [] (finC (.one .bool) κ)
    = f29_1.b L N (fun a0 => κ (.tv .bool a0)) x0 x1 := by kernel_rfl
theorem f29_1.ok (L N : Nat) (hΦ : TellsOk Tryd.prog ((Φ61_1 L N))) : EntOkO Tryd.prog 29 (f29_1.ent L N) := entRf_ok (E := (E29_1 L N)) (dep := 1000) (f := Tryd.f29) (sound_of hΦ) okP (callI_sound (sound_of hΦ) okP 1 2000) rfl rfl fun d _ hy => (f29_1.b_eq L N (unR (.one .bool)) d.1 d.2.1.1).trans (Eq.trans (b := f29_1.b L N some d.1 d.2.1.1) (by kernel_rfl) hy)
def Φ29_1 (L N : Nat) : Tells := (addO (Φ61_1 L N) 29 (f29_1.ent L N))
theorem Φ29_1_ok (L N : Nat) : TellsOk Tryd.prog (Φ29_1 L N) := addO_ok (Φ61_1_ok L N) (f29_1.ok L N (Φ61_1_ok L N))
def f53.s0' {R : Type} (L N : Nat) (k0_e0 : LLM → LB → Option R) (rec0 : Int → Int → LLM → LB → Option R) (s0 : Int) (s1 : Int) (s2 : LLM) (s3 : LB) : Option R :=
  bif (decide (s1 < s0)) then
    bif (decide (0 ≤ s1) && decide (s1 < (s3.length : Int))) then
      rec0 s0 (wi (s1 + (1 : Int))) s2 (s3.set s1.toNat true)
    else none
  else k0_e0 s2 s3
def f53.s0 {R : Type} (L N : Nat) (k0_e0 : LLM → LB → Option R) (rec0 : Int → Int → LLM → LB → Option R) (s0 : Int) (s1 : Int) (s2 : LLM) (s3 : LB) : Option R :=
  f53.s0' L N k0_e0 rec0 s0 s1 s2 s3
def f53.l0 {R : Type} (L N : Nat) (k0_e0 : LLM → LB → Option R) : Nat → Int → Int → LLM → LB → Option R
  | 0, _, _, _, _ => none
  | n + 1, s0, s1, s2, s3 => f53.s0 L N k0_e0 (f53.l0 L N k0_e0 n) s0 s1 s2 s3
def f53.T0 (s0 : Int) (s1 : Int) (s2 : LLM) (s3 : LB) : T := mkT 45 [(1, (.ptr 1001 0)), (3, (.ptr 1003 0)), (12, (.tv i64 s0)), (13, (.tv i64 s1))]
def f53.H0 (s0 : Int) (s1 : Int) (s2 : LLM) (s3 : LB) : H := [(1001, (.box [(.tv (.sl (.sl (.st 0))) s2)])), (1003, (.box [(.row 1010)])), (1010, (.row 4 .bool s3))]
def f53.T0_e0 (z4 : LLM) (z5 : LB) : T := mkT 45 [(1, (.ptr 1001 0)), (3, (.ptr 1003 0))]
def f53.H0_e0 (z4 : LLM) (z5 : LB) : H := [(1001, (.box [(.tv (.sl (.sl (.st 0))) z4)])), (1003, (.box [(.row 1010)])), (1010, (.row 4 .bool z5))]
def f53.j0' {R : Type} (L N : Nat) (k2_e4 : Bool → LLM → LB → Option R) (rec2 : Bool → Int → Int → LLM → LB → Option R) (v19 : Bool) (v20 : Int) (v21 : Int) (v22 : Int) (v23 : Bool) (v24 : LLM) (v25 : LB) : Option R :=
  bif v23 then
    bif (decide (0 ≤ v20) && decide (v20 < (v25.length : Int))) then
      rec2 true v21 (wi (v22 + (1 : Int))) v24 (v25.set v20.toNat false)
    else none
  else rec2 v19 v21 (wi (v22 + (1 : Int))) v24 v25
def f53.s2' {R : Type} (L N : Nat) (k2_e4 : Bool → LLM → LB → Option R) (rec2 : Bool → Int → Int → LLM → LB → Option R) (s10 : Bool) (s11 : Int) (s12 : Int) (s13 : LLM) (s14 : LB) : Option R :=
  bif (decide (s12 < s11)) then
    bif (decide (0 ≤ s12) && decide (s12 < (s14.length : Int))) then
      bif (listAt s14 false s12.toNat) then
        bif (decide (0 ≤ s12) && decide (s12 < (s13.length : Int))) then
          (f29_1 L N (listAt s13 [] s12.toNat) s14).bind fun y18 =>
          f53.j0' L N k2_e4 rec2 s10 s12 s11 s12 (!y18) s13 s14
        else none
      else f53.j0' L N k2_e4 rec2 s10 s12 s11 s12 false s13 s14
    else none
  else k2_e4 s10 s13 s14
def f53.s2 {R : Type} (L N : Nat) (k2_e4 : Bool → LLM → LB → Option R) (rec2 : Bool → Int → Int → LLM → LB → Option R) (s10 : Bool) (s11 : Int) (s12 : Int) (s13 : LLM) (s14 : LB) : Option R :=
  f53.s2' L N k2_e4 rec2 s10 s11 s12 s13 s14
def f53.l2 {R : Type} (L N : Nat) (k2_e4 : Bool → LLM → LB → Option R) : Nat → Bool → Int → Int → LLM → LB → Option R
  | 0, _, _, _, _, _ => none
  | n + 1, s10, s11, s12, s13, s14 => f53.s2 L N k2_e4 (f53.l2 L N k2_e4 n) s10 s11 s12 s13 s14
def f53.T2 (s10 : Bool) (s11 : Int) (s12 : Int) (s13 : LLM) (s14 : LB) : T := mkT 45 [(1, (.ptr 1001 0)), (3, (.ptr 1003 0)), (5, (.tv .bool s10)), (22, (.tv i64 s11)), (23, (.tv i64 s12))]
def f53.H2 (s10 : Bool) (s11 : Int) (s12 : Int) (s13 : LLM) (s14 : LB) : H := [(1001, (.box [(.tv (.sl (.sl (.st 0))) s13)])), (1003, (.box [(.row 1010)])), (1010, (.row 4 .bool s14))]
def f53.T2_e4 (z15 : Bool) (z16 : LLM) (z17 : LB) : T := mkT 45 [(1, (.ptr 1001 0)), (3, (.ptr 1003 0)), (5, (.tv .bool z15))]
def f53.H2_e4 (z15 : Bool) (z16 : LLM) (z17 : LB) : H := [(1001, (.box [(.tv (.sl (.sl (.st 0))) z16)])), (1003, (.box [(.row 1010)])), (1010, (.row 4 .bool z17))]
def f53.p2_e4' {R : Type} (L N : Nat) (k1_e2 : LB → Option R) (rec1 : Bool → LLM → LB → Option R) (z15 : Bool) (z16 : LLM) (z17 : LB) : Option R :=
  rec1 z15 z16 z17
def f53.p2_e4 {R : Type} (L N : Nat) (k1_e2 : LB → Option R) (rec1 : Bool → LLM → LB → Option R) (z15 : Bool) (z16 : LLM) (z17 : LB) : Option R :=
  f53.p2_e4' L N k1_e2 rec1 z15 z16 z17
def f53.s1' {R : Type} (L N : Nat) (k1_e2 : LB → Option R) (rec1 : Bool → LLM → LB → Option R) (w2 : Bool → Int → Int → LLM → LB → Option R) (s6 : Bool) (s7 : LLM) (s8 : LB) : Option R :=
  bif s6 then
    w2 false (s8.length : Int) (0 : Int) s7 s8
  else k1_e2 s8
def f53.s1 {R : Type} (L N : Nat) (k1_e2 : LB → Option R) (rec1 : Bool → LLM → LB → Option R) (s6 : Bool) (s7 : LLM) (s8 : LB) : Option R :=
  f53.s1' L N k1_e2 rec1 (fun s10 s11 s12 s13 s14 => f53.l2 L N (fun z15 z16 z17 => f53.p2_e4 L N k1_e2 rec1 z15 z16 z17) L s10 s11 s12 s13 s14) s6 s7 s8
def f53.l1 {R : Type} (L N : Nat) (k1_e2 : LB → Option R) : Nat → Bool → LLM → LB → Option R
  | 0, _, _, _ => none
  | n + 1, s6, s7, s8 => f53.s1 L N k1_e2 (f53.l1 L N k1_e2 n) s6 s7 s8
def f53.T1 (s6 : Bool) (s7 : LLM) (s8 : LB) : T := mkT 45 [(1, (.ptr 1001 0)), (3, (.ptr 1003 0)), (5, (.tv .bool s6))]
def f53.H1 (s6 : Bool) (s7 : LLM) (s8 : LB) : H := [(1001, (.box [(.tv (.sl (.sl (.st 0))) s7)])), (1003, (.box [(.row 1010)])), (1010, (.row 4 .bool s8))]
def f53.T1_e2 (z9 : LB) : T := mkT 45 [(3, (.ptr 1003 0))]
def f53.H1_e2 (z9 : LB) : H := [(1003, (.box [(.row 1010)])), (1010, (.row 4 .bool z9))]
def f53.p1_e2' {R : Type} (L N : Nat) (k : LB → Option R) (z9 : LB) : Option R :=
  k z9
def f53.p1_e2 {R : Type} (L N : Nat) (k : LB → Option R) (z9 : LB) : Option R :=
  f53.p1_e2' L N k z9
def f53.p0_e0' {R : Type} (L N : Nat) (k : LB → Option R) (w1 : Bool → LLM → LB → Option R) (z4 : LLM) (z5 : LB) : Option R :=
  w1 true z4 z5
def f53.p0_e0 {R : Type} (L N : Nat) (k : LB → Option R) (z4 : LLM) (z5 : LB) : Option R :=
  f53.p0_e0' L N k (fun s6 s7 s8 => f53.l1 L N (fun z9 => f53.p1_e2 L N k z9) L s6 s7 s8) z4 z5
def f53.b' {R : Type} (L N : Nat) (k : LB → Option R) (w0 : Int → Int → LLM → LB → Option R) (x0 : Graph) : Option R :=
  bif (decide (0 ≤ (x0.moves.length : Int)) && decide ((x0.moves.length : Int) ≤ (lim : Int))) then
    w0 ((List.replicate (x0.moves.length : Int).toNat false).length : Int) (0 : Int) x0.moves (List.replicate (x0.moves.length : Int).toNat false)
  else none
def f53.b {R : Type} (L N : Nat) (k : LB → Option R) (x0 : Graph) : Option R :=
  f53.b' L N k (fun s0 s1 s2 s3 => f53.l0 L N (fun z4 z5 => f53.p0_e0 L N k z4 z5) L s0 s1 s2 s3) x0
def f53 (L N : Nat) (x0 : Graph) : Option (LB) := f53.b L N some x0
def f53.ent (L N : Nat) := entDa [(.st 2)] (.one (.sl .bool)) fun d => f53 L N d.1
noncomputable def E53 (L N : Nat) : Env := { P := Tryd.prog, ty := tyOf, Φ := (Φ29_1 L N), inl := inlT, live := lives, liveX := livesX, L := L, dp := none, prom := promT, heal := healT, ren := renT }
noncomputable def f53.c0 : Code := loopAt 0 (codeOf Tryd.f53)
def f53.X0_e0 {R : Type} (κ : KX R) := fun z4 z5 => κ (.exit 0) (f53.T0_e0 z4 z5) (f53.H0_e0 z4 z5)
def f53.R0 {R : Type} (rec : KT R) := fun s0 s1 s2 s3 => rec (f53.T0 s0 s1 s2 s3) (f53.H0 s0 s1 s2 s3)
theorem f53.s0_eq {R : Type} (L N : Nat) (κ : KX R) (rec : KT R) (s0 : Int) (s1 : Int) (s2 : LLM) (s3 : LB) :
    evRd (E53 L N) (evCallI (E53 L N) 1 2000) 1000 53 45 0 f53.c0 κ rec (f53.T0 s0 s1 s2 s3) (f53.H0 s0 s1 s2 s3)
    = f53.s0 L N (f53.X0_e0 κ) (f53.R0 rec) s0 s1 s2 s3 := by kernel_rfl
theorem f53.l0_eq {R : Type} (L N : Nat) (κ : KX R) : ∀ (n : Nat) (s0 : Int) (s1 : Int) (s2 : LLM) (s3 : LB),
    evLp (E53 L N) (evCallI (E53 L N) 1 2000) 1000 53 45 0 f53.c0 κ n (f53.T0 s0 s1 s2 s3) (f53.H0 s0 s1 s2 s3)
    = f53.l0 L N (f53.X0_e0 κ) n s0 s1 s2 s3 := by
  intro n
  induction n with
  | zero => intros; rfl
  | succ n ih =>
    intro s0 s1 s2 s3
    rw [evLp_succ, f53.s0_eq]
    delta f53.R0
    simp only [ih]
    rfl
noncomputable def f53.c1 : Code := loopAt 2 (codeOf Tryd.f53)
noncomputable def f53.c2 : Code := loopAt 4 f53.c1
def f53.X2_e4 {R : Type} (κ : KX R) := fun z15 z16 z17 => κ (.exit 4) (f53.T2_e4 z15 z16 z17) (f53.H2_e4 z15 z16 z17)
def f53.R2 {R : Type} (rec : KT R) := fun s10 s11 s12 s13 s14 => rec (f53.T2 s10 s11 s12 s13 s14) (f53.H2 s10 s11 s12 s13 s14)
theorem f53.s2_eq {R : Type} (L N : Nat) (κ : KX R) (rec : KT R) (s10 : Bool) (s11 : Int) (s12 : Int) (s13 : LLM) (s14 : LB) :
    evRd (E53 L N) (evCallI (E53 L N) 1 2000) 1000 53 45 4 f53.c2 κ rec (f53.T2 s10 s11 s12 s13 s14) (f53.H2 s10 s11 s12 s13 s14)
    = f53.s2 L N (f53.X2_e4 κ) (f53.R2 rec) s10 s11 s12 s13 s14 := by kernel_rfl
theorem f53.l2_eq {R : Type} (L N : Nat) (κ : KX R) : ∀ (n : Nat) (s10 : Bool) (s11 : Int) (s12 : Int) (s13 : LLM) (s14 : LB),
    evLp (E53 L N) (evCallI (E53 L N) 1 2000) 1000 53 45 4 f53.c2 κ n (f53.T2 s10 s11 s12 s13 s14) (f53.H2 s10 s11 s12 s13 s14)
    = f53.l2 L N (f53.X2_e4 κ) n s10 s11 s12 s13 s14 := by
  intro n
  induction n with
  | zero => intros; rfl
  | succ n ih =>
    intro s10 s11 s12 s13 s14
    rw [evLp_succ, f53.s2_eq]
    delta f53.R2
    simp only [ih]
    rfl
def f53.X1_e2 {R : Type} (κ : KX R) := fun z9 => κ (.exit 2) (f53.T1_e2 z9) (f53.H1_e2 z9)
def f53.R1 {R : Type} (rec : KT R) := fun s6 s7 s8 => rec (f53.T1 s6 s7 s8) (f53.H1 s6 s7 s8)
theorem f53.p2_e4_eq {R : Type} (L N : Nat) (κ : KX R) (rec : KT R) (z15 : Bool) (z16 : LLM) (z17 : LB) :
    (contAt (E53 L N) (evCallI (E53 L N) 1 2000) 1000 53 45 4 f53.c1 (rdK (E53 L N) 1000 53 45 2 κ rec)) (.exit 4) (f53.T2_e4 z15 z16 z17) (f53.H2_e4 z15 z16 z17)
    = f53.p2_e4 L N (f53.X1_e2 κ) (f53.R1 rec) z15 z16 z17 := by kernel_rfl
theorem f53.s1_eq {R : Type} (L N : Nat) (κ : KX R) (rec : KT R) (s6 : Bool) (s7 : LLM) (s8 : LB) :
    evRd (E53 L N) (evCallI (E53 L N) 1 2000) 1000 53 45 2 f53.c1 κ rec (f53.T1 s6 s7 s8) (f53.H1 s6 s7 s8)
    = f53.s1 L N (f53.X1_e2 κ) (f53.R1 rec) s6 s7 s8 := by
  refine Eq.trans (b := f53.s1' L N (f53.X1_e2 κ) (f53.R1 rec) (fun s10 s11 s12 s13 s14 => evLp (E53 L N) (evCallI (E53 L N) 1 2000) 1000 53 45 4 f53.c2 (contAt (E53 L N) (evCallI (E53 L N) 1 2000) 1000 53 45 4 f53.c1 (rdK (E53 L N) 1000 53 45 2 κ rec)) L (f53.T2 s10 s11 s12 s13 s14) (f53.H2 s10 s11 s12 s13 s14)) s6 s7 s8) (by kernel_rfl) ?_
  unfold f53.s1
  simp only [f53.l2_eq]
  delta f53.X2_e4
  simp only [f53.p2_e4_eq]
theorem f53.l1_eq {R : Type} (L N : Nat) (κ : KX R) : ∀ (n : Nat) (s6 : Bool) (s7 : LLM) (s8 : LB),
    evLp (E53 L N) (evCallI (E53 L N) 1 2000) 1000 53 45 2 f53.c1 κ n (f53.T1 s6 s7 s8) (f53.H1 s6 s7 s8)
    = f53.l1 L N (f53.X1_e2 κ) n s6 s7 s8 := by
  intro n
  induction n with
  | zero => intros; rfl
  | succ n ih =>
    intro s6 s7 s8
    rw [evLp_succ, f53.s1_eq]
    delta f53.R1
    simp only [ih]
    rfl
theorem f53.p1_e2_eq {R : Type} (L N : Nat) (κ : AV → Option R) (z9 : LB) :
    (contAt (E53 L N) (evCallI (E53 L N) 1 2000) 1000 53 45 2 (codeOf Tryd.f53) (finK (E53 L N) 1000 Tryd.f53 (finC (.one (.sl .bool)) κ))) (.exit 2) (f53.T1_e2 z9) (f53.H1_e2 z9)
    = f53.p1_e2 L N (fun a0 => κ (.tv (.sl .bool) a0)) z9 := by kernel_rfl
theorem f53.p0_e0_eq {R : Type} (L N : Nat) (κ : AV → Option R) (z4 : LLM) (z5 : LB) :
    (contAt (E53 L N) (evCallI (E53 L N) 1 2000) 1000 53 45 0 (codeOf Tryd.f53) (finK (E53 L N) 1000 Tryd.f53 (finC (.one (.sl .bool)) κ))) (.exit 0) (f53.T0_e0 z4 z5) (f53.H0_e0 z4 z5)
    = f53.p0_e0 L N (fun a0 => κ (.tv (.sl .bool) a0)) z4 z5 := by
  refine Eq.trans (b := f53.p0_e0' L N (fun a0 => κ (.tv (.sl .bool) a0)) (fun s6 s7 s8 => evLp (E53 L N) (evCallI (E53 L N) 1 2000) 1000 53 45 2 f53.c1 (contAt (E53 L N) (evCallI (E53 L N) 1 2000) 1000 53 45 2 (codeOf Tryd.f53) (finK (E53 L N) 1000 Tryd.f53 (finC (.one (.sl .bool)) κ))) L (f53.T1 s6 s7 s8) (f53.H1 s6 s7 s8)) z4 z5) (by kernel_rfl) ?_
  unfold f53.p0_e0
  simp only [f53.l1_eq]
  delta f53.X1_e2
  simp only [f53.p1_e2_eq]
theorem f53.b_eq {R : Type} (L N : Nat) (κ : AV → Option R) (x0 : Graph) :
    evBody (E53 L N) (evCallI (E53 L N) 1 2000) 1000 53 Tryd.f53 [(.tv (.st 2) x0)] [] [] (finC (.one (.sl .bool)) κ)
    = f53.b L N (fun a0 => κ (.tv (.sl .bool) a0)) x0 := by
  refine Eq.trans (b := f53.b' L N (fun a0 => κ (.tv (.sl .bool) a0)) (fun s0 s1 s2 s3 => evLp (E53 L N) (evCallI (E53 L N) 1 2000) 1000 53 45 0 f53.c0 (contAt (E53 L N) (evCallI (E53 L N) 1 2000) 1000 53 45 0 (codeOf Tryd.f53) (finK (E53 L N) 1000 Tryd.f53 (finC (.one (.sl .bool)) κ))) L (f53.T0 s0 s1 s2 s3) (f53.H0 s0 s1 s2 s3)) x0) (by kernel_rfl) ?_
  unfold f53.b
  simp only [f53.l0_eq]
  delta f53.X0_e0
  simp only [f53.p0_e0_eq]
theorem f53.ok (L N : Nat) (hΦ : TellsOk Tryd.prog ((Φ29_1 L N))) : EntOk Tryd.prog 53 (f53.ent L N) := entDa_ok (E := (E53 L N)) (dep := 1000) (f := Tryd.f53) (sound_of hΦ) okP (callI_sound (sound_of hΦ) okP 1 2000) rfl fun d _ hy => (f53.b_eq L N (unR (.one (.sl .bool))) d.1).trans (Eq.trans (b := f53.b L N some d.1) (by kernel_rfl) hy)
def Φ53 (L N : Nat) : Tells := (addT (Φ29_1 L N) 53 (f53.ent L N))
theorem Φ53_ok (L N : Nat) : TellsOk Tryd.prog (Φ53 L N) := addT_ok (Φ29_1_ok L N) (f53.ok L N (Φ29_1_ok L N))
def f55.s1' {R : Type} (L N : Nat) (k1_e2 : Int → LLM → LI → (List (Int × Bool)) → Option R) (rec1 : Int → LM → Int → Int → LLM → LI → (List (Int × Bool)) → Option R) (s5 : Int) (s6 : LM) (s7 : Int) (s8 : Int) (s9 : LLM) (s10 : LI) (s11 : (List (Int × Bool))) : Option R :=
  bif (decide (s8 < s7)) then
    bif (decide (0 ≤ s8) && decide (s8 < (s6.length : Int))) then
      bif (!((mapFind i64 .bool ((listAt s6 (Ty.dflt (.st 0)) s8.toNat).to) s11).getD (Ty.dflt .bool))) then
        bif (decide (s10.length + ([(listAt s6 (Ty.dflt (.st 0)) s8.toNat).to] : LI).length ≤ lim)) then
          rec1 s5 s6 s7 (wi (s8 + (1 : Int))) s9 (s10 ++ ([(listAt s6 (Ty.dflt (.st 0)) s8.toNat).to] : LI)) (mapPut i64 .bool ((listAt s6 (Ty.dflt (.st 0)) s8.toNat).to) true s11)
        else none
      else rec1 s5 s6 s7 (wi (s8 + (1 : Int))) s9 s10 s11
    else none
  else k1_e2 s5 s9 s10 s11
def f55.s1 {R : Type} (L N : Nat) (k1_e2 : Int → LLM → LI → (List (Int × Bool)) → Option R) (rec1 : Int → LM → Int → Int → LLM → LI → (List (Int × Bool)) → Option R) (s5 : Int) (s6 : LM) (s7 : Int) (s8 : Int) (s9 : LLM) (s10 : LI) (s11 : (List (Int × Bool))) : Option R :=
  f55.s1' L N k1_e2 rec1 s5 s6 s7 s8 s9 s10 s11
def f55.l1 {R : Type} (L N : Nat) (k1_e2 : Int → LLM → LI → (List (Int × Bool)) → Option R) : Nat → Int → LM → Int → Int → LLM → LI → (List (Int × Bool)) → Option R
  | 0, _, _, _, _, _, _, _ => none
  | n + 1, s5, s6, s7, s8, s9, s10, s11 => f55.s1 L N k1_e2 (f55.l1 L N k1_e2 n) s5 s6 s7 s8 s9 s10 s11
def f55.T1 (s5 : Int) (s6 : LM) (s7 : Int) (s8 : Int) (s9 : LLM) (s10 : LI) (s11 : (List (Int × Bool))) : T := mkT 49 [(2, (.ptr 1002 0)), (5, (.row 1011)), (6, (.mp 1012)), (7, (.tv i64 s5)), (28, (.tv (.sl (.st 0)) s6)), (29, (.tv i64 s7)), (30, (.tv i64 s8))]
def f55.H1 (s5 : Int) (s6 : LM) (s7 : Int) (s8 : Int) (s9 : LLM) (s10 : LI) (s11 : (List (Int × Bool))) : H := [(1002, (.box [(.tv (.sl (.sl (.st 0))) s9)])), (1011, (.row 3 i64 s10)), (1012, (.map i64 .bool s11))]
def f55.T1_e2 (z12 : Int) (z13 : LLM) (z14 : LI) (z15 : (List (Int × Bool))) : T := mkT 49 [(2, (.ptr 1002 0)), (5, (.row 1011)), (6, (.mp 1012)), (7, (.tv i64 z12))]
def f55.H1_e2 (z12 : Int) (z13 : LLM) (z14 : LI) (z15 : (List (Int × Bool))) : H := [(1002, (.box [(.tv (.sl (.sl (.st 0))) z13)])), (1011, (.row 3 i64 z14)), (1012, (.map i64 .bool z15))]
def f55.p1_e2' {R : Type} (L N : Nat) (k0_e0 : LI → Option R) (rec0 : Int → LLM → LI → (List (Int × Bool)) → Option R) (z12 : Int) (z13 : LLM) (z14 : LI) (z15 : (List (Int × Bool))) : Option R :=
  rec0 (wi (z12 + (1 : Int))) z13 z14 z15
def f55.p1_e2 {R : Type} (L N : Nat) (k0_e0 : LI → Option R) (rec0 : Int → LLM → LI → (List (Int × Bool)) → Option R) (z12 : Int) (z13 : LLM) (z14 : LI) (z15 : (List (Int × Bool))) : Option R :=
  f55.p1_e2' L N k0_e0 rec0 z12 z13 z14 z15
def f55.s0' {R : Type} (L N : Nat) (k0_e0 : LI → Option R) (rec0 : Int → LLM → LI → (List (Int × Bool)) → Option R) (w1 : Int → LM → Int → Int → LLM → LI → (List (Int × Bool)) → Option R) (s0 : Int) (s1 : LLM) (s2 : LI) (s3 : (List (Int × Bool))) : Option R :=
  bif (decide (s0 < (s2.length : Int))) then
    bif (decide (0 ≤ s0) && decide (s0 < (s2.length : Int))) then
      bif (decide (0 ≤ (listAt s2 (0 : Int) s0.toNat)) && decide ((listAt s2 (0 : Int) s0.toNat) < (s1.length : Int))) then
        w1 s0 (listAt s1 [] (listAt s2 (0 : Int) s0.toNat).toNat) ((listAt s1 [] (listAt s2 (0 : Int) s0.toNat).toNat).length : Int) (0 : Int) s1 s2 s3
      else none
    else none
  else k0_e0 s2
def f55.s0 {R : Type} (L N : Nat) (k0_e0 : LI → Option R) (rec0 : Int → LLM → LI → (List (Int × Bool)) → Option R) (s0 : Int) (s1 : LLM) (s2 : LI) (s3 : (List (Int × Bool))) : Option R :=
  f55.s0' L N k0_e0 rec0 (fun s5 s6 s7 s8 s9 s10 s11 => f55.l1 L N (fun z12 z13 z14 z15 => f55.p1_e2 L N k0_e0 rec0 z12 z13 z14 z15) L s5 s6 s7 s8 s9 s10 s11) s0 s1 s2 s3
def f55.l0 {R : Type} (L N : Nat) (k0_e0 : LI → Option R) : Nat → Int → LLM → LI → (List (Int × Bool)) → Option R
  | 0, _, _, _, _ => none
  | n + 1, s0, s1, s2, s3 => f55.s0 L N k0_e0 (f55.l0 L N k0_e0 n) s0 s1 s2 s3
def f55.T0 (s0 : Int) (s1 : LLM) (s2 : LI) (s3 : (List (Int × Bool))) : T := mkT 49 [(2, (.ptr 1002 0)), (5, (.row 1011)), (6, (.mp 1012)), (7, (.tv i64 s0))]
def f55.H0 (s0 : Int) (s1 : LLM) (s2 : LI) (s3 : (List (Int × Bool))) : H := [(1002, (.box [(.tv (.sl (.sl (.st 0))) s1)])), (1011, (.row 3 i64 s2)), (1012, (.map i64 .bool s3))]
def f55.T0_e0 (z4 : LI) : T := mkT 49 [(5, (.row 1011))]
def f55.H0_e0 (z4 : LI) : H := [(1011, (.row 3 i64 z4))]
def f55.p0_e0' {R : Type} (L N : Nat) (k : LI → Option R) (z4 : LI) : Option R :=
  k z4
def f55.p0_e0 {R : Type} (L N : Nat) (k : LI → Option R) (z4 : LI) : Option R :=
  f55.p0_e0' L N k z4
def f55.b' {R : Type} (L N : Nat) (k : LI → Option R) (w0 : Int → LLM → LI → (List (Int × Bool)) → Option R) (x0 : Graph) (x1 : Int) : Option R :=
  w0 (0 : Int) x0.moves ([x1] : LI) (mapPut i64 .bool x1 true ([] : (List (Int × Bool))))
def f55.b {R : Type} (L N : Nat) (k : LI → Option R) (x0 : Graph) (x1 : Int) : Option R :=
  f55.b' L N k (fun s0 s1 s2 s3 => f55.l0 L N (fun z4 => f55.p0_e0 L N k z4) L s0 s1 s2 s3) x0 x1
def f55 (L N : Nat) (x0 : Graph) (x1 : Int) : Option (LI) := f55.b L N some x0 x1
def f55.ent (L N : Nat) := entDa [(.st 2), i64] (.one (.sl i64)) fun d => f55 L N d.1 d.2.1
noncomputable def E55 (L N : Nat) : Env := { P := Tryd.prog, ty := tyOf, Φ := (Φ53 L N), inl := inlT, live := lives, liveX := livesX, L := L, dp := none, prom := promT, heal := healT, ren := renT }
noncomputable def f55.c0 : Code := loopAt 0 (codeOf Tryd.f55)
noncomputable def f55.c1 : Code := loopAt 2 f55.c0
def f55.X1_e2 {R : Type} (κ : KX R) := fun z12 z13 z14 z15 => κ (.exit 2) (f55.T1_e2 z12 z13 z14 z15) (f55.H1_e2 z12 z13 z14 z15)
def f55.R1 {R : Type} (rec : KT R) := fun s5 s6 s7 s8 s9 s10 s11 => rec (f55.T1 s5 s6 s7 s8 s9 s10 s11) (f55.H1 s5 s6 s7 s8 s9 s10 s11)
theorem f55.s1_eq {R : Type} (L N : Nat) (κ : KX R) (rec : KT R) (s5 : Int) (s6 : LM) (s7 : Int) (s8 : Int) (s9 : LLM) (s10 : LI) (s11 : (List (Int × Bool))) :
    evRd (E55 L N) (evCallI (E55 L N) 1 2000) 1000 55 49 2 f55.c1 κ rec (f55.T1 s5 s6 s7 s8 s9 s10 s11) (f55.H1 s5 s6 s7 s8 s9 s10 s11)
    = f55.s1 L N (f55.X1_e2 κ) (f55.R1 rec) s5 s6 s7 s8 s9 s10 s11 := by kernel_rfl
theorem f55.l1_eq {R : Type} (L N : Nat) (κ : KX R) : ∀ (n : Nat) (s5 : Int) (s6 : LM) (s7 : Int) (s8 : Int) (s9 : LLM) (s10 : LI) (s11 : (List (Int × Bool))),
    evLp (E55 L N) (evCallI (E55 L N) 1 2000) 1000 55 49 2 f55.c1 κ n (f55.T1 s5 s6 s7 s8 s9 s10 s11) (f55.H1 s5 s6 s7 s8 s9 s10 s11)
    = f55.l1 L N (f55.X1_e2 κ) n s5 s6 s7 s8 s9 s10 s11 := by
  intro n
  induction n with
  | zero => intros; rfl
  | succ n ih =>
    intro s5 s6 s7 s8 s9 s10 s11
    rw [evLp_succ, f55.s1_eq]
    delta f55.R1
    simp only [ih]
    rfl
def f55.X0_e0 {R : Type} (κ : KX R) := fun z4 => κ (.exit 0) (f55.T0_e0 z4) (f55.H0_e0 z4)
def f55.R0 {R : Type} (rec : KT R) := fun s0 s1 s2 s3 => rec (f55.T0 s0 s1 s2 s3) (f55.H0 s0 s1 s2 s3)
theorem f55.p1_e2_eq {R : Type} (L N : Nat) (κ : KX R) (rec : KT R) (z12 : Int) (z13 : LLM) (z14 : LI) (z15 : (List (Int × Bool))) :
    (contAt (E55 L N) (evCallI (E55 L N) 1 2000) 1000 55 49 2 f55.c0 (rdK (E55 L N) 1000 55 49 0 κ rec)) (.exit 2) (f55.T1_e2 z12 z13 z14 z15) (f55.H1_e2 z12 z13 z14 z15)
    = f55.p1_e2 L N (f55.X0_e0 κ) (f55.R0 rec) z12 z13 z14 z15 := by kernel_rfl
theorem f55.s0_eq {R : Type} (L N : Nat) (κ : KX R) (rec : KT R) (s0 : Int) (s1 : LLM) (s2 : LI) (s3 : (List (Int × Bool))) :
    evRd (E55 L N) (evCallI (E55 L N) 1 2000) 1000 55 49 0 f55.c0 κ rec (f55.T0 s0 s1 s2 s3) (f55.H0 s0 s1 s2 s3)
    = f55.s0 L N (f55.X0_e0 κ) (f55.R0 rec) s0 s1 s2 s3 := by
  refine Eq.trans (b := f55.s0' L N (f55.X0_e0 κ) (f55.R0 rec) (fun s5 s6 s7 s8 s9 s10 s11 => evLp (E55 L N) (evCallI (E55 L N) 1 2000) 1000 55 49 2 f55.c1 (contAt (E55 L N) (evCallI (E55 L N) 1 2000) 1000 55 49 2 f55.c0 (rdK (E55 L N) 1000 55 49 0 κ rec)) L (f55.T1 s5 s6 s7 s8 s9 s10 s11) (f55.H1 s5 s6 s7 s8 s9 s10 s11)) s0 s1 s2 s3) (by kernel_rfl) ?_
  unfold f55.s0
  simp only [f55.l1_eq]
  delta f55.X1_e2
  simp only [f55.p1_e2_eq]
theorem f55.l0_eq {R : Type} (L N : Nat) (κ : KX R) : ∀ (n : Nat) (s0 : Int) (s1 : LLM) (s2 : LI) (s3 : (List (Int × Bool))),
    evLp (E55 L N) (evCallI (E55 L N) 1 2000) 1000 55 49 0 f55.c0 κ n (f55.T0 s0 s1 s2 s3) (f55.H0 s0 s1 s2 s3)
    = f55.l0 L N (f55.X0_e0 κ) n s0 s1 s2 s3 := by
  intro n
  induction n with
  | zero => intros; rfl
  | succ n ih =>
    intro s0 s1 s2 s3
    rw [evLp_succ, f55.s0_eq]
    delta f55.R0
    simp only [ih]
    rfl
theorem f55.p0_e0_eq {R : Type} (L N : Nat) (κ : AV → Option R) (z4 : LI) :
    (contAt (E55 L N) (evCallI (E55 L N) 1 2000) 1000 55 49 0 (codeOf Tryd.f55) (finK (E55 L N) 1000 Tryd.f55 (finC (.one (.sl i64)) κ))) (.exit 0) (f55.T0_e0 z4) (f55.H0_e0 z4)
    = f55.p0_e0 L N (fun a0 => κ (.tv (.sl i64) a0)) z4 := by kernel_rfl
theorem f55.b_eq {R : Type} (L N : Nat) (κ : AV → Option R) (x0 : Graph) (x1 : Int) :
    evBody (E55 L N) (evCallI (E55 L N) 1 2000) 1000 55 Tryd.f55 [(.tv (.st 2) x0), (.tv i64 x1)] [] [] (finC (.one (.sl i64)) κ)
    = f55.b L N (fun a0 => κ (.tv (.sl i64) a0)) x0 x1 := by
  refine Eq.trans (b := f55.b' L N (fun a0 => κ (.tv (.sl i64) a0)) (fun s0 s1 s2 s3 => evLp (E55 L N) (evCallI (E55 L N) 1 2000) 1000 55 49 0 f55.c0 (contAt (E55 L N) (evCallI (E55 L N) 1 2000) 1000 55 49 0 (codeOf Tryd.f55) (finK (E55 L N) 1000 Tryd.f55 (finC (.one (.sl i64)) κ))) L (f55.T0 s0 s1 s2 s3) (f55.H0 s0 s1 s2 s3)) x0 x1) (by kernel_rfl) ?_
  unfold f55.b
  simp only [f55.l0_eq]
  delta f55.X0_e0
  simp only [f55.p0_e0_eq]
theorem f55.ok (L N : Nat) (hΦ : TellsOk Tryd.prog ((Φ53 L N))) : EntOk Tryd.prog 55 (f55.ent L N) := entDa_ok (E := (E55 L N)) (dep := 1000) (f := Tryd.f55) (sound_of hΦ) okP (callI_sound (sound_of hΦ) okP 1 2000) rfl fun d _ hy => (f55.b_eq L N (unR (.one (.sl i64))) d.1 d.2.1).trans (Eq.trans (b := f55.b L N some d.1 d.2.1) (by kernel_rfl) hy)
def Φ55 (L N : Nat) : Tells := (addT (Φ53 L N) 55 (f55.ent L N))
theorem Φ55_ok (L N : Nat) : TellsOk Tryd.prog (Φ55 L N) := addT_ok (Φ53_ok L N) (f55.ok L N (Φ53_ok L N))
def f56_1.b' {R : Type} (L N : Nat) (k : Bool → Option R) (x0 : Int) (x1 : LB) : Option R :=
  bif (decide (0 ≤ x0) && decide (x0 < (x1.length : Int))) then
    k (listAt x1 false x0.toNat)
  else none
def f56_1.b {R : Type} (L N : Nat) (k : Bool → Option R) (x0 : Int) (x1 : LB) : Option R :=
  f56_1.b' L N k x0 x1
def f56_1 (L N : Nat) (x0 : Int) (x1 : LB) : Option (Bool) := f56_1.b L N some x0 x1
def f56_1.ent (L N : Nat) := entRf [(.dat i64), (.imp (.sl .bool) 0)] (.one .bool) fun d => f56_1 L N d.1 d.2.1
noncomputable def E56_1 (L N : Nat) : Env := { P := Tryd.prog, ty := tyOf, Φ := (Φ55 L N), inl := inlT, live := lives, liveX := livesX, L := L, dp := none, prom := promT, heal := healT, ren := renT }
theorem f56_1.b_eq {R : Type} (L N : Nat) (κ : AV → Option R) (x0 : Int) (x1 : LB) :
    evBody (E56_1 L N) (evCallI (E56_1 L N) 1 2000) 1000 56 Tryd.f56 [(.tv i64 x0), (.imp (.sl .bool) x1 0)] [] [] (finC (.one .bool) κ)
    = f56_1.b L N (fun a0 => κ (.tv .bool a0)) x0 x1 := by kernel_rfl
theorem f56_1.ok (L N : Nat) (hΦ : TellsOk Tryd.prog ((Φ55 L N))) : EntOkO Tryd.prog 56 (f56_1.ent L N) := entRf_ok (E := (E56_1 L N)) (dep := 1000) (f := Tryd.f56) (sound_of hΦ) okP (callI_sound (sound_of hΦ) okP 1 2000) rfl rfl fun d _ hy => (f56_1.b_eq L N (unR (.one .bool)) d.1 d.2.1).trans (Eq.trans (b := f56_1.b L N some d.1 d.2.1) (by kernel_rfl) hy)
def Φ56_1 (L N : Nat) : Tells := (addO (Φ55 L N) 56 (f56_1.ent L N))
theorem Φ56_1_ok (L N : Nat) : TellsOk Tryd.prog (Φ56_1 L N) := addO_ok (Φ55_ok L N) (f56_1.ok L N (Φ55_ok L N))
def f72_1.s0' {R : Type} (L N : Nat) (k0_e0 : Option R) (k0_r : Int → Option R) (rec0 : LI → LB → Int → Int → Option R) (s0 : LI) (s1 : LB) (s2 : Int) (s3 : Int) : Option R :=
  bif (decide (s3 < s2)) then
    bif (decide (0 ≤ s3) && decide (s3 < (s0.length : Int))) then
      (f56_1 L N (listAt s0 (0 : Int) s3.toNat) s1).bind fun y4 =>
      bif y4 then
        k0_r s3
      else rec0 s0 s1 s2 (wi (s3 + (1 : Int)))
    else none
  else k0_e0
def f72_1.s0 {R : Type} (L N : Nat) (k0_e0 : Option R) (k0_r : Int → Option R) (rec0 : LI → LB → Int → Int → Option R) (s0 : LI) (s1 : LB) (s2 : Int) (s3 : Int) : Option R :=
  f72_1.s0' L N k0_e0 k0_r rec0 s0 s1 s2 s3
def f72_1.l0 {R : Type} (L N : Nat) (k0_e0 : Option R) (k0_r : Int → Option R) : Nat → LI → LB → Int → Int → Option R
  | 0, _, _, _, _ => none
  | n + 1, s0, s1, s2, s3 => f72_1.s0 L N k0_e0 k0_r (f72_1.l0 L N k0_e0 k0_r n) s0 s1 s2 s3
def f72_1.T0 (s0 : LI) (s1 : LB) (s2 : Int) (s3 : Int) : T := mkT 19 [(0, (.tv (.sl i64) s0)), (1, (.fn 56 [(.imp (.sl .bool) s1 0)])), (7, (.tv i64 s2)), (8, (.tv i64 s3))]
def f72_1.H0 (s0 : LI) (s1 : LB) (s2 : Int) (s3 : Int) : H := []
def f72_1.T0_e0 : T := mkT 19 []
def f72_1.H0_e0 : H := []
def f72_1.T0_r (z5 : Int) : T := mkT 19 [(4, (.tv i64 z5))]
def f72_1.H0_r (z5 : Int) : H := []
def f72_1.p0_e0' {R : Type} (L N : Nat) (k : Int → Option R) : Option R :=
  k (-1 : Int)
def f72_1.p0_e0 {R : Type} (L N : Nat) (k : Int → Option R) : Option R :=
  f72_1.p0_e0' L N k
def f72_1.p0_r' {R : Type} (L N : Nat) (k : Int → Option R) (z5 : Int) : Option R :=
  k z5
def f72_1.p0_r {R : Type} (L N : Nat) (k : Int → Option R) (z5 : Int) : Option R :=
  f72_1.p0_r' L N k z5
def f72_1.b' {R : Type} (L N : Nat) (k : Int → Option R) (w0 : LI → LB → Int → Int → Option R) (x0 : LI) (x1 : LB) : Option R :=
  w0 x0 x1 (x0.length : Int) (0 : Int)
def f72_1.b {R : Type} (L N : Nat) (k : Int → Option R) (x0 : LI) (x1 : LB) : Option R :=
  f72_1.b' L N k (fun s0 s1 s2 s3 => f72_1.l0 L N (f72_1.p0_e0 L N k) (fun z5 => f72_1.p0_r L N k z5) L s0 s1 s2 s3) x0 x1
def f72_1 (L N : Nat) (x0 : LI) (x1 : LB) : Option (Int) := f72_1.b L N some x0 x1
def f72_1.ent (L N : Nat) := entRf [(.dat (.sl i64)), (.fn 56 [(.imp (.sl .bool) 0)])] (.one i64) fun d => f72_1 L N d.1 d.2.1.1
noncomputable def E72_1 (L N : Nat) : Env := { P := Tryd.prog, ty := tyOf, Φ := (Φ56_1 L N), inl := inlT, live := lives, liveX := livesX, L := L, dp := none, prom := promT, heal := healT, ren := renT }
noncomputable def f72_1.c0 : Code := loopAt 0 (codeOf Tryd.f72)
def f72_1.X0_e0 {R : Type} (κ : KX R) := κ (.exit 0) f72_1.T0_e0 f72_1.H0_e0
def f72_1.X0_r {R : Type} (κ : KX R) := fun z5 => κ .ret (f72_1.T0_r z5) (f72_1.H0_r z5)
def f72_1.R0 {R : Type} (rec : KT R) := fun s0 s1 s2 s3 => rec (f72_1.T0 s0 s1 s2 s3) (f72_1.H0 s0 s1 s2 s3)
theorem f72_1.s0_eq {R : Type} (L N : Nat) (κ : KX R) (rec : KT R) (s0 : LI) (s1 : LB) (s2 : Int) (s3 : Int) :
    evRd (E72_1 L N) (evCallI (E72_1 L N) 1 2000) 1000 72 19 0 f72_1.c0 κ rec (f72_1.T0 s0 s1 s2 s3) (f72_1.H0 s0 s1 s2 s3)
    = f72_1.s0 L N (f72_1.X0_e0 κ) (f72_1.X0_r κ) (f72_1.R0 rec) s0 s1 s2 s3 := by kernel_rfl
theorem f72_1.l0_eq {R : Type} (L N : Nat) (κ : KX R) : ∀ (n : Nat) (s0 : LI) (s1 : LB) (s2 : Int) (s3 : Int),
    evLp (E72_1 L N) (evCallI (E72_1 L N) 1 2000) 1000 72 19 0 f72_1.c0 κ n (f72_1.T0 s0 s1 s2 s3) (f72_1.H0 s0 s1 s2 s3)
    = f72_1.l0 L N (f72_1.X0_e0 κ) (f72_1.X0_r κ) n s0 s1 s2 s3 := by
  intro n
  induction n with
  | zero => intros; rfl
  | succ n ih =>
    intro s0 s1 s2 s3
    rw [evLp_succ, f72_1.s0_eq]
    delta f72_1.R0
    simp only [ih]
    rfl
theorem f72_1.p0_e0_eq {R : Type} (L N : Nat) (κ : AV → Option R) :
    (contAt (E72_1 L N) (evCallI (E72_1 L N) 1 2000) 1000 72 19 0 (codeOf Tryd.f72) (finK (E72_1 L N) 1000 Tryd.f72 (finC (.one i64) κ))) (.exit 0) f72_1.T0_e0 f72_1.H0_e0
    = f72_1.p0_e0 L N (fun a0 => κ (.tv i64 a0)) := by kernel_rfl
theorem f72_1.p0_r_eq {R : Type} (L N : Nat) (κ : AV → Option R) (z5 : Int) :
    (contAt (E72_1 L N) (evCallI (E72_1 L N) 1 2000) 1000 72 19 0 (codeOf Tryd.f72) (finK (E72_1 L N) 1000 Tryd.f72 (finC (.one i64) κ))) .ret (f72_1.T0_r z5) (f72_1.H0_r z5)
    = f72_1.p0_r L N (fun a0 => κ (.tv i64 a0)) z5 := by kernel_rfl
theorem f72_1.b_eq {R : Type} (L N : Nat) (κ : AV → Option R) (x0 : LI) (x1 : LB) :
    evBody (E72_1 L N) (evCallI (E72_1 L N) 1 2000) 1000 72 Tryd.f72 [(.tv (.sl i64) x0), (.fn 56 [(.imp (.sl .bool) x1 0)])] [] [] (finC (.one i64) κ)
    = f72_1.b L N (fun a0 => κ (.tv i64 a0)) x0 x1 := by
  refine Eq.trans (b := f72_1.b' L N (fun a0 => κ (.tv i64 a0)) (fun s0 s1 s2 s3 => evLp (E72_1 L N) (evCallI (E72_1 L N) 1 2000) 1000 72 19 0 f72_1.c0 (contAt (E72_1 L N) (evCallI (E72_1 L N) 1 2000) 1000 72 19 0 (codeOf Tryd.f72) (finK (E72_1 L N) 1000 Tryd.f72 (finC (.one i64) κ))) L (f72_1.T0 s0 s1 s2 s3) (f72_1.H0 s0 s1 s2 s3)) x0 x1) (by kernel_rfl) ?_
  unfold f72_1.b
  simp only [f72_1.l0_eq]
  delta f72_1.X0_e0 f72_1.X0_r
  simp only [f72_1.p0_e0_eq, f72_1.p0_r_eq]
theorem f72_1.ok (L N : Nat) (hΦ : TellsOk Tryd.prog ((Φ56_1 L N))) : EntOkO Tryd.prog 72 (f72_1.ent L N) := entRf_ok (E := (E72_1 L N)) (dep := 1000) (f := Tryd.f72) (sound_of hΦ) okP (callI_sound (sound_of hΦ) okP 1 2000) rfl rfl fun d _ hy => (f72_1.b_eq L N (unR (.one i64)) d.1 d.2.1.1).trans (Eq.trans (b := f72_1.b L N some d.1 d.2.1.1) (by kernel_rfl) hy)
def Φ72_1 (L N : Nat) : Tells := (addO (Φ56_1 L N) 72 (f72_1.ent L N))
theorem Φ72_1_ok (L N : Nat) : TellsOk Tryd.prog (Φ72_1 L N) := addO_ok (Φ56_1_ok L N) (f72_1.ok L N (Φ56_1_ok L N))
def f54_1.b' {R : Type} (L N : Nat) (k : Bool → Option R) (x0 : LI) (x1 : LB) : Option R :=
  (f72_1 L N x0 x1).bind fun y0 =>
  k (decide (y0 ≥ (0 : Int)))
def f54_1.b {R : Type} (L N : Nat) (k : Bool → Option R) (x0 : LI) (x1 : LB) : Option R :=
  f54_1.b' L N k x0 x1
def f54_1 (L N : Nat) (x0 : LI) (x1 : LB) : Option (Bool) := f54_1.b L N some x0 x1
def f54_1.ent (L N : Nat) := entRf [(.dat (.sl i64)), (.fn 56 [(.imp (.sl .bool) 0)])] (.one .bool) fun d => f54_1 L N d.1 d.2.1.1
noncomputable def E54_1 (L N : Nat) : Env := { P := Tryd.prog, ty := tyOf, Φ := (Φ72_1 L N), inl := inlT, live := lives, liveX := livesX, L := L, dp := none, prom := promT, heal := healT, ren := renT }
theorem f54_1.b_eq {R : Type} (L N : Nat) (κ : AV → Option R) (x0 : LI) (x1 : LB) :
    evBody (E54_1 L N) (evCallI (E54_1 L N) 1 2000) 1000 54 Tryd.f54 [(.tv (.sl i64) x0), (.fn 56 [(.imp (.sl .bool) x1 0)])] [] [] (finC (.one .bool) κ)
    = f54_1.b L N (fun a0 => κ (.tv .bool a0)) x0 x1 := by kernel_rfl
theorem f54_1.ok (L N : Nat) (hΦ : TellsOk Tryd.prog ((Φ72_1 L N))) : EntOkO Tryd.prog 54 (f54_1.ent L N) := entRf_ok (E := (E54_1 L N)) (dep := 1000) (f := Tryd.f54) (sound_of hΦ) okP (callI_sound (sound_of hΦ) okP 1 2000) rfl rfl fun d _ hy => (f54_1.b_eq L N (unR (.one .bool)) d.1 d.2.1.1).trans (Eq.trans (b := f54_1.b L N some d.1 d.2.1.1) (by kernel_rfl) hy)
def Φ54_1 (L N : Nat) : Tells := (addO (Φ72_1 L N) 54 (f54_1.ent L N))
theorem Φ54_1_ok (L N : Nat) : TellsOk Tryd.prog (Φ54_1 L N) := addO_ok (Φ72_1_ok L N) (f54_1.ok L N (Φ72_1_ok L N))
def f24.b' {R : Type} (L N : Nat) (k : Bool → Option R) (x0 : Graph) : Option R :=
  (f53 L N (Graph.mk x0.moves)).bind fun y0 =>
  (f55 L N (Graph.mk x0.moves) (0 : Int)).bind fun y1 =>
  (f54_1 L N y1 y0).bind fun y2 =>
  k y2
def f24.b {R : Type} (L N : Nat) (k : Bool → Option R) (x0 : Graph) : Option R :=
  f24.b' L N k x0
def f24 (L N : Nat) (x0 : Graph) : Option (Bool) := f24.b L N some x0
def f24.ent (L N : Nat) := entRo [(.st 2)] (.one .bool) fun d => f24 L N d.1
noncomputable def E24 (L N : Nat) : Env := { P := Tryd.prog, ty := tyOf, Φ := (Φ54_1 L N), inl := inlT, live := lives, liveX := livesX, L := L, dp := none, prom := promT, heal := healT, ren := renT }
theorem f24.b_eq {R : Type} (L N : Nat) (κ : AV → Option R) (x0 : Graph) :
    evBody (E24 L N) (evCallI (E24 L N) 1 2000) 1000 24 Tryd.f24 [(.tv (.st 2) x0)] [] [] (finC (.one .bool) κ)
    = f24.b L N (fun a0 => κ (.tv .bool a0)) x0 := by kernel_rfl
theorem f24.ok (L N : Nat) (hΦ : TellsOk Tryd.prog ((Φ54_1 L N))) : EntOk Tryd.prog 24 (f24.ent L N) := entRo_ok (E := (E24 L N)) (dep := 1000) (f := Tryd.f24) (sound_of hΦ) okP (callI_sound (sound_of hΦ) okP 1 2000) rfl rfl fun d _ hy => (f24.b_eq L N (unR (.one .bool)) d.1).trans (Eq.trans (b := f24.b L N some d.1) (by kernel_rfl) hy)
def Φ24 (L N : Nat) : Tells := (addT (Φ54_1 L N) 24 (f24.ent L N))
theorem Φ24_ok (L N : Nat) : TellsOk Tryd.prog (Φ24 L N) := addT_ok (Φ54_1_ok L N) (f24.ok L N (Φ54_1_ok L N))
def f27.s1' {R : Type} (L N : Nat) (k1_e2 : LI → Int → Int → LLM → LI → Option R) (rec1 : LI → Int → Int → LM → Int → Int → LLM → LI → Option R) (s6 : LI) (s7 : Int) (s8 : Int) (s9 : LM) (s10 : Int) (s11 : Int) (s12 : LLM) (s13 : LI) : Option R :=
  bif (decide (s11 < s10)) then
    bif (decide (0 ≤ s11) && decide (s11 < (s9.length : Int))) then
      bif ((listAt s9 (Ty.dflt (.st 0)) s11.toNat).act != (0 : Int)) then
        bif (decide (s13.length + ([(listAt s9 (Ty.dflt (.st 0)) s11.toNat).act] : LI).length ≤ lim)) then
          rec1 s6 s7 s8 s9 s10 (wi (s11 + (1 : Int))) s12 (s13 ++ ([(listAt s9 (Ty.dflt (.st 0)) s11.toNat).act] : LI))
        else none
      else rec1 s6 s7 s8 s9 s10 (wi (s11 + (1 : Int))) s12 s13
    else none
  else k1_e2 s6 s7 s8 s12 s13
def f27.s1 {R : Type} (L N : Nat) (k1_e2 : LI → Int → Int → LLM → LI → Option R) (rec1 : LI → Int → Int → LM → Int → Int → LLM → LI → Option R) (s6 : LI) (s7 : Int) (s8 : Int) (s9 : LM) (s10 : Int) (s11 : Int) (s12 : LLM) (s13 : LI) : Option R :=
  f27.s1' L N k1_e2 rec1 s6 s7 s8 s9 s10 s11 s12 s13
def f27.l1 {R : Type} (L N : Nat) (k1_e2 : LI → Int → Int → LLM → LI → Option R) : Nat → LI → Int → Int → LM → Int → Int → LLM → LI → Option R
  | 0, _, _, _, _, _, _, _, _ => none
  | n + 1, s6, s7, s8, s9, s10, s11, s12, s13 => f27.s1 L N k1_e2 (f27.l1 L N k1_e2 n) s6 s7 s8 s9 s10 s11 s12 s13
def f27.T1 (s6 : LI) (s7 : Int) (s8 : Int) (s9 : LM) (s10 : Int) (s11 : Int) (s12 : LLM) (s13 : LI) : T := mkT 41 [(2, (.ptr 1002 0)), (5, (.row 1010)), (11, (.tv (.sl i64) s6)), (12, (.tv i64 s7)), (13, (.tv i64 s8)), (21, (.tv (.sl (.st 0)) s9)), (22, (.tv i64 s10)), (23, (.tv i64 s11))]
def f27.H1 (s6 : LI) (s7 : Int) (s8 : Int) (s9 : LM) (s10 : Int) (s11 : Int) (s12 : LLM) (s13 : LI) : H := [(1002, (.box [(.tv (.sl (.sl (.st 0))) s12)])), (1010, (.row 3 i64 s13))]
def f27.T1_e2 (z14 : LI) (z15 : Int) (z16 : Int) (z17 : LLM) (z18 : LI) : T := mkT 41 [(2, (.ptr 1002 0)), (5, (.row 1010)), (11, (.tv (.sl i64) z14)), (12, (.tv i64 z15)), (13, (.tv i64 z16))]
def f27.H1_e2 (z14 : LI) (z15 : Int) (z16 : Int) (z17 : LLM) (z18 : LI) : H := [(1002, (.box [(.tv (.sl (.sl (.st 0))) z17)])), (1010, (.row 3 i64 z18))]
def f27.p1_e2' {R : Type} (L N : Nat) (k0_e0 : LI → Option R) (rec0 : LI → Int → Int → LLM → LI → Option R) (z14 : LI) (z15 : Int) (z16 : Int) (z17 : LLM) (z18 : LI) : Option R :=
  rec0 z14 z15 (wi (z16 + (1 : Int))) z17 z18
def f27.p1_e2 {R : Type} (L N : Nat) (k0_e0 : LI → Option R) (rec0 : LI → Int → Int → LLM → LI → Option R) (z14 : LI) (z15 : Int) (z16 : Int) (z17 : LLM) (z18 : LI) : Option R :=
  f27.p1_e2' L N k0_e0 rec0 z14 z15 z16 z17 z18
def f27.s0' {R : Type} (L N : Nat) (k0_e0 : LI → Option R) (rec0 : LI → Int → Int → LLM → LI → Option R) (w1 : LI → Int → Int → LM → Int → Int → LLM → LI → Option R) (s0 : LI) (s1 : Int) (s2 : Int) (s3 : LLM) (s4 : LI) : Option R :=
  bif (decide (s2 < s1)) then
    bif (decide (0 ≤ s2) && decide (s2 < (s0.length : Int))) then
      bif (decide (0 ≤ (listAt s0 (0 : Int) s2.toNat)) && decide ((listAt s0 (0 : Int) s2.toNat) < (s3.length : Int))) then
        w1 s0 s1 s2 (listAt s3 [] (listAt s0 (0 : Int) s2.toNat).toNat) ((listAt s3 [] (listAt s0 (0 : Int) s2.toNat).toNat).length : Int) (0 : Int) s3 s4
      else none
    else none
  else k0_e0 s4
def f27.s0 {R : Type} (L N : Nat) (k0_e0 : LI → Option R) (rec0 : LI → Int → Int → LLM → LI → Option R) (s0 : LI) (s1 : Int) (s2 : Int) (s3 : LLM) (s4 : LI) : Option R :=
  f27.s0' L N k0_e0 rec0 (fun s6 s7 s8 s9 s10 s11 s12 s13 => f27.l1 L N (fun z14 z15 z16 z17 z18 => f27.p1_e2 L N k0_e0 rec0 z14 z15 z16 z17 z18) L s6 s7 s8 s9 s10 s11 s12 s13) s0 s1 s2 s3 s4
def f27.l0 {R : Type} (L N : Nat) (k0_e0 : LI → Option R) : Nat → LI → Int → Int → LLM → LI → Option R
  | 0, _, _, _, _, _ => none
  | n + 1, s0, s1, s2, s3, s4 => f27.s0 L N k0_e0 (f27.l0 L N k0_e0 n) s0 s1 s2 s3 s4
def f27.T0 (s0 : LI) (s1 : Int) (s2 : Int) (s3 : LLM) (s4 : LI) : T := mkT 41 [(2, (.ptr 1002 0)), (5, (.row 1010)), (11, (.tv (.sl i64) s0)), (12, (.tv i64 s1)), (13, (.tv i64 s2))]
def f27.H0 (s0 : LI) (s1 : Int) (s2 : Int) (s3 : LLM) (s4 : LI) : H := [(1002, (.box [(.tv (.sl (.sl (.st 0))) s3)])), (1010, (.row 3 i64 s4))]
def f27.T0_e0 (z5 : LI) : T := mkT 41 [(5, (.row 1010))]
def f27.H0_e0 (z5 : LI) : H := [(1010, (.row 3 i64 z5))]
def f27.p0_e0' {R : Type} (L N : Nat) (k : LI → Option R) (z5 : LI) : Option R :=
  ((fsort z5)).bind fun y27 =>
  ((fsort (sortI z5))).bind fun y28 =>
  k (Go.Lib.compact (sortI z5))
end Go.Proofs.YtffkhhblppfbfaaDoor.Ev
