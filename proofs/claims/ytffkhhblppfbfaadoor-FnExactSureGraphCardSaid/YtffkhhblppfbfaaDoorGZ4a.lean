/- The seat's functions as plain functions: made by program (wip/gen/gen.py). -/
import Derived.Test.YtffkhhblppfbfaaDoorEvYa
import Derived.Test.YtffkhhblppfbfaaDoorShelf
namespace Go.Proofs.YtffkhhblppfbfaaDoor.Ev
open Go
set_option linter.unusedVariables false
set_option maxRecDepth 20000
def tyTab : List (Nat × Ty) := [(2, i64), (3, i64), (4, .bool), (5, (.int .u8)), (6, (.int .u8)), (9, .str), (10, .str), (11, .str), (12, (.int .u64)), (21, (.int .i32)), (22, (.sl (.sl (.st 0)))), (23, (.st 2)), (24, (.st 2)), (28, (.sl (.sl (.st 0)))), (29, (.st 2)), (30, (.st 2)), (39, (.sl .bool)), (41, (.sl (.sl .bool))), (48, (.sl i64)), (50, (.st 4)), (54, (.sl (.st 0))), (55, (.st 0)), (56, (.st 0)), (62, (.sl (.sl i64))), (67, (.sl (.st 0))), (80, (.sl (.st 4))), (94, (.st 0)), (100, (.int .u64)), (105, i64), (113, (.int .u32)), (115, (.int .u64)), (118, (.int .u64)), (131, (.sl (.int .u8))), (152, (.int .u8)), (153, (.int .u8)), (156, (.int .i32)), (157, (.int .i32))]
def tyOf (t : Nat) : Option Ty := tyFind t tyTab
def lives (f i : Nat) : List Nat × List Nat :=
  bif Nat.beq f 10 && Nat.beq i 0 then ([1, 2, 4, 5, 6], [1, 2, 5, 17, 900]) else
  bif Nat.beq f 10 && Nat.beq i 2 then ([1, 2, 4, 5, 6, 7, 8], [1, 2, 5, 17, 25, 900]) else
  bif Nat.beq f 14 && Nat.beq i 0 then ([0, 1, 5], []) else
  bif Nat.beq f 15 && Nat.beq i 0 then ([1, 3], [1]) else
  bif Nat.beq f 15 && Nat.beq i 2 then ([1, 3, 4], [1]) else
  bif Nat.beq f 19 && Nat.beq i 0 then ([1, 2, 3, 7, 8], [3, 12]) else
  bif Nat.beq f 19 && Nat.beq i 2 then ([1, 2, 3, 7, 8, 9], [3, 12]) else
  bif Nat.beq f 20 && Nat.beq i 0 then ([0, 3], []) else
  bif Nat.beq f 21 && Nat.beq i 0 then ([0, 1, 5], []) else
  bif Nat.beq f 22 && Nat.beq i 0 then ([0, 3, 4], [7]) else
  bif Nat.beq f 23 && Nat.beq i 0 then ([1, 18, 19, 20], [1]) else
  bif Nat.beq f 23 && Nat.beq i 2 then ([1, 4, 18, 19, 20, 24, 25, 26], [1]) else
  bif Nat.beq f 27 && Nat.beq i 0 then ([2, 5, 11, 12, 13], [2, 10]) else
  bif Nat.beq f 27 && Nat.beq i 2 then ([2, 5, 11, 12, 13, 21, 22, 23], [2, 10]) else
  bif Nat.beq f 31 && Nat.beq i 0 then ([0, 1, 5], []) else
  bif Nat.beq f 32 && Nat.beq i 0 then ([1, 2, 6, 8, 9, 10, 11], [6, 10, 22, 23, 900, 901]) else
  bif Nat.beq f 32 && Nat.beq i 2 then ([1, 2, 6, 8, 9, 10, 11, 12, 15, 49, 50, 51], [6, 10, 22, 23, 48, 900, 901]) else
  bif Nat.beq f 33 && Nat.beq i 0 then ([2, 5, 11, 12, 13], [2, 10]) else
  bif Nat.beq f 34 && Nat.beq i 0 then ([3, 6, 7, 8], []) else
  bif Nat.beq f 35 && Nat.beq i 0 then ([0, 1, 6, 7, 14, 15, 16], [13]) else
  bif Nat.beq f 36 && Nat.beq i 0 then ([2, 3, 7, 13, 14, 15], [3, 12]) else
  bif Nat.beq f 36 && Nat.beq i 2 then ([2, 3, 7, 13, 14, 15, 23, 24, 25], [3, 12]) else
  bif Nat.beq f 37 && Nat.beq i 0 then ([0, 1, 5], []) else
  bif Nat.beq f 38 && Nat.beq i 0 then ([0, 1, 5], []) else
  bif Nat.beq f 45 && Nat.beq i 0 then ([2, 5, 6], [2, 10]) else
  bif Nat.beq f 45 && Nat.beq i 2 then ([2, 5, 6, 7], [2, 10]) else
  bif Nat.beq f 45 && Nat.beq i 4 then ([2, 5, 6, 7, 8], [2, 10]) else
  bif Nat.beq f 48 && Nat.beq i 0 then ([0, 1, 5], []) else
  bif Nat.beq f 49 && Nat.beq i 0 then ([0, 3, 4], [5]) else
  bif Nat.beq f 50 && Nat.beq i 0 then ([0, 3, 4], [7]) else
  bif Nat.beq f 62 && Nat.beq i 0 then ([0, 1, 5], []) else
  bif Nat.beq f 64 && Nat.beq i 0 then ([2, 5, 6, 17, 18, 19], [2, 15, 16]) else
  bif Nat.beq f 64 && Nat.beq i 2 then ([2, 5, 6, 9], [2, 15, 16]) else
  bif Nat.beq f 64 && Nat.beq i 4 then ([2, 5, 6, 9, 49, 50, 51], [2, 15, 16]) else
  bif Nat.beq f 66 && Nat.beq i 0 then ([0, 1, 5], []) else
  bif Nat.beq f 67 && Nat.beq i 0 then ([0, 1, 5], []) else
  ([], [])
def livesX (f i : Nat) : List Nat × List Nat :=
  bif Nat.beq f 10 && Nat.beq i 0 then ([2, 3, 5], [2, 5, 900]) else
  bif Nat.beq f 10 && Nat.beq i 2 then ([1, 2, 3, 4, 5, 6, 7], [1, 2, 5, 17, 25, 900]) else
  bif Nat.beq f 14 && Nat.beq i 0 then ([1, 4], []) else
  bif Nat.beq f 15 && Nat.beq i 0 then ([2], []) else
  bif Nat.beq f 15 && Nat.beq i 2 then ([1, 2, 3], [1]) else
  bif Nat.beq f 19 && Nat.beq i 0 then ([3, 7], [3, 12]) else
  bif Nat.beq f 19 && Nat.beq i 2 then ([1, 2, 3, 7, 8], [3, 12]) else
  bif Nat.beq f 20 && Nat.beq i 0 then ([2], []) else
  bif Nat.beq f 21 && Nat.beq i 0 then ([0, 4], []) else
  bif Nat.beq f 22 && Nat.beq i 0 then ([3], [7]) else
  bif Nat.beq f 23 && Nat.beq i 0 then ([2], []) else
  bif Nat.beq f 23 && Nat.beq i 2 then ([1, 2, 18, 19, 20], [1]) else
  bif Nat.beq f 27 && Nat.beq i 0 then ([5], [10]) else
  bif Nat.beq f 27 && Nat.beq i 2 then ([2, 5, 11, 12, 13], [2, 10]) else
  bif Nat.beq f 31 && Nat.beq i 0 then ([4], []) else
  bif Nat.beq f 32 && Nat.beq i 0 then ([6, 7, 10], [6, 10, 900, 901]) else
  bif Nat.beq f 32 && Nat.beq i 2 then ([1, 2, 6, 7, 8, 9, 10, 11, 15], [6, 10, 22, 23, 48, 900, 901]) else
  bif Nat.beq f 33 && Nat.beq i 0 then ([5], [10]) else
  bif Nat.beq f 34 && Nat.beq i 0 then ([3], []) else
  bif Nat.beq f 35 && Nat.beq i 0 then ([6, 7], [13]) else
  bif Nat.beq f 36 && Nat.beq i 0 then ([3, 7], [3, 12]) else
  bif Nat.beq f 36 && Nat.beq i 2 then ([2, 3, 7, 13, 14, 15], [3, 12]) else
  bif Nat.beq f 37 && Nat.beq i 0 then ([1], []) else
  bif Nat.beq f 38 && Nat.beq i 0 then ([1, 4], []) else
  bif Nat.beq f 45 && Nat.beq i 0 then ([5], [10]) else
  bif Nat.beq f 45 && Nat.beq i 2 then ([2, 5, 6], [2, 10]) else
  bif Nat.beq f 45 && Nat.beq i 4 then ([2, 5, 6, 7], [2, 10]) else
  bif Nat.beq f 48 && Nat.beq i 0 then ([4], []) else
  bif Nat.beq f 49 && Nat.beq i 0 then ([3], [5]) else
  bif Nat.beq f 50 && Nat.beq i 0 then ([3], [7]) else
  bif Nat.beq f 62 && Nat.beq i 0 then ([4], []) else
  bif Nat.beq f 64 && Nat.beq i 0 then ([2, 5, 6], [2, 15, 16]) else
  bif Nat.beq f 64 && Nat.beq i 2 then ([6], [16]) else
  bif Nat.beq f 64 && Nat.beq i 4 then ([2, 5, 6, 9], [2, 15, 16]) else
  bif Nat.beq f 66 && Nat.beq i 0 then ([1], []) else
  bif Nat.beq f 67 && Nat.beq i 0 then ([1, 4], []) else
  ([], [])
def promT (f i : Nat) : List (Nat × Nat × Nat × Option Nat × Nat × Ty) :=
  bif Nat.beq f 10 && Nat.beq i 0 then [(5, 0, 900, none, 54, (.sl (.st 0)))] else
  bif Nat.beq f 32 && Nat.beq i 0 then [(6, 0, 900, (some 0), 0, (.sl (.st 0))), (10, 0, 901, (some 0), 0, (.sl (.st 0)))] else
  []
def healT (f i : Nat) : List Nat :=
  bif Nat.beq f 37 && Nat.beq i 0 then [0] else
  []
def renT (f i : Nat) : List (Nat × Nat) :=
  bif Nat.beq f 33 && Nat.beq i 0 then [(10, 20)] else
  []
def inlT (f : Nat) : Bool := memN f [12]
theorem okP : OkP Tryd.prog := OkP.mk' (by kernel_rfl) (by kernel_rfl)
def Φx (L N : Nat) : Tells := addT (addT (addT (addT (addT noTells 58 sortEnt) 63 tidyEnt) 57 (cloneEnt 3)) 59 compactEnt) 65 itoaEnt
theorem Φx_ok (L N : Nat) : TellsOk Tryd.prog (Φx L N) := addT_ok (addT_ok (addT_ok (addT_ok (addT_ok (no_ok _) (sort_ok ⟨Tryd.f58, rfl, by kernel_rfl, by kernel_rfl⟩ sortC sortNone)) (tidy_ok ⟨Tryd.f63, rfl, by kernel_rfl, by kernel_rfl⟩ tidyC tidyNone)) (clone_ok ⟨Tryd.f57, rfl, by kernel_rfl, by kernel_rfl⟩ cloneC cloneZero cloneNil)) (compact_ok ⟨Tryd.f59, rfl, by kernel_rfl, by kernel_rfl⟩ compactC compactNone)) (itoa_ok ⟨Tryd.f65, rfl, by kernel_rfl, by kernel_rfl⟩ itoaC)
def f39.b' {R : Type} (L N : Nat) (k : Int → Option R) (x0 : LM) (x1 : Int) : Option R :=
  bif (decide ((wi (x1 - (x0.length : Int))) < (0 : Int))) then
    k (-1 : Int)
  else k (wi (x1 - (x0.length : Int)))
def f39.b {R : Type} (L N : Nat) (k : Int → Option R) (x0 : LM) (x1 : Int) : Option R :=
  f39.b' L N k x0 x1
def f39 (L N : Nat) (x0 : LM) (x1 : Int) : Option (Int) := f39.b L N some x0 x1
def f39.ent (L N : Nat) := entRo [(.sl (.st 0)), i64] (.one i64) fun d => f39 L N d.1 d.2.1
noncomputable def E39 (L N : Nat) : Env := { P := Tryd.prog, ty := tyOf, Φ := (Φx L N), inl := inlT, live := lives, liveX := livesX, L := L, dp := none, prom := promT, heal := healT, ren := renT }
theorem f39.b_eq {R : Type} (L N : Nat) (κ : AV → Option R) (x0 : LM) (x1 : Int) :
    evBody (E39 L N) (evCallI (E39 L N) 1 2000) 1000 39 Tryd.f39 [(.tv (.sl (.st 0)) x0), (.tv i64 x1)] [] [] (finC (.one i64) κ)
    = f39.b L N (fun a0 => κ (.tv i64 a0)) x0 x1 := by kernel_rfl
theorem f39.ok (L N : Nat) (hΦ : TellsOk Tryd.prog ((Φx L N))) : EntOk Tryd.prog 39 (f39.ent L N) := entRo_ok (E := (E39 L N)) (dep := 1000) (f := Tryd.f39) (sound_of hΦ) okP (callI_sound (sound_of hΦ) okP 1 2000) rfl rfl fun d _ hy => (f39.b_eq L N (unR (.one i64)) d.1 d.2.1).trans (Eq.trans (b := f39.b L N some d.1 d.2.1) (by kernel_rfl) hy)
def Φ39 (L N : Nat) : Tells := (addT (Φx L N) 39 (f39.ent L N))
theorem Φ39_ok (L N : Nat) : TellsOk Tryd.prog (Φ39 L N) := addT_ok (Φx_ok L N) (f39.ok L N (Φx_ok L N))
def f14.s0' {R : Type} (L N : Nat) (k0_e0 : Int → Option R) (k0_r : Int → Int → Option R) (rec0 : LLM → Int → Int → Option R) (s0 : LLM) (s1 : Int) (s2 : Int) : Option R :=
  bif (decide (s2 < (s0.length : Int))) then
    bif (decide (0 ≤ s2) && decide (s2 < (s0.length : Int))) then
      (f39 L N (listAt s0 [] s2.toNat) s1).bind fun y4 =>
      bif (decide (y4 < (0 : Int))) then
        k0_r y4 (-1 : Int)
      else rec0 s0 y4 (wi (s2 + (1 : Int)))
    else none
  else k0_e0 s1
def f14.s0 {R : Type} (L N : Nat) (k0_e0 : Int → Option R) (k0_r : Int → Int → Option R) (rec0 : LLM → Int → Int → Option R) (s0 : LLM) (s1 : Int) (s2 : Int) : Option R :=
  f14.s0' L N k0_e0 k0_r rec0 s0 s1 s2
def f14.l0 {R : Type} (L N : Nat) (k0_e0 : Int → Option R) (k0_r : Int → Int → Option R) : Nat → LLM → Int → Int → Option R
  | 0, _, _, _ => none
  | n + 1, s0, s1, s2 => f14.s0 L N k0_e0 k0_r (f14.l0 L N k0_e0 k0_r n) s0 s1 s2
def f14.T0 (s0 : LLM) (s1 : Int) (s2 : Int) : T := mkT 27 [(0, (.tv (.sl (.sl (.st 0))) s0)), (1, (.tv i64 s1)), (5, (.tv i64 s2))]
def f14.H0 (s0 : LLM) (s1 : Int) (s2 : Int) : H := []
def f14.T0_e0 (z3 : Int) : T := mkT 27 [(1, (.tv i64 z3))]
def f14.H0_e0 (z3 : Int) : H := []
def f14.T0_r (z5 : Int) (z6 : Int) : T := mkT 27 [(1, (.tv i64 z5)), (4, (.tv i64 z6))]
def f14.H0_r (z5 : Int) (z6 : Int) : H := []
def f14.p0_e0' {R : Type} (L N : Nat) (k : Int → Option R) (z3 : Int) : Option R :=
  k z3
def f14.p0_e0 {R : Type} (L N : Nat) (k : Int → Option R) (z3 : Int) : Option R :=
  f14.p0_e0' L N k z3
def f14.p0_r' {R : Type} (L N : Nat) (k : Int → Option R) (z5 : Int) (z6 : Int) : Option R :=
  k z6
def f14.p0_r {R : Type} (L N : Nat) (k : Int → Option R) (z5 : Int) (z6 : Int) : Option R :=
  f14.p0_r' L N k z5 z6
def f14.b' {R : Type} (L N : Nat) (k : Int → Option R) (w0 : LLM → Int → Int → Option R) (x0 : LLM) (x1 : Int) : Option R :=
  bif (decide ((wi (x1 - (x0.length : Int))) < (0 : Int))) then
    k (-1 : Int)
  else w0 x0 (wi (x1 - (x0.length : Int))) (0 : Int)
def f14.b {R : Type} (L N : Nat) (k : Int → Option R) (x0 : LLM) (x1 : Int) : Option R :=
  f14.b' L N k (fun s0 s1 s2 => f14.l0 L N (fun z3 => f14.p0_e0 L N k z3) (fun z5 z6 => f14.p0_r L N k z5 z6) L s0 s1 s2) x0 x1
def f14 (L N : Nat) (x0 : LLM) (x1 : Int) : Option (Int) := f14.b L N some x0 x1
def f14.ent (L N : Nat) := entRo [(.sl (.sl (.st 0))), i64] (.one i64) fun d => f14 L N d.1 d.2.1
noncomputable def E14 (L N : Nat) : Env := { P := Tryd.prog, ty := tyOf, Φ := (Φ39 L N), inl := inlT, live := lives, liveX := livesX, L := L, dp := none, prom := promT, heal := healT, ren := renT }
noncomputable def f14.c0 : Code := loopAt 0 (codeOf Tryd.f14)
def f14.X0_e0 {R : Type} (κ : KX R) := fun z3 => κ (.exit 0) (f14.T0_e0 z3) (f14.H0_e0 z3)
def f14.X0_r {R : Type} (κ : KX R) := fun z5 z6 => κ .ret (f14.T0_r z5 z6) (f14.H0_r z5 z6)
def f14.R0 {R : Type} (rec : KT R) := fun s0 s1 s2 => rec (f14.T0 s0 s1 s2) (f14.H0 s0 s1 s2)
theorem f14.s0_eq {R : Type} (L N : Nat) (κ : KX R) (rec : KT R) (s0 : LLM) (s1 : Int) (s2 : Int) :
    evRd (E14 L N) (evCallI (E14 L N) 1 2000) 1000 14 27 0 f14.c0 κ rec (f14.T0 s0 s1 s2) (f14.H0 s0 s1 s2)
    = f14.s0 L N (f14.X0_e0 κ) (f14.X0_r κ) (f14.R0 rec) s0 s1 s2 := by kernel_rfl
theorem f14.l0_eq {R : Type} (L N : Nat) (κ : KX R) : ∀ (n : Nat) (s0 : LLM) (s1 : Int) (s2 : Int),
    evLp (E14 L N) (evCallI (E14 L N) 1 2000) 1000 14 27 0 f14.c0 κ n (f14.T0 s0 s1 s2) (f14.H0 s0 s1 s2)
    = f14.l0 L N (f14.X0_e0 κ) (f14.X0_r κ) n s0 s1 s2 := by
  intro n
  induction n with
  | zero => intros; rfl
  | succ n ih =>
    intro s0 s1 s2
    rw [evLp_succ, f14.s0_eq]
    delta f14.R0
    simp only [ih]
    rfl
theorem f14.p0_e0_eq {R : Type} (L N : Nat) (κ : AV → Option R) (z3 : Int) :
    (contAt (E14 L N) (evCallI (E14 L N) 1 2000) 1000 14 27 0 (codeOf Tryd.f14) (finK (E14 L N) 1000 Tryd.f14 (finC (.one i64) κ))) (.exit 0) (f14.T0_e0 z3) (f14.H0_e0 z3)
    = f14.p0_e0 L N (fun a0 => κ (.tv i64 a0)) z3 := by kernel_rfl
theorem f14.p0_r_eq {R : Type} (L N : Nat) (κ : AV → Option R) (z5 : Int) (z6 : Int) :
    (contAt (E14 L N) (evCallI (E14 L N) 1 2000) 1000 14 27 0 (codeOf Tryd.f14) (finK (E14 L N) 1000 Tryd.f14 (finC (.one i64) κ))) .ret (f14.T0_r z5 z6) (f14.H0_r z5 z6)
    = f14.p0_r L N (fun a0 => κ (.tv i64 a0)) z5 z6 := by kernel_rfl
theorem f14.b_eq {R : Type} (L N : Nat) (κ : AV → Option R) (x0 : LLM) (x1 : Int) :
    evBody (E14 L N) (evCallI (E14 L N) 1 2000) 1000 14 Tryd.f14 [(.tv (.sl (.sl (.st 0))) x0), (.tv i64 x1)] [] [] (finC (.one i64) κ)
    = f14.b L N (fun a0 => κ (.tv i64 a0)) x0 x1 := by
  refine Eq.trans (b := f14.b' L N (fun a0 => κ (.tv i64 a0)) (fun s0 s1 s2 => evLp (E14 L N) (evCallI (E14 L N) 1 2000) 1000 14 27 0 f14.c0 (contAt (E14 L N) (evCallI (E14 L N) 1 2000) 1000 14 27 0 (codeOf Tryd.f14) (finK (E14 L N) 1000 Tryd.f14 (finC (.one i64) κ))) L (f14.T0 s0 s1 s2) (f14.H0 s0 s1 s2)) x0 x1) (by kernel_rfl) ?_
  unfold f14.b
  simp only [f14.l0_eq]
  delta f14.X0_e0 f14.X0_r
  simp only [f14.p0_e0_eq, f14.p0_r_eq]
theorem f14.ok (L N : Nat) (hΦ : TellsOk Tryd.prog ((Φ39 L N))) : EntOk Tryd.prog 14 (f14.ent L N) := entRo_ok (E := (E14 L N)) (dep := 1000) (f := Tryd.f14) (sound_of hΦ) okP (callI_sound (sound_of hΦ) okP 1 2000) rfl rfl fun d _ hy => (f14.b_eq L N (unR (.one i64)) d.1 d.2.1).trans (Eq.trans (b := f14.b L N some d.1 d.2.1) (by kernel_rfl) hy)
def Φ14 (L N : Nat) : Tells := (addT (Φ39 L N) 14 (f14.ent L N))
theorem Φ14_ok (L N : Nat) : TellsOk Tryd.prog (Φ14 L N) := addT_ok (Φ39_ok L N) (f14.ok L N (Φ39_ok L N))
def f5.b' {R : Type} (L N : Nat) (k : Int → Option R) (x0 : Graph) (x1 : Int) : Option R :=
  (f14 L N x0.moves x1).bind fun y0 =>
  bif (decide (y0 < (0 : Int))) then
    k (-1 : Int)
  else k y0
def f5.b {R : Type} (L N : Nat) (k : Int → Option R) (x0 : Graph) (x1 : Int) : Option R :=
  f5.b' L N k x0 x1
def f5 (L N : Nat) (x0 : Graph) (x1 : Int) : Option (Int) := f5.b L N some x0 x1
def f5.ent (L N : Nat) := entRo [(.st 2), i64] (.one i64) fun d => f5 L N d.1 d.2.1
noncomputable def E5 (L N : Nat) : Env := { P := Tryd.prog, ty := tyOf, Φ := (Φ14 L N), inl := inlT, live := lives, liveX := livesX, L := L, dp := none, prom := promT, heal := healT, ren := renT }
theorem f5.b_eq {R : Type} (L N : Nat) (κ : AV → Option R) (x0 : Graph) (x1 : Int) :
    evBody (E5 L N) (evCallI (E5 L N) 1 2000) 1000 5 Tryd.f5 [(.tv (.st 2) x0), (.tv i64 x1)] [] [] (finC (.one i64) κ)
    = f5.b L N (fun a0 => κ (.tv i64 a0)) x0 x1 := by kernel_rfl
theorem f5.ok (L N : Nat) (hΦ : TellsOk Tryd.prog ((Φ14 L N))) : EntOk Tryd.prog 5 (f5.ent L N) := entRo_ok (E := (E5 L N)) (dep := 1000) (f := Tryd.f5) (sound_of hΦ) okP (callI_sound (sound_of hΦ) okP 1 2000) rfl rfl fun d _ hy => (f5.b_eq L N (unR (.one i64)) d.1 d.2.1).trans (Eq.trans (b := f5.b L N some d.1 d.2.1) (by kernel_rfl) hy)
def Φ5 (L N : Nat) : Tells := (addT (Φ14 L N) 5 (f5.ent L N))
theorem Φ5_ok (L N : Nat) : TellsOk Tryd.prog (Φ5 L N) := addT_ok (Φ14_ok L N) (f5.ok L N (Φ14_ok L N))
def f69.b' {R : Type} (L N : Nat) (k : Move → Option R) (x0 : Move) : Option R :=
  k (Move.mk ((Move.mk x0.act x0.to).act) ((Move.mk x0.act x0.to).to))
def f69.b {R : Type} (L N : Nat) (k : Move → Option R) (x0 : Move) : Option R :=
  f69.b' L N k x0
def f69 (L N : Nat) (x0 : Move) : Option (Move) := f69.b L N some x0
def f69.ent (L N : Nat) := entDa [(.st 0)] (.one (.st 0)) fun d => f69 L N d.1
noncomputable def E69 (L N : Nat) : Env := { P := Tryd.prog, ty := tyOf, Φ := (Φ5 L N), inl := inlT, live := lives, liveX := livesX, L := L, dp := none, prom := promT, heal := healT, ren := renT }
theorem f69.b_eq {R : Type} (L N : Nat) (κ : AV → Option R) (x0 : Move) :
    evBody (E69 L N) (evCallI (E69 L N) 1 2000) 1000 69 Tryd.f69 [(.tv (.st 0) x0)] [] [] (finC (.one (.st 0)) κ)
    = f69.b L N (fun a0 => κ (.tv (.st 0) a0)) x0 := by kernel_rfl
theorem f69.ok (L N : Nat) (hΦ : TellsOk Tryd.prog ((Φ5 L N))) : EntOk Tryd.prog 69 (f69.ent L N) := entDa_ok (E := (E69 L N)) (dep := 1000) (f := Tryd.f69) (sound_of hΦ) okP (callI_sound (sound_of hΦ) okP 1 2000) rfl fun d _ hy => (f69.b_eq L N (unR (.one (.st 0))) d.1).trans (Eq.trans (b := f69.b L N some d.1) (by kernel_rfl) hy)
def Φ69 (L N : Nat) : Tells := (addT (Φ5 L N) 69 (f69.ent L N))
theorem Φ69_ok (L N : Nat) : TellsOk Tryd.prog (Φ69 L N) := addT_ok (Φ5_ok L N) (f69.ok L N (Φ5_ok L N))
def f50.s0' {R : Type} (L N : Nat) (k0_e0 : LM → Option R) (rec0 : LM → Int → LM → Option R) (s0 : LM) (s1 : Int) (s2 : LM) : Option R :=
  bif (decide (s1 < (s0.length : Int))) then
    bif (decide (0 ≤ s1) && decide (s1 < (s0.length : Int))) then
      (f69 L N (listAt s0 (Ty.dflt (.st 0)) s1.toNat)).bind fun y4 =>
      bif (decide (0 ≤ s1) && decide (s1 < (s2.length : Int))) then
        rec0 s0 (wi (s1 + (1 : Int))) (s2.set s1.toNat y4)
      else none
    else none
  else k0_e0 s2
def f50.s0 {R : Type} (L N : Nat) (k0_e0 : LM → Option R) (rec0 : LM → Int → LM → Option R) (s0 : LM) (s1 : Int) (s2 : LM) : Option R :=
  f50.s0' L N k0_e0 rec0 s0 s1 s2
def f50.l0 {R : Type} (L N : Nat) (k0_e0 : LM → Option R) : Nat → LM → Int → LM → Option R
  | 0, _, _, _ => none
  | n + 1, s0, s1, s2 => f50.s0 L N k0_e0 (f50.l0 L N k0_e0 n) s0 s1 s2
def f50.T0 (s0 : LM) (s1 : Int) (s2 : LM) : T := mkT 23 [(0, (.tv (.sl (.st 0)) s0)), (3, (.row 1007)), (4, (.tv i64 s1))]
def f50.H0 (s0 : LM) (s1 : Int) (s2 : LM) : H := [(1007, (.row 56 (.st 0) s2))]
def f50.T0_e0 (z3 : LM) : T := mkT 23 [(3, (.row 1007))]
def f50.H0_e0 (z3 : LM) : H := [(1007, (.row 56 (.st 0) z3))]
def f50.p0_e0' {R : Type} (L N : Nat) (k : LM → Option R) (z3 : LM) : Option R :=
  k z3
def f50.p0_e0 {R : Type} (L N : Nat) (k : LM → Option R) (z3 : LM) : Option R :=
  f50.p0_e0' L N k z3
def f50.b' {R : Type} (L N : Nat) (k : LM → Option R) (w0 : LM → Int → LM → Option R) (x0 : LM) : Option R :=
  bif (decide (0 ≤ (x0.length : Int)) && decide ((x0.length : Int) ≤ (lim : Int))) then
    w0 x0 (0 : Int) (List.replicate (x0.length : Int).toNat (Ty.dflt (.st 0)))
  else none
def f50.b {R : Type} (L N : Nat) (k : LM → Option R) (x0 : LM) : Option R :=
  f50.b' L N k (fun s0 s1 s2 => f50.l0 L N (fun z3 => f50.p0_e0 L N k z3) L s0 s1 s2) x0
def f50 (L N : Nat) (x0 : LM) : Option (LM) := f50.b L N some x0
def f50.ent (L N : Nat) (args : List AV) (vw : View) (site : Nat) : Ans := match roD [(.sl (.st 0))] vw args with
  | some d => ⟨LM, f50 L N d.1, fun y => (RN.av site .row (), [(site, some (mkO none 56 (.st 0) y))], [])⟩
  | none => Ans.no
noncomputable def E50 (L N : Nat) : Env := { P := Tryd.prog, ty := tyOf, Φ := (Φ69 L N), inl := inlT, live := lives, liveX := livesX, L := L, dp := none, prom := promT, heal := healT, ren := renT }
noncomputable def f50.c0 : Code := loopAt 0 (codeOf Tryd.f50)
def f50.X0_e0 {R : Type} (κ : KX R) := fun z3 => κ (.exit 0) (f50.T0_e0 z3) (f50.H0_e0 z3)
def f50.R0 {R : Type} (rec : KT R) := fun s0 s1 s2 => rec (f50.T0 s0 s1 s2) (f50.H0 s0 s1 s2)
theorem f50.s0_eq {R : Type} (L N : Nat) (κ : KX R) (rec : KT R) (s0 : LM) (s1 : Int) (s2 : LM) :
    evRd (E50 L N) (evCallI (E50 L N) 1 2000) 1000 50 23 0 f50.c0 κ rec (f50.T0 s0 s1 s2) (f50.H0 s0 s1 s2)
    = f50.s0 L N (f50.X0_e0 κ) (f50.R0 rec) s0 s1 s2 := by kernel_rfl
theorem f50.l0_eq {R : Type} (L N : Nat) (κ : KX R) : ∀ (n : Nat) (s0 : LM) (s1 : Int) (s2 : LM),
    evLp (E50 L N) (evCallI (E50 L N) 1 2000) 1000 50 23 0 f50.c0 κ n (f50.T0 s0 s1 s2) (f50.H0 s0 s1 s2)
    = f50.l0 L N (f50.X0_e0 κ) n s0 s1 s2 := by
  intro n
  induction n with
  | zero => intros; rfl
  | succ n ih =>
    intro s0 s1 s2
    rw [evLp_succ, f50.s0_eq]
    delta f50.R0
    simp only [ih]
    rfl
theorem f50.p0_e0_eq {R : Type} (L N : Nat) (κ : RN.Den .row → List Move → Option R) (z3 : LM) :
    (contAt (E50 L N) (evCallI (E50 L N) 1 2000) 1000 50 23 0 (codeOf Tryd.f50) (finK (E50 L N) 1000 Tryd.f50 (finN .row none 56 (.st 0) κ))) (.exit 0) (f50.T0_e0 z3) (f50.H0_e0 z3)
    = f50.p0_e0 L N (fun a0 => κ () a0) z3 := by kernel_rfl
theorem f50.b_eq {R : Type} (L N : Nat) (κ : RN.Den .row → List Move → Option R) (x0 : LM) :
    evBody (E50 L N) (evCallI (E50 L N) 1 2000) 1000 50 Tryd.f50 [(.tv (.sl (.st 0)) x0)] [] [] (finN .row none 56 (.st 0) κ)
    = f50.b L N (fun a0 => κ () a0) x0 := by
  refine Eq.trans (b := f50.b' L N (fun a0 => κ () a0) (fun s0 s1 s2 => evLp (E50 L N) (evCallI (E50 L N) 1 2000) 1000 50 23 0 f50.c0 (contAt (E50 L N) (evCallI (E50 L N) 1 2000) 1000 50 23 0 (codeOf Tryd.f50) (finK (E50 L N) 1000 Tryd.f50 (finN .row none 56 (.st 0) κ))) L (f50.T0 s0 s1 s2) (f50.H0 s0 s1 s2)) x0) (by kernel_rfl) ?_
  unfold f50.b
  simp only [f50.l0_eq]
  delta f50.X0_e0
  simp only [f50.p0_e0_eq]
theorem f50.ok (L N : Nat) (hΦ : TellsOk Tryd.prog ((Φ69 L N))) : EntOk Tryd.prog 50 (f50.ent L N) := by
  intro args vw site h
  unfold f50.ent
  split
  · rename_i d ha
    intro y hy hs
    refine call_ron (y := y) (dep := 1000) (E := (E50 L N)) (ts := [(.sl (.st 0))]) (rn := .row) (q := none) (el := 56) (ty := (.st 0)) (d1 := ()) (xs := y) (κ := (fun d xs => some xs)) (sound_of hΦ) okP (callI_sound (sound_of hΦ) okP 1 2000) (f := Tryd.f50) rfl hs ha ?_ (fun _ _ h => by obtain rfl := Option.some.inj h; exact ⟨rfl, rfl⟩) rfl site
    exact (f50.b_eq L N (fun d xs => some xs) d.1).trans (Eq.trans (b := f50.b L N some d.1) (by kernel_rfl) hy)
  · intro y hy
    cases hy
def Φ50 (L N : Nat) : Tells := (addT (Φ69 L N) 50 (f50.ent L N))
theorem Φ50_ok (L N : Nat) : TellsOk Tryd.prog (Φ50 L N) := addT_ok (Φ69_ok L N) (f50.ok L N (Φ69_ok L N))
def f22.s0' {R : Type} (L N : Nat) (k0_e0 : LLM → Option R) (rec0 : LLM → Int → LLM → Option R) (s0 : LLM) (s1 : Int) (s2 : LLM) : Option R :=
  bif (decide (s1 < (s0.length : Int))) then
    bif (decide (0 ≤ s1) && decide (s1 < (s0.length : Int))) then
      (f50 L N (listAt s0 [] s1.toNat)).bind fun y4 =>
      bif (decide (0 ≤ s1) && decide (s1 < (s2.length : Int))) then
        rec0 s0 (wi (s1 + (1 : Int))) (s2.set s1.toNat y4)
      else none
    else none
  else k0_e0 s2
def f22.s0 {R : Type} (L N : Nat) (k0_e0 : LLM → Option R) (rec0 : LLM → Int → LLM → Option R) (s0 : LLM) (s1 : Int) (s2 : LLM) : Option R :=
  f22.s0' L N k0_e0 rec0 s0 s1 s2
def f22.l0 {R : Type} (L N : Nat) (k0_e0 : LLM → Option R) : Nat → LLM → Int → LLM → Option R
  | 0, _, _, _ => none
  | n + 1, s0, s1, s2 => f22.s0 L N k0_e0 (f22.l0 L N k0_e0 n) s0 s1 s2
def f22.T0 (s0 : LLM) (s1 : Int) (s2 : LLM) : T := mkT 23 [(0, (.tv (.sl (.sl (.st 0))) s0)), (3, (.row 1007)), (4, (.tv i64 s1))]
def f22.H0 (s0 : LLM) (s1 : Int) (s2 : LLM) : H := [(1007, (.deep 0 (.sl (.st 0)) s2 none))]
def f22.T0_e0 (z3 : LLM) : T := mkT 23 [(3, (.row 1007))]
def f22.H0_e0 (z3 : LLM) : H := [(1007, (.deep 0 (.sl (.st 0)) z3 none))]
def f22.p0_e0' {R : Type} (L N : Nat) (k : LLM → Option R) (z3 : LLM) : Option R :=
  k z3
def f22.p0_e0 {R : Type} (L N : Nat) (k : LLM → Option R) (z3 : LLM) : Option R :=
  f22.p0_e0' L N k z3
def f22.b' {R : Type} (L N : Nat) (k : LLM → Option R) (w0 : LLM → Int → LLM → Option R) (x0 : LLM) : Option R :=
  bif (decide (0 ≤ (x0.length : Int)) && decide ((x0.length : Int) ≤ (lim : Int))) then
    w0 x0 (0 : Int) (List.replicate (x0.length : Int).toNat [])
  else none
def f22.b {R : Type} (L N : Nat) (k : LLM → Option R) (x0 : LLM) : Option R :=
  f22.b' L N k (fun s0 s1 s2 => f22.l0 L N (fun z3 => f22.p0_e0 L N k z3) L s0 s1 s2) x0
def f22 (L N : Nat) (x0 : LLM) : Option (LLM) := f22.b L N some x0
def f22.ent (L N : Nat) (args : List AV) (vw : View) (site : Nat) : Ans := match roD [(.sl (.sl (.st 0)))] vw args with
  | some d => ⟨LLM, f22 L N d.1, fun y => (RN.av site .row (), [(site, some (mkO (some 0) 54 (.sl (.st 0)) y))], [])⟩
  | none => Ans.no
noncomputable def E22 (L N : Nat) : Env := { P := Tryd.prog, ty := tyOf, Φ := (Φ50 L N), inl := inlT, live := lives, liveX := livesX, L := L, dp := (some 0), prom := promT, heal := healT, ren := renT }
noncomputable def f22.c0 : Code := loopAt 0 (codeOf Tryd.f22)
def f22.X0_e0 {R : Type} (κ : KX R) := fun z3 => κ (.exit 0) (f22.T0_e0 z3) (f22.H0_e0 z3)
def f22.R0 {R : Type} (rec : KT R) := fun s0 s1 s2 => rec (f22.T0 s0 s1 s2) (f22.H0 s0 s1 s2)
theorem f22.s0_eq {R : Type} (L N : Nat) (κ : KX R) (rec : KT R) (s0 : LLM) (s1 : Int) (s2 : LLM) :
    evRd (E22 L N) (evCallI (E22 L N) 1 2000) 1000 22 23 0 f22.c0 κ rec (f22.T0 s0 s1 s2) (f22.H0 s0 s1 s2)
    = f22.s0 L N (f22.X0_e0 κ) (f22.R0 rec) s0 s1 s2 := by kernel_rfl
theorem f22.l0_eq {R : Type} (L N : Nat) (κ : KX R) : ∀ (n : Nat) (s0 : LLM) (s1 : Int) (s2 : LLM),
    evLp (E22 L N) (evCallI (E22 L N) 1 2000) 1000 22 23 0 f22.c0 κ n (f22.T0 s0 s1 s2) (f22.H0 s0 s1 s2)
    = f22.l0 L N (f22.X0_e0 κ) n s0 s1 s2 := by
  intro n
  induction n with
  | zero => intros; rfl
  | succ n ih =>
    intro s0 s1 s2
    rw [evLp_succ, f22.s0_eq]
    delta f22.R0
    simp only [ih]
    rfl
theorem f22.p0_e0_eq {R : Type} (L N : Nat) (κ : RN.Den .row → List LM → Option R) (z3 : LLM) :
    (contAt (E22 L N) (evCallI (E22 L N) 1 2000) 1000 22 23 0 (codeOf Tryd.f22) (finK (E22 L N) 1000 Tryd.f22 (finN .row (some 0) 54 (.sl (.st 0)) κ))) (.exit 0) (f22.T0_e0 z3) (f22.H0_e0 z3)
    = f22.p0_e0 L N (fun a0 => κ () a0) z3 := by kernel_rfl
theorem f22.b_eq {R : Type} (L N : Nat) (κ : RN.Den .row → List LM → Option R) (x0 : LLM) :
    evBody (E22 L N) (evCallI (E22 L N) 1 2000) 1000 22 Tryd.f22 [(.tv (.sl (.sl (.st 0))) x0)] [] [] (finN .row (some 0) 54 (.sl (.st 0)) κ)
    = f22.b L N (fun a0 => κ () a0) x0 := by
  refine Eq.trans (b := f22.b' L N (fun a0 => κ () a0) (fun s0 s1 s2 => evLp (E22 L N) (evCallI (E22 L N) 1 2000) 1000 22 23 0 f22.c0 (contAt (E22 L N) (evCallI (E22 L N) 1 2000) 1000 22 23 0 (codeOf Tryd.f22) (finK (E22 L N) 1000 Tryd.f22 (finN .row (some 0) 54 (.sl (.st 0)) κ))) L (f22.T0 s0 s1 s2) (f22.H0 s0 s1 s2)) x0) (by kernel_rfl) ?_
  unfold f22.b
  simp only [f22.l0_eq]
  delta f22.X0_e0
  simp only [f22.p0_e0_eq]
theorem f22.ok (L N : Nat) (hΦ : TellsOk Tryd.prog ((Φ50 L N))) : EntOk Tryd.prog 22 (f22.ent L N) := by
  intro args vw site h
  unfold f22.ent
  split
  · rename_i d ha
    intro y hy hs
    refine call_ron (y := y) (dep := 1000) (E := (E22 L N)) (ts := [(.sl (.sl (.st 0)))]) (rn := .row) (q := (some 0)) (el := 54) (ty := (.sl (.st 0))) (d1 := ()) (xs := y) (κ := (fun d xs => some xs)) (sound_of hΦ) okP (callI_sound (sound_of hΦ) okP 1 2000) (f := Tryd.f22) rfl hs ha ?_ (fun _ _ h => by obtain rfl := Option.some.inj h; exact ⟨rfl, rfl⟩) rfl site
    exact (f22.b_eq L N (fun d xs => some xs) d.1).trans (Eq.trans (b := f22.b L N some d.1) (by kernel_rfl) hy)
  · intro y hy
    cases hy
def Φ22 (L N : Nat) : Tells := (addT (Φ50 L N) 22 (f22.ent L N))
theorem Φ22_ok (L N : Nat) : TellsOk Tryd.prog (Φ22 L N) := addT_ok (Φ50_ok L N) (f22.ok L N (Φ50_ok L N))
def f7.b' {R : Type} (L N : Nat) (k : LLM → Option R) (x0 : Graph) : Option R :=
  (f22 L N x0.moves).bind fun y0 =>
  k y0
def f7.b {R : Type} (L N : Nat) (k : LLM → Option R) (x0 : Graph) : Option R :=
  f7.b' L N k x0
def f7 (L N : Nat) (x0 : Graph) : Option (LLM) := f7.b L N some x0
def f7.ent (L N : Nat) (args : List AV) (vw : View) (site : Nat) : Ans := match roD [(.st 2)] vw args with
  | some d => ⟨LLM, f7 L N d.1, fun y => (RN.av site (.agg []) (()), [(site, some (mkO (some 0) 54 (.sl (.st 0)) y))], [])⟩
  | none => Ans.no
noncomputable def E7 (L N : Nat) : Env := { P := Tryd.prog, ty := tyOf, Φ := (Φ22 L N), inl := inlT, live := lives, liveX := livesX, L := L, dp := (some 0), prom := promT, heal := healT, ren := renT }
theorem f7.b_eq {R : Type} (L N : Nat) (κ : RN.Den (.agg []) → List LM → Option R) (x0 : Graph) :
    evBody (E7 L N) (evCallI (E7 L N) 1 2000) 1000 7 Tryd.f7 [(.tv (.st 2) x0)] [] [] (finN (.agg []) (some 0) 54 (.sl (.st 0)) κ)
    = f7.b L N (fun a0 => κ (()) a0) x0 := by kernel_rfl
theorem f7.ok (L N : Nat) (hΦ : TellsOk Tryd.prog ((Φ22 L N))) : EntOk Tryd.prog 7 (f7.ent L N) := by
  intro args vw site h
  unfold f7.ent
  split
  · rename_i d ha
    intro y hy hs
    refine call_ron (y := y) (dep := 1000) (E := (E7 L N)) (ts := [(.st 2)]) (rn := (.agg [])) (q := (some 0)) (el := 54) (ty := (.sl (.st 0))) (d1 := (())) (xs := y) (κ := (fun d xs => some xs)) (sound_of hΦ) okP (callI_sound (sound_of hΦ) okP 1 2000) (f := Tryd.f7) rfl hs ha ?_ (fun _ _ h => by obtain rfl := Option.some.inj h; exact ⟨rfl, rfl⟩) rfl site
    exact (f7.b_eq L N (fun d xs => some xs) d.1).trans (Eq.trans (b := f7.b L N some d.1) (by kernel_rfl) hy)
  · intro y hy
    cases hy
def Φ7 (L N : Nat) : Tells := (addT (Φ22 L N) 7 (f7.ent L N))
theorem Φ7_ok (L N : Nat) : TellsOk Tryd.prog (Φ7 L N) := addT_ok (Φ22_ok L N) (f7.ok L N (Φ22_ok L N))
def f75.b' {R : Type} (L N : Nat) (k : Bool → Option R) (x0 : Move) (x1 : Move) : Option R :=
  bif (x0.act != x1.act) then
    k false
  else bif (x0.to != x1.to) then
    k false
  else k true
def f75.b {R : Type} (L N : Nat) (k : Bool → Option R) (x0 : Move) (x1 : Move) : Option R :=
  f75.b' L N k x0 x1
def f75 (L N : Nat) (x0 : Move) (x1 : Move) : Option (Bool) := f75.b L N some x0 x1
def f75.ent (L N : Nat) := entRo [(.st 0), (.st 0)] (.one .bool) fun d => f75 L N d.1 d.2.1
noncomputable def E75 (L N : Nat) : Env := { P := Tryd.prog, ty := tyOf, Φ := (Φ7 L N), inl := inlT, live := lives, liveX := livesX, L := L, dp := none, prom := promT, heal := healT, ren := renT }
theorem f75.b_eq {R : Type} (L N : Nat) (κ : AV → Option R) (x0 : Move) (x1 : Move) :
    evBody (E75 L N) (evCallI (E75 L N) 1 2000) 1000 75 Tryd.f75 [(.tv (.st 0) x0), (.tv (.st 0) x1)] [] [] (finC (.one .bool) κ)
    = f75.b L N (fun a0 => κ (.tv .bool a0)) x0 x1 := by kernel_rfl
theorem f75.ok (L N : Nat) (hΦ : TellsOk Tryd.prog ((Φ7 L N))) : EntOk Tryd.prog 75 (f75.ent L N) := entRo_ok (E := (E75 L N)) (dep := 1000) (f := Tryd.f75) (sound_of hΦ) okP (callI_sound (sound_of hΦ) okP 1 2000) rfl rfl fun d _ hy => (f75.b_eq L N (unR (.one .bool)) d.1 d.2.1).trans (Eq.trans (b := f75.b L N some d.1 d.2.1) (by kernel_rfl) hy)
def Φ75 (L N : Nat) : Tells := (addT (Φ7 L N) 75 (f75.ent L N))
theorem Φ75_ok (L N : Nat) : TellsOk Tryd.prog (Φ75 L N) := addT_ok (Φ7_ok L N) (f75.ok L N (Φ7_ok L N))
def f62.s0' {R : Type} (L N : Nat) (k0_e0 : Option R) (k0_r : Bool → Option R) (rec0 : LM → LM → Int → Option R) (s0 : LM) (s1 : LM) (s2 : Int) : Option R :=
  bif (decide (s2 < (s0.length : Int))) then
    bif (decide (0 ≤ s2) && decide (s2 < (s0.length : Int))) then
      bif (decide (0 ≤ s2) && decide (s2 < (s1.length : Int))) then
        (f75 L N (listAt s0 (Ty.dflt (.st 0)) s2.toNat) (listAt s1 (Ty.dflt (.st 0)) s2.toNat)).bind fun y3 =>
        bif (!y3) then
          k0_r false
        else rec0 s0 s1 (wi (s2 + (1 : Int)))
      else none
    else none
  else k0_e0
def f62.s0 {R : Type} (L N : Nat) (k0_e0 : Option R) (k0_r : Bool → Option R) (rec0 : LM → LM → Int → Option R) (s0 : LM) (s1 : LM) (s2 : Int) : Option R :=
  f62.s0' L N k0_e0 k0_r rec0 s0 s1 s2
def f62.l0 {R : Type} (L N : Nat) (k0_e0 : Option R) (k0_r : Bool → Option R) : Nat → LM → LM → Int → Option R
  | 0, _, _, _ => none
  | n + 1, s0, s1, s2 => f62.s0 L N k0_e0 k0_r (f62.l0 L N k0_e0 k0_r n) s0 s1 s2
def f62.T0 (s0 : LM) (s1 : LM) (s2 : Int) : T := mkT 27 [(0, (.tv (.sl (.st 0)) s0)), (1, (.tv (.sl (.st 0)) s1)), (5, (.tv i64 s2))]
def f62.H0 (s0 : LM) (s1 : LM) (s2 : Int) : H := []
def f62.T0_e0 : T := mkT 27 []
def f62.H0_e0 : H := []
def f62.T0_r (z4 : Bool) : T := mkT 27 [(4, (.tv .bool z4))]
def f62.H0_r (z4 : Bool) : H := []
def f62.p0_e0' {R : Type} (L N : Nat) (k : Bool → Option R) : Option R :=
  k true
def f62.p0_e0 {R : Type} (L N : Nat) (k : Bool → Option R) : Option R :=
  f62.p0_e0' L N k
def f62.p0_r' {R : Type} (L N : Nat) (k : Bool → Option R) (z4 : Bool) : Option R :=
  k z4
def f62.p0_r {R : Type} (L N : Nat) (k : Bool → Option R) (z4 : Bool) : Option R :=
  f62.p0_r' L N k z4
def f62.b' {R : Type} (L N : Nat) (k : Bool → Option R) (w0 : LM → LM → Int → Option R) (x0 : LM) (x1 : LM) : Option R :=
  bif ((x0.length : Int) != (x1.length : Int)) then
    k false
  else w0 x0 x1 (0 : Int)
def f62.b {R : Type} (L N : Nat) (k : Bool → Option R) (x0 : LM) (x1 : LM) : Option R :=
  f62.b' L N k (fun s0 s1 s2 => f62.l0 L N (f62.p0_e0 L N k) (fun z4 => f62.p0_r L N k z4) L s0 s1 s2) x0 x1
def f62 (L N : Nat) (x0 : LM) (x1 : LM) : Option (Bool) := f62.b L N some x0 x1
def f62.ent (L N : Nat) := entRo [(.sl (.st 0)), (.sl (.st 0))] (.one .bool) fun d => f62 L N d.1 d.2.1
noncomputable def E62 (L N : Nat) : Env := { P := Tryd.prog, ty := tyOf, Φ := (Φ75 L N), inl := inlT, live := lives, liveX := livesX, L := L, dp := none, prom := promT, heal := healT, ren := renT }
noncomputable def f62.c0 : Code := loopAt 0 (codeOf Tryd.f62)
def f62.X0_e0 {R : Type} (κ : KX R) := κ (.exit 0) f62.T0_e0 f62.H0_e0
def f62.X0_r {R : Type} (κ : KX R) := fun z4 => κ .ret (f62.T0_r z4) (f62.H0_r z4)
def f62.R0 {R : Type} (rec : KT R) := fun s0 s1 s2 => rec (f62.T0 s0 s1 s2) (f62.H0 s0 s1 s2)
theorem f62.s0_eq {R : Type} (L N : Nat) (κ : KX R) (rec : KT R) (s0 : LM) (s1 : LM) (s2 : Int) :
    evRd (E62 L N) (evCallI (E62 L N) 1 2000) 1000 62 27 0 f62.c0 κ rec (f62.T0 s0 s1 s2) (f62.H0 s0 s1 s2)
    = f62.s0 L N (f62.X0_e0 κ) (f62.X0_r κ) (f62.R0 rec) s0 s1 s2 := by kernel_rfl
theorem f62.l0_eq {R : Type} (L N : Nat) (κ : KX R) : ∀ (n : Nat) (s0 : LM) (s1 : LM) (s2 : Int),
    evLp (E62 L N) (evCallI (E62 L N) 1 2000) 1000 62 27 0 f62.c0 κ n (f62.T0 s0 s1 s2) (f62.H0 s0 s1 s2)
    = f62.l0 L N (f62.X0_e0 κ) (f62.X0_r κ) n s0 s1 s2 := by
  intro n
  induction n with
  | zero => intros; rfl
  | succ n ih =>
    intro s0 s1 s2
    rw [evLp_succ, f62.s0_eq]
    delta f62.R0
    simp only [ih]
    rfl
theorem f62.p0_e0_eq {R : Type} (L N : Nat) (κ : AV → Option R) :
    (contAt (E62 L N) (evCallI (E62 L N) 1 2000) 1000 62 27 0 (codeOf Tryd.f62) (finK (E62 L N) 1000 Tryd.f62 (finC (.one .bool) κ))) (.exit 0) f62.T0_e0 f62.H0_e0
    = f62.p0_e0 L N (fun a0 => κ (.tv .bool a0)) := by kernel_rfl
theorem f62.p0_r_eq {R : Type} (L N : Nat) (κ : AV → Option R) (z4 : Bool) :
    (contAt (E62 L N) (evCallI (E62 L N) 1 2000) 1000 62 27 0 (codeOf Tryd.f62) (finK (E62 L N) 1000 Tryd.f62 (finC (.one .bool) κ))) .ret (f62.T0_r z4) (f62.H0_r z4)
    = f62.p0_r L N (fun a0 => κ (.tv .bool a0)) z4 := by kernel_rfl
theorem f62.b_eq {R : Type} (L N : Nat) (κ : AV → Option R) (x0 : LM) (x1 : LM) :
    evBody (E62 L N) (evCallI (E62 L N) 1 2000) 1000 62 Tryd.f62 [(.tv (.sl (.st 0)) x0), (.tv (.sl (.st 0)) x1)] [] [] (finC (.one .bool) κ)
    = f62.b L N (fun a0 => κ (.tv .bool a0)) x0 x1 := by
  refine Eq.trans (b := f62.b' L N (fun a0 => κ (.tv .bool a0)) (fun s0 s1 s2 => evLp (E62 L N) (evCallI (E62 L N) 1 2000) 1000 62 27 0 f62.c0 (contAt (E62 L N) (evCallI (E62 L N) 1 2000) 1000 62 27 0 (codeOf Tryd.f62) (finK (E62 L N) 1000 Tryd.f62 (finC (.one .bool) κ))) L (f62.T0 s0 s1 s2) (f62.H0 s0 s1 s2)) x0 x1) (by kernel_rfl) ?_
  unfold f62.b
  simp only [f62.l0_eq]
  delta f62.X0_e0 f62.X0_r
  simp only [f62.p0_e0_eq, f62.p0_r_eq]
theorem f62.ok (L N : Nat) (hΦ : TellsOk Tryd.prog ((Φ75 L N))) : EntOk Tryd.prog 62 (f62.ent L N) := entRo_ok (E := (E62 L N)) (dep := 1000) (f := Tryd.f62) (sound_of hΦ) okP (callI_sound (sound_of hΦ) okP 1 2000) rfl rfl fun d _ hy => (f62.b_eq L N (unR (.one .bool)) d.1 d.2.1).trans (Eq.trans (b := f62.b L N some d.1 d.2.1) (by kernel_rfl) hy)
def Φ62 (L N : Nat) : Tells := (addT (Φ75 L N) 62 (f62.ent L N))
theorem Φ62_ok (L N : Nat) : TellsOk Tryd.prog (Φ62 L N) := addT_ok (Φ75_ok L N) (f62.ok L N (Φ75_ok L N))
def f31.s0' {R : Type} (L N : Nat) (k0_e0 : Option R) (k0_r : Bool → Option R) (rec0 : LLM → LLM → Int → Option R) (s0 : LLM) (s1 : LLM) (s2 : Int) : Option R :=
  bif (decide (s2 < (s0.length : Int))) then
    bif (decide (0 ≤ s2) && decide (s2 < (s0.length : Int))) then
      bif (decide (0 ≤ s2) && decide (s2 < (s1.length : Int))) then
        (f62 L N (listAt s0 [] s2.toNat) (listAt s1 [] s2.toNat)).bind fun y3 =>
        bif (!y3) then
          k0_r false
        else rec0 s0 s1 (wi (s2 + (1 : Int)))
      else none
    else none
  else k0_e0
def f31.s0 {R : Type} (L N : Nat) (k0_e0 : Option R) (k0_r : Bool → Option R) (rec0 : LLM → LLM → Int → Option R) (s0 : LLM) (s1 : LLM) (s2 : Int) : Option R :=
  f31.s0' L N k0_e0 k0_r rec0 s0 s1 s2
def f31.l0 {R : Type} (L N : Nat) (k0_e0 : Option R) (k0_r : Bool → Option R) : Nat → LLM → LLM → Int → Option R
  | 0, _, _, _ => none
  | n + 1, s0, s1, s2 => f31.s0 L N k0_e0 k0_r (f31.l0 L N k0_e0 k0_r n) s0 s1 s2
def f31.T0 (s0 : LLM) (s1 : LLM) (s2 : Int) : T := mkT 27 [(0, (.tv (.sl (.sl (.st 0))) s0)), (1, (.tv (.sl (.sl (.st 0))) s1)), (5, (.tv i64 s2))]
def f31.H0 (s0 : LLM) (s1 : LLM) (s2 : Int) : H := []
def f31.T0_e0 : T := mkT 27 []
def f31.H0_e0 : H := []
def f31.T0_r (z4 : Bool) : T := mkT 27 [(4, (.tv .bool z4))]
def f31.H0_r (z4 : Bool) : H := []
def f31.p0_e0' {R : Type} (L N : Nat) (k : Bool → Option R) : Option R :=
  k true
def f31.p0_e0 {R : Type} (L N : Nat) (k : Bool → Option R) : Option R :=
  f31.p0_e0' L N k
def f31.p0_r' {R : Type} (L N : Nat) (k : Bool → Option R) (z4 : Bool) : Option R :=
  k z4
def f31.p0_r {R : Type} (L N : Nat) (k : Bool → Option R) (z4 : Bool) : Option R :=
  f31.p0_r' L N k z4
def f31.b' {R : Type} (L N : Nat) (k : Bool → Option R) (w0 : LLM → LLM → Int → Option R) (x0 : LLM) (x1 : LLM) : Option R :=
  bif ((x0.length : Int) != (x1.length : Int)) then
    k false
  else w0 x0 x1 (0 : Int)
def f31.b {R : Type} (L N : Nat) (k : Bool → Option R) (x0 : LLM) (x1 : LLM) : Option R :=
  f31.b' L N k (fun s0 s1 s2 => f31.l0 L N (f31.p0_e0 L N k) (fun z4 => f31.p0_r L N k z4) L s0 s1 s2) x0 x1
def f31 (L N : Nat) (x0 : LLM) (x1 : LLM) : Option (Bool) := f31.b L N some x0 x1
def f31.ent (L N : Nat) := entRo [(.sl (.sl (.st 0))), (.sl (.sl (.st 0)))] (.one .bool) fun d => f31 L N d.1 d.2.1
noncomputable def E31 (L N : Nat) : Env := { P := Tryd.prog, ty := tyOf, Φ := (Φ62 L N), inl := inlT, live := lives, liveX := livesX, L := L, dp := none, prom := promT, heal := healT, ren := renT }
noncomputable def f31.c0 : Code := loopAt 0 (codeOf Tryd.f31)
def f31.X0_e0 {R : Type} (κ : KX R) := κ (.exit 0) f31.T0_e0 f31.H0_e0
def f31.X0_r {R : Type} (κ : KX R) := fun z4 => κ .ret (f31.T0_r z4) (f31.H0_r z4)
def f31.R0 {R : Type} (rec : KT R) := fun s0 s1 s2 => rec (f31.T0 s0 s1 s2) (f31.H0 s0 s1 s2)
theorem f31.s0_eq {R : Type} (L N : Nat) (κ : KX R) (rec : KT R) (s0 : LLM) (s1 : LLM) (s2 : Int) :
    evRd (E31 L N) (evCallI (E31 L N) 1 2000) 1000 31 27 0 f31.c0 κ rec (f31.T0 s0 s1 s2) (f31.H0 s0 s1 s2)
    = f31.s0 L N (f31.X0_e0 κ) (f31.X0_r κ) (f31.R0 rec) s0 s1 s2 := by kernel_rfl
theorem f31.l0_eq {R : Type} (L N : Nat) (κ : KX R) : ∀ (n : Nat) (s0 : LLM) (s1 : LLM) (s2 : Int),
    evLp (E31 L N) (evCallI (E31 L N) 1 2000) 1000 31 27 0 f31.c0 κ n (f31.T0 s0 s1 s2) (f31.H0 s0 s1 s2)
    = f31.l0 L N (f31.X0_e0 κ) (f31.X0_r κ) n s0 s1 s2 := by
  intro n
  induction n with
  | zero => intros; rfl
  | succ n ih =>
    intro s0 s1 s2
    rw [evLp_succ, f31.s0_eq]
    delta f31.R0
    simp only [ih]
    rfl
theorem f31.p0_e0_eq {R : Type} (L N : Nat) (κ : AV → Option R) :
    (contAt (E31 L N) (evCallI (E31 L N) 1 2000) 1000 31 27 0 (codeOf Tryd.f31) (finK (E31 L N) 1000 Tryd.f31 (finC (.one .bool) κ))) (.exit 0) f31.T0_e0 f31.H0_e0
    = f31.p0_e0 L N (fun a0 => κ (.tv .bool a0)) := by kernel_rfl
theorem f31.p0_r_eq {R : Type} (L N : Nat) (κ : AV → Option R) (z4 : Bool) :
    (contAt (E31 L N) (evCallI (E31 L N) 1 2000) 1000 31 27 0 (codeOf Tryd.f31) (finK (E31 L N) 1000 Tryd.f31 (finC (.one .bool) κ))) .ret (f31.T0_r z4) (f31.H0_r z4)
    = f31.p0_r L N (fun a0 => κ (.tv .bool a0)) z4 := by kernel_rfl
theorem f31.b_eq {R : Type} (L N : Nat) (κ : AV → Option R) (x0 : LLM) (x1 : LLM) :
    evBody (E31 L N) (evCallI (E31 L N) 1 2000) 1000 31 Tryd.f31 [(.tv (.sl (.sl (.st 0))) x0), (.tv (.sl (.sl (.st 0))) x1)] [] [] (finC (.one .bool) κ)
    = f31.b L N (fun a0 => κ (.tv .bool a0)) x0 x1 := by
  refine Eq.trans (b := f31.b' L N (fun a0 => κ (.tv .bool a0)) (fun s0 s1 s2 => evLp (E31 L N) (evCallI (E31 L N) 1 2000) 1000 31 27 0 f31.c0 (contAt (E31 L N) (evCallI (E31 L N) 1 2000) 1000 31 27 0 (codeOf Tryd.f31) (finK (E31 L N) 1000 Tryd.f31 (finC (.one .bool) κ))) L (f31.T0 s0 s1 s2) (f31.H0 s0 s1 s2)) x0 x1) (by kernel_rfl) ?_
  unfold f31.b
  simp only [f31.l0_eq]
  delta f31.X0_e0 f31.X0_r
  simp only [f31.p0_e0_eq, f31.p0_r_eq]
theorem f31.ok (L N : Nat) (hΦ : TellsOk Tryd.prog ((Φ62 L N))) : EntOk Tryd.prog 31 (f31.ent L N) := entRo_ok (E := (E31 L N)) (dep := 1000) (f := Tryd.f31) (sound_of hΦ) okP (callI_sound (sound_of hΦ) okP 1 2000) rfl rfl fun d _ hy => (f31.b_eq L N (unR (.one .bool)) d.1 d.2.1).trans (Eq.trans (b := f31.b L N some d.1 d.2.1) (by kernel_rfl) hy)
def Φ31 (L N : Nat) : Tells := (addT (Φ62 L N) 31 (f31.ent L N))
theorem Φ31_ok (L N : Nat) : TellsOk Tryd.prog (Φ31 L N) := addT_ok (Φ62_ok L N) (f31.ok L N (Φ62_ok L N))
def f9.b' {R : Type} (L N : Nat) (k : Bool → Option R) (x0 : Graph) (x1 : Graph) : Option R :=
  (f31 L N x0.moves x1.moves).bind fun y0 =>
  bif (!y0) then
    k false
  else k true
def f9.b {R : Type} (L N : Nat) (k : Bool → Option R) (x0 : Graph) (x1 : Graph) : Option R :=
  f9.b' L N k x0 x1
def f9 (L N : Nat) (x0 : Graph) (x1 : Graph) : Option (Bool) := f9.b L N some x0 x1
def f9.ent (L N : Nat) := entRo [(.st 2), (.st 2)] (.one .bool) fun d => f9 L N d.1 d.2.1
noncomputable def E9 (L N : Nat) : Env := { P := Tryd.prog, ty := tyOf, Φ := (Φ31 L N), inl := inlT, live := lives, liveX := livesX, L := L, dp := none, prom := promT, heal := healT, ren := renT }
theorem f9.b_eq {R : Type} (L N : Nat) (κ : AV → Option R) (x0 : Graph) (x1 : Graph) :
    evBody (E9 L N) (evCallI (E9 L N) 1 2000) 1000 9 Tryd.f9 [(.tv (.st 2) x0), (.tv (.st 2) x1)] [] [] (finC (.one .bool) κ)
    = f9.b L N (fun a0 => κ (.tv .bool a0)) x0 x1 := by kernel_rfl
theorem f9.ok (L N : Nat) (hΦ : TellsOk Tryd.prog ((Φ31 L N))) : EntOk Tryd.prog 9 (f9.ent L N) := entRo_ok (E := (E9 L N)) (dep := 1000) (f := Tryd.f9) (sound_of hΦ) okP (callI_sound (sound_of hΦ) okP 1 2000) rfl rfl fun d _ hy => (f9.b_eq L N (unR (.one .bool)) d.1 d.2.1).trans (Eq.trans (b := f9.b L N some d.1 d.2.1) (by kernel_rfl) hy)
def Φ9 (L N : Nat) : Tells := (addT (Φ31 L N) 9 (f9.ent L N))
theorem Φ9_ok (L N : Nat) : TellsOk Tryd.prog (Φ9 L N) := addT_ok (Φ31_ok L N) (f9.ok L N (Φ31_ok L N))
def f40.b' {R : Type} (L N : Nat) (k : Bool → Option R) (x0 : Int) (x1 : Int) (x2 : Int) : Option R :=
  bif (decide (x0 ≥ x1)) then
    k (decide (x0 ≤ x2))
  else k false
def f40.b {R : Type} (L N : Nat) (k : Bool → Option R) (x0 : Int) (x1 : Int) (x2 : Int) : Option R :=
  f40.b' L N k x0 x1 x2
def f40 (L N : Nat) (x0 : Int) (x1 : Int) (x2 : Int) : Option (Bool) := f40.b L N some x0 x1 x2
def f40.ent (L N : Nat) := entRo [i64, i64, i64] (.one .bool) fun d => f40 L N d.1 d.2.1 d.2.2.1
noncomputable def E40 (L N : Nat) : Env := { P := Tryd.prog, ty := tyOf, Φ := (Φ9 L N), inl := inlT, live := lives, liveX := livesX, L := L, dp := none, prom := promT, heal := healT, ren := renT }
theorem f40.b_eq {R : Type} (L N : Nat) (κ : AV → Option R) (x0 : Int) (x1 : Int) (x2 : Int) :
    evBody (E40 L N) (evCallI (E40 L N) 1 2000) 1000 40 Tryd.f40 [(.tv i64 x0), (.tv i64 x1), (.tv i64 x2)] [] [] (finC (.one .bool) κ)
    = f40.b L N (fun a0 => κ (.tv .bool a0)) x0 x1 x2 := by kernel_rfl
theorem f40.ok (L N : Nat) (hΦ : TellsOk Tryd.prog ((Φ9 L N))) : EntOk Tryd.prog 40 (f40.ent L N) := entRo_ok (E := (E40 L N)) (dep := 1000) (f := Tryd.f40) (sound_of hΦ) okP (callI_sound (sound_of hΦ) okP 1 2000) rfl rfl fun d _ hy => (f40.b_eq L N (unR (.one .bool)) d.1 d.2.1 d.2.2.1).trans (Eq.trans (b := f40.b L N some d.1 d.2.1 d.2.2.1) (by kernel_rfl) hy)
def Φ40 (L N : Nat) : Tells := (addT (Φ9 L N) 40 (f40.ent L N))
theorem Φ40_ok (L N : Nat) : TellsOk Tryd.prog (Φ40 L N) := addT_ok (Φ9_ok L N) (f40.ok L N (Φ9_ok L N))
def f41.b' {R : Type} (L N : Nat) (k : Bool → Option R) (x0 : Int) : Option R :=
  (f40 L N x0 (-4 : Int) (4 : Int)).bind fun y0 =>
  k y0
def f41.b {R : Type} (L N : Nat) (k : Bool → Option R) (x0 : Int) : Option R :=
  f41.b' L N k x0
def f41 (L N : Nat) (x0 : Int) : Option (Bool) := f41.b L N some x0
def f41.ent (L N : Nat) := entRo [i64] (.one .bool) fun d => f41 L N d.1
noncomputable def E41 (L N : Nat) : Env := { P := Tryd.prog, ty := tyOf, Φ := (Φ40 L N), inl := inlT, live := lives, liveX := livesX, L := L, dp := none, prom := promT, heal := healT, ren := renT }
theorem f41.b_eq {R : Type} (L N : Nat) (κ : AV → Option R) (x0 : Int) :
    evBody (E41 L N) (evCallI (E41 L N) 1 2000) 1000 41 Tryd.f41 [(.tv i64 x0)] [] [] (finC (.one .bool) κ)
    = f41.b L N (fun a0 => κ (.tv .bool a0)) x0 := by kernel_rfl
theorem f41.ok (L N : Nat) (hΦ : TellsOk Tryd.prog ((Φ40 L N))) : EntOk Tryd.prog 41 (f41.ent L N) := entRo_ok (E := (E41 L N)) (dep := 1000) (f := Tryd.f41) (sound_of hΦ) okP (callI_sound (sound_of hΦ) okP 1 2000) rfl rfl fun d _ hy => (f41.b_eq L N (unR (.one .bool)) d.1).trans (Eq.trans (b := f41.b L N some d.1) (by kernel_rfl) hy)
def Φ41 (L N : Nat) : Tells := (addT (Φ40 L N) 41 (f41.ent L N))
theorem Φ41_ok (L N : Nat) : TellsOk Tryd.prog (Φ41 L N) := addT_ok (Φ40_ok L N) (f41.ok L N (Φ40_ok L N))
def f42.b' {R : Type} (L N : Nat) (k : Bool → Option R) (x0 : Move) (x1 : Move) : Option R :=
  bif (decide (x0.act < x1.act)) then
    k true
  else bif (x0.act == x1.act) then
    k (decide (x0.to < x1.to))
  else k false
def f42.b {R : Type} (L N : Nat) (k : Bool → Option R) (x0 : Move) (x1 : Move) : Option R :=
  f42.b' L N k x0 x1
def f42 (L N : Nat) (x0 : Move) (x1 : Move) : Option (Bool) := f42.b L N some x0 x1
def f42.ent (L N : Nat) := entRo [(.st 0), (.st 0)] (.one .bool) fun d => f42 L N d.1 d.2.1
noncomputable def E42 (L N : Nat) : Env := { P := Tryd.prog, ty := tyOf, Φ := (Φ41 L N), inl := inlT, live := lives, liveX := livesX, L := L, dp := none, prom := promT, heal := healT, ren := renT }
theorem f42.b_eq {R : Type} (L N : Nat) (κ : AV → Option R) (x0 : Move) (x1 : Move) :
    evBody (E42 L N) (evCallI (E42 L N) 1 2000) 1000 42 Tryd.f42 [(.tv (.st 0) x0), (.tv (.st 0) x1)] [] [] (finC (.one .bool) κ)
    = f42.b L N (fun a0 => κ (.tv .bool a0)) x0 x1 := by kernel_rfl
theorem f42.ok (L N : Nat) (hΦ : TellsOk Tryd.prog ((Φ41 L N))) : EntOk Tryd.prog 42 (f42.ent L N) := entRo_ok (E := (E42 L N)) (dep := 1000) (f := Tryd.f42) (sound_of hΦ) okP (callI_sound (sound_of hΦ) okP 1 2000) rfl rfl fun d _ hy => (f42.b_eq L N (unR (.one .bool)) d.1 d.2.1).trans (Eq.trans (b := f42.b L N some d.1 d.2.1) (by kernel_rfl) hy)
def Φ42 (L N : Nat) : Tells := (addT (Φ41 L N) 42 (f42.ent L N))
theorem Φ42_ok (L N : Nat) : TellsOk Tryd.prog (Φ42 L N) := addT_ok (Φ41_ok L N) (f42.ok L N (Φ41_ok L N))
def f15.s1' {R : Type} (L N : Nat) (k1_e2 : Int → LLM → Option R) (k1_r : Bool → Int → LLM → Option R) (rec1 : Int → Int → LLM → Option R) (s3 : Int) (s4 : Int) (s5 : LLM) : Option R :=
  bif (decide (0 ≤ s3) && decide (s3 < (s5.length : Int))) then
    bif (decide (s4 < ((listAt s5 [] s3.toNat).length : Int))) then
      bif (decide (0 ≤ s3) && decide (s3 < (s5.length : Int))) then
        bif (decide (0 ≤ s4) && decide (s4 < ((listAt s5 [] s3.toNat).length : Int))) then
          (f41 L N ((listAt (listAt s5 [] s3.toNat) (Ty.dflt (.st 0)) s4.toNat).act)).bind fun y8 =>
          bif (!y8) then
            k1_r false s3 s5
          else (f40 L N ((listAt (listAt s5 [] s3.toNat) (Ty.dflt (.st 0)) s4.toNat).to) (0 : Int) (wi ((s5.length : Int) - (1 : Int)))).bind fun y9 =>
          bif (!y9) then
            k1_r false s3 s5
          else bif (decide (s4 > (0 : Int))) then
            bif (decide (0 ≤ s3) && decide (s3 < (s5.length : Int))) then
              bif (decide (0 ≤ (wi (s4 - (1 : Int)))) && decide ((wi (s4 - (1 : Int))) < ((listAt s5 [] s3.toNat).length : Int))) then
                (f42 L N (listAt (listAt s5 [] s3.toNat) (Ty.dflt (.st 0)) (wi (s4 - (1 : Int))).toNat) (Move.mk ((listAt (listAt s5 [] s3.toNat) (Ty.dflt (.st 0)) s4.toNat).act) ((listAt (listAt s5 [] s3.toNat) (Ty.dflt (.st 0)) s4.toNat).to))).bind fun y10 =>
                bif (!y10) then
                  k1_r false s3 s5
                else rec1 s3 (wi (s4 + (1 : Int))) s5
              else none
            else none
          else rec1 s3 (wi (s4 + (1 : Int))) s5
        else none
      else none
    else k1_e2 s3 s5
  else none
def f15.s1 {R : Type} (L N : Nat) (k1_e2 : Int → LLM → Option R) (k1_r : Bool → Int → LLM → Option R) (rec1 : Int → Int → LLM → Option R) (s3 : Int) (s4 : Int) (s5 : LLM) : Option R :=
  f15.s1' L N k1_e2 k1_r rec1 s3 s4 s5
def f15.l1 {R : Type} (L N : Nat) (k1_e2 : Int → LLM → Option R) (k1_r : Bool → Int → LLM → Option R) : Nat → Int → Int → LLM → Option R
  | 0, _, _, _ => none
  | n + 1, s3, s4, s5 => f15.s1 L N k1_e2 k1_r (f15.l1 L N k1_e2 k1_r n) s3 s4 s5
def f15.T1 (s3 : Int) (s4 : Int) (s5 : LLM) : T := mkT 68 [(1, (.ptr 1001 0)), (3, (.tv i64 s3)), (4, (.tv i64 s4))]
def f15.H1 (s3 : Int) (s4 : Int) (s5 : LLM) : H := [(1001, (.box [(.tv (.sl (.sl (.st 0))) s5)]))]
def f15.T1_e2 (z6 : Int) (z7 : LLM) : T := mkT 68 [(1, (.ptr 1001 0)), (3, (.tv i64 z6))]
def f15.H1_e2 (z6 : Int) (z7 : LLM) : H := [(1001, (.box [(.tv (.sl (.sl (.st 0))) z7)]))]
def f15.T1_r (z15 : Bool) (z16 : Int) (z17 : LLM) : T := mkT 68 [(1, (.ptr 1001 0)), (2, (.tv .bool z15)), (3, (.tv i64 z16))]
def f15.H1_r (z15 : Bool) (z16 : Int) (z17 : LLM) : H := [(1001, (.box [(.tv (.sl (.sl (.st 0))) z17)]))]
def f15.p1_e2' {R : Type} (L N : Nat) (k0_e0 : Option R) (k0_r : Bool → Option R) (rec0 : Int → LLM → Option R) (z6 : Int) (z7 : LLM) : Option R :=
  rec0 (wi (z6 + (1 : Int))) z7
def f15.p1_e2 {R : Type} (L N : Nat) (k0_e0 : Option R) (k0_r : Bool → Option R) (rec0 : Int → LLM → Option R) (z6 : Int) (z7 : LLM) : Option R :=
  f15.p1_e2' L N k0_e0 k0_r rec0 z6 z7
def f15.p1_r' {R : Type} (L N : Nat) (k0_e0 : Option R) (k0_r : Bool → Option R) (rec0 : Int → LLM → Option R) (z15 : Bool) (z16 : Int) (z17 : LLM) : Option R :=
  k0_r z15
def f15.p1_r {R : Type} (L N : Nat) (k0_e0 : Option R) (k0_r : Bool → Option R) (rec0 : Int → LLM → Option R) (z15 : Bool) (z16 : Int) (z17 : LLM) : Option R :=
  f15.p1_r' L N k0_e0 k0_r rec0 z15 z16 z17
def f15.s0' {R : Type} (L N : Nat) (k0_e0 : Option R) (k0_r : Bool → Option R) (rec0 : Int → LLM → Option R) (w1 : Int → Int → LLM → Option R) (s1 : Int) (s2 : LLM) : Option R :=
  bif (decide (s1 < (s2.length : Int))) then
    w1 s1 (0 : Int) s2
  else k0_e0
def f15.s0 {R : Type} (L N : Nat) (k0_e0 : Option R) (k0_r : Bool → Option R) (rec0 : Int → LLM → Option R) (s1 : Int) (s2 : LLM) : Option R :=
  f15.s0' L N k0_e0 k0_r rec0 (fun s3 s4 s5 => f15.l1 L N (fun z6 z7 => f15.p1_e2 L N k0_e0 k0_r rec0 z6 z7) (fun z15 z16 z17 => f15.p1_r L N k0_e0 k0_r rec0 z15 z16 z17) L s3 s4 s5) s1 s2
def f15.l0 {R : Type} (L N : Nat) (k0_e0 : Option R) (k0_r : Bool → Option R) : Nat → Int → LLM → Option R
  | 0, _, _ => none
  | n + 1, s1, s2 => f15.s0 L N k0_e0 k0_r (f15.l0 L N k0_e0 k0_r n) s1 s2
def f15.T0 (s1 : Int) (s2 : LLM) : T := mkT 68 [(1, (.ptr 1001 0)), (3, (.tv i64 s1))]
def f15.H0 (s1 : Int) (s2 : LLM) : H := [(1001, (.box [(.tv (.sl (.sl (.st 0))) s2)]))]
def f15.T0_e0 : T := mkT 68 []
def f15.H0_e0 : H := []
def f15.T0_r (z21 : Bool) : T := mkT 68 [(2, (.tv .bool z21))]
def f15.H0_r (z21 : Bool) : H := []
def f15.p0_e0' {R : Type} (L N : Nat) (k : Bool → Option R) : Option R :=
  k true
def f15.p0_e0 {R : Type} (L N : Nat) (k : Bool → Option R) : Option R :=
  f15.p0_e0' L N k
def f15.p0_r' {R : Type} (L N : Nat) (k : Bool → Option R) (z21 : Bool) : Option R :=
  k z21
def f15.p0_r {R : Type} (L N : Nat) (k : Bool → Option R) (z21 : Bool) : Option R :=
  f15.p0_r' L N k z21
def f15.b' {R : Type} (L N : Nat) (k : Bool → Option R) (w0 : Int → LLM → Option R) (x0 : Graph) : Option R :=
  (f40 L N (x0.moves.length : Int) (1 : Int) (60 : Int)).bind fun y0 =>
  bif (!y0) then
    k false
  else w0 (0 : Int) x0.moves
def f15.b {R : Type} (L N : Nat) (k : Bool → Option R) (x0 : Graph) : Option R :=
  f15.b' L N k (fun s1 s2 => f15.l0 L N (f15.p0_e0 L N k) (fun z21 => f15.p0_r L N k z21) L s1 s2) x0
def f15 (L N : Nat) (x0 : Graph) : Option (Bool) := f15.b L N some x0
def f15.ent (L N : Nat) := entRo [(.st 2)] (.one .bool) fun d => f15 L N d.1
noncomputable def E15 (L N : Nat) : Env := { P := Tryd.prog, ty := tyOf, Φ := (Φ42 L N), inl := inlT, live := lives, liveX := livesX, L := L, dp := none, prom := promT, heal := healT, ren := renT }
noncomputable def f15.c0 : Code := loopAt 0 (codeOf Tryd.f15)
noncomputable def f15.c1 : Code := loopAt 2 f15.c0
def f15.X1_e2 {R : Type} (κ : KX R) := fun z6 z7 => κ (.exit 2) (f15.T1_e2 z6 z7) (f15.H1_e2 z6 z7)
def f15.X1_r {R : Type} (κ : KX R) := fun z15 z16 z17 => κ .ret (f15.T1_r z15 z16 z17) (f15.H1_r z15 z16 z17)
def f15.R1 {R : Type} (rec : KT R) := fun s3 s4 s5 => rec (f15.T1 s3 s4 s5) (f15.H1 s3 s4 s5)
theorem f15.s1_eq {R : Type} (L N : Nat) (κ : KX R) (rec : KT R) (s3 : Int) (s4 : Int) (s5 : LLM) :
    evRd (E15 L N) (evCallI (E15 L N) 1 2000) 1000 15 68 2 f15.c1 κ rec (f15.T1 s3 s4 s5) (f15.H1 s3 s4 s5)
    = f15.s1 L N (f15.X1_e2 κ) (f15.X1_r κ) (f15.R1 rec) s3 s4 s5 := by kernel_rfl
theorem f15.l1_eq {R : Type} (L N : Nat) (κ : KX R) : ∀ (n : Nat) (s3 : Int) (s4 : Int) (s5 : LLM),
    evLp (E15 L N) (evCallI (E15 L N) 1 2000) 1000 15 68 2 f15.c1 κ n (f15.T1 s3 s4 s5) (f15.H1 s3 s4 s5)
    = f15.l1 L N (f15.X1_e2 κ) (f15.X1_r κ) n s3 s4 s5 := by
  intro n
  induction n with
  | zero => intros; rfl
  | succ n ih =>
    intro s3 s4 s5
    rw [evLp_succ, f15.s1_eq]
    delta f15.R1
    simp only [ih]
    rfl
def f15.X0_e0 {R : Type} (κ : KX R) := κ (.exit 0) f15.T0_e0 f15.H0_e0
def f15.X0_r {R : Type} (κ : KX R) := fun z21 => κ .ret (f15.T0_r z21) (f15.H0_r z21)
def f15.R0 {R : Type} (rec : KT R) := fun s1 s2 => rec (f15.T0 s1 s2) (f15.H0 s1 s2)
theorem f15.p1_e2_eq {R : Type} (L N : Nat) (κ : KX R) (rec : KT R) (z6 : Int) (z7 : LLM) :
    (contAt (E15 L N) (evCallI (E15 L N) 1 2000) 1000 15 68 2 f15.c0 (rdK (E15 L N) 1000 15 68 0 κ rec)) (.exit 2) (f15.T1_e2 z6 z7) (f15.H1_e2 z6 z7)
    = f15.p1_e2 L N (f15.X0_e0 κ) (f15.X0_r κ) (f15.R0 rec) z6 z7 := by kernel_rfl
theorem f15.p1_r_eq {R : Type} (L N : Nat) (κ : KX R) (rec : KT R) (z15 : Bool) (z16 : Int) (z17 : LLM) :
    (contAt (E15 L N) (evCallI (E15 L N) 1 2000) 1000 15 68 2 f15.c0 (rdK (E15 L N) 1000 15 68 0 κ rec)) .ret (f15.T1_r z15 z16 z17) (f15.H1_r z15 z16 z17)
    = f15.p1_r L N (f15.X0_e0 κ) (f15.X0_r κ) (f15.R0 rec) z15 z16 z17 := by kernel_rfl
theorem f15.s0_eq {R : Type} (L N : Nat) (κ : KX R) (rec : KT R) (s1 : Int) (s2 : LLM) :
    evRd (E15 L N) (evCallI (E15 L N) 1 2000) 1000 15 68 0 f15.c0 κ rec (f15.T0 s1 s2) (f15.H0 s1 s2)
    = f15.s0 L N (f15.X0_e0 κ) (f15.X0_r κ) (f15.R0 rec) s1 s2 := by
  refine Eq.trans (b := f15.s0' L N (f15.X0_e0 κ) (f15.X0_r κ) (f15.R0 rec) (fun s3 s4 s5 => evLp (E15 L N) (evCallI (E15 L N) 1 2000) 1000 15 68 2 f15.c1 (contAt (E15 L N) (evCallI (E15 L N) 1 2000) 1000 15 68 2 f15.c0 (rdK (E15 L N) 1000 15 68 0 κ rec)) L (f15.T1 s3 s4 s5) (f15.H1 s3 s4 s5)) s1 s2) (by kernel_rfl) ?_
  unfold f15.s0
  simp only [f15.l1_eq]
  delta f15.X1_e2 f15.X1_r
  simp only [f15.p1_e2_eq, f15.p1_r_eq]
theorem f15.l0_eq {R : Type} (L N : Nat) (κ : KX R) : ∀ (n : Nat) (s1 : Int) (s2 : LLM),
    evLp (E15 L N) (evCallI (E15 L N) 1 2000) 1000 15 68 0 f15.c0 κ n (f15.T0 s1 s2) (f15.H0 s1 s2)
    = f15.l0 L N (f15.X0_e0 κ) (f15.X0_r κ) n s1 s2 := by
  intro n
  induction n with
  | zero => intros; rfl
  | succ n ih =>
    intro s1 s2
    rw [evLp_succ, f15.s0_eq]
    delta f15.R0
    simp only [ih]
    rfl
theorem f15.p0_e0_eq {R : Type} (L N : Nat) (κ : AV → Option R) :
    (contAt (E15 L N) (evCallI (E15 L N) 1 2000) 1000 15 68 0 (codeOf Tryd.f15) (finK (E15 L N) 1000 Tryd.f15 (finC (.one .bool) κ))) (.exit 0) f15.T0_e0 f15.H0_e0
    = f15.p0_e0 L N (fun a0 => κ (.tv .bool a0)) := by kernel_rfl
theorem f15.p0_r_eq {R : Type} (L N : Nat) (κ : AV → Option R) (z21 : Bool) :
    (contAt (E15 L N) (evCallI (E15 L N) 1 2000) 1000 15 68 0 (codeOf Tryd.f15) (finK (E15 L N) 1000 Tryd.f15 (finC (.one .bool) κ))) .ret (f15.T0_r z21) (f15.H0_r z21)
    = f15.p0_r L N (fun a0 => κ (.tv .bool a0)) z21 := by kernel_rfl
theorem f15.b_eq {R : Type} (L N : Nat) (κ : AV → Option R) (x0 : Graph) :
    evBody (E15 L N) (evCallI (E15 L N) 1 2000) 1000 15 Tryd.f15 [(.tv (.st 2) x0)] [] [] (finC (.one .bool) κ)
    = f15.b L N (fun a0 => κ (.tv .bool a0)) x0 := by
  refine Eq.trans (b := f15.b' L N (fun a0 => κ (.tv .bool a0)) (fun s1 s2 => evLp (E15 L N) (evCallI (E15 L N) 1 2000) 1000 15 68 0 f15.c0 (contAt (E15 L N) (evCallI (E15 L N) 1 2000) 1000 15 68 0 (codeOf Tryd.f15) (finK (E15 L N) 1000 Tryd.f15 (finC (.one .bool) κ))) L (f15.T0 s1 s2) (f15.H0 s1 s2)) x0) (by kernel_rfl) ?_
  unfold f15.b
  simp only [f15.l0_eq]
  delta f15.X0_e0 f15.X0_r
  simp only [f15.p0_e0_eq, f15.p0_r_eq]
theorem f15.ok (L N : Nat) (hΦ : TellsOk Tryd.prog ((Φ42 L N))) : EntOk Tryd.prog 15 (f15.ent L N) := entRo_ok (E := (E15 L N)) (dep := 1000) (f := Tryd.f15) (sound_of hΦ) okP (callI_sound (sound_of hΦ) okP 1 2000) rfl rfl fun d _ hy => (f15.b_eq L N (unR (.one .bool)) d.1).trans (Eq.trans (b := f15.b L N some d.1) (by kernel_rfl) hy)
def Φ15 (L N : Nat) : Tells := (addT (Φ42 L N) 15 (f15.ent L N))
theorem Φ15_ok (L N : Nat) : TellsOk Tryd.prog (Φ15 L N) := addT_ok (Φ42_ok L N) (f15.ok L N (Φ42_ok L N))
def f45.j0' {R : Type} (L N : Nat) (k2_e4 : Bool → Int → LLM → LB → Option R) (rec2 : Bool → Int → Int → LLM → LB → Option R) (v20 : Bool) (v21 : Int) (v22 : Int) (v23 : Bool) (v24 : LLM) (v25 : Int) (v26 : Int) (v27 : LB) : Option R :=
  bif v23 then
    bif (decide (0 ≤ v26) && decide (v26 < (v27.length : Int))) then
      rec2 true v21 (wi (v22 + (1 : Int))) v24 (v27.set v26.toNat true)
    else none
  else rec2 v20 v21 (wi (v22 + (1 : Int))) v24 v27
def f45.s2' {R : Type} (L N : Nat) (k2_e4 : Bool → Int → LLM → LB → Option R) (rec2 : Bool → Int → Int → LLM → LB → Option R) (s11 : Bool) (s12 : Int) (s13 : Int) (s14 : LLM) (s15 : LB) : Option R :=
  bif (decide (0 ≤ s12) && decide (s12 < (s14.length : Int))) then
    bif (decide (s13 < ((listAt s14 [] s12.toNat).length : Int))) then
      bif (decide (0 ≤ s12) && decide (s12 < (s14.length : Int))) then
        bif (decide (0 ≤ s13) && decide (s13 < ((listAt s14 [] s12.toNat).length : Int))) then
          bif (decide (0 ≤ s12) && decide (s12 < (s15.length : Int))) then
            bif (listAt s15 false s12.toNat) then
              bif ((listAt (listAt s14 [] s12.toNat) (Ty.dflt (.st 0)) s13.toNat).act == (0 : Int)) then
                bif (decide (0 ≤ (listAt (listAt s14 [] s12.toNat) (Ty.dflt (.st 0)) s13.toNat).to) && decide ((listAt (listAt s14 [] s12.toNat) (Ty.dflt (.st 0)) s13.toNat).to < (s15.length : Int))) then
                  f45.j0' L N k2_e4 rec2 s11 s12 s13 (!(listAt s15 false ((listAt (listAt s14 [] s12.toNat) (Ty.dflt (.st 0)) s13.toNat).to).toNat)) s14 ((listAt (listAt s14 [] s12.toNat) (Ty.dflt (.st 0)) s13.toNat).act) ((listAt (listAt s14 [] s12.toNat) (Ty.dflt (.st 0)) s13.toNat).to) s15
                else none
              else f45.j0' L N k2_e4 rec2 s11 s12 s13 false s14 ((listAt (listAt s14 [] s12.toNat) (Ty.dflt (.st 0)) s13.toNat).act) ((listAt (listAt s14 [] s12.toNat) (Ty.dflt (.st 0)) s13.toNat).to) s15
            else f45.j0' L N k2_e4 rec2 s11 s12 s13 false s14 ((listAt (listAt s14 [] s12.toNat) (Ty.dflt (.st 0)) s13.toNat).act) ((listAt (listAt s14 [] s12.toNat) (Ty.dflt (.st 0)) s13.toNat).to) s15
          else none
        else none
      else none
    else k2_e4 s11 s12 s14 s15
  else none
def f45.s2 {R : Type} (L N : Nat) (k2_e4 : Bool → Int → LLM → LB → Option R) (rec2 : Bool → Int → Int → LLM → LB → Option R) (s11 : Bool) (s12 : Int) (s13 : Int) (s14 : LLM) (s15 : LB) : Option R :=
  f45.s2' L N k2_e4 rec2 s11 s12 s13 s14 s15
def f45.l2 {R : Type} (L N : Nat) (k2_e4 : Bool → Int → LLM → LB → Option R) : Nat → Bool → Int → Int → LLM → LB → Option R
  | 0, _, _, _, _, _ => none
  | n + 1, s11, s12, s13, s14, s15 => f45.s2 L N k2_e4 (f45.l2 L N k2_e4 n) s11 s12 s13 s14 s15
def f45.T2 (s11 : Bool) (s12 : Int) (s13 : Int) (s14 : LLM) (s15 : LB) : T := mkT 60 [(2, (.ptr 1002 0)), (5, (.row 1010)), (6, (.tv .bool s11)), (7, (.tv i64 s12)), (8, (.tv i64 s13))]
def f45.H2 (s11 : Bool) (s12 : Int) (s13 : Int) (s14 : LLM) (s15 : LB) : H := [(1002, (.box [(.tv (.sl (.sl (.st 0))) s14)])), (1010, (.row 4 .bool s15))]
def f45.T2_e4 (z16 : Bool) (z17 : Int) (z18 : LLM) (z19 : LB) : T := mkT 60 [(2, (.ptr 1002 0)), (5, (.row 1010)), (6, (.tv .bool z16)), (7, (.tv i64 z17))]
def f45.H2_e4 (z16 : Bool) (z17 : Int) (z18 : LLM) (z19 : LB) : H := [(1002, (.box [(.tv (.sl (.sl (.st 0))) z18)])), (1010, (.row 4 .bool z19))]
def f45.p2_e4' {R : Type} (L N : Nat) (k1_e2 : Bool → LLM → LB → Option R) (rec1 : Bool → Int → LLM → LB → Option R) (z16 : Bool) (z17 : Int) (z18 : LLM) (z19 : LB) : Option R :=
  rec1 z16 (wi (z17 + (1 : Int))) z18 z19
def f45.p2_e4 {R : Type} (L N : Nat) (k1_e2 : Bool → LLM → LB → Option R) (rec1 : Bool → Int → LLM → LB → Option R) (z16 : Bool) (z17 : Int) (z18 : LLM) (z19 : LB) : Option R :=
  f45.p2_e4' L N k1_e2 rec1 z16 z17 z18 z19
def f45.s1' {R : Type} (L N : Nat) (k1_e2 : Bool → LLM → LB → Option R) (rec1 : Bool → Int → LLM → LB → Option R) (w2 : Bool → Int → Int → LLM → LB → Option R) (s4 : Bool) (s5 : Int) (s6 : LLM) (s7 : LB) : Option R :=
  bif (decide (s5 < (s7.length : Int))) then
    w2 s4 s5 (0 : Int) s6 s7
  else k1_e2 s4 s6 s7
def f45.s1 {R : Type} (L N : Nat) (k1_e2 : Bool → LLM → LB → Option R) (rec1 : Bool → Int → LLM → LB → Option R) (s4 : Bool) (s5 : Int) (s6 : LLM) (s7 : LB) : Option R :=
  f45.s1' L N k1_e2 rec1 (fun s11 s12 s13 s14 s15 => f45.l2 L N (fun z16 z17 z18 z19 => f45.p2_e4 L N k1_e2 rec1 z16 z17 z18 z19) L s11 s12 s13 s14 s15) s4 s5 s6 s7
def f45.l1 {R : Type} (L N : Nat) (k1_e2 : Bool → LLM → LB → Option R) : Nat → Bool → Int → LLM → LB → Option R
  | 0, _, _, _, _ => none
  | n + 1, s4, s5, s6, s7 => f45.s1 L N k1_e2 (f45.l1 L N k1_e2 n) s4 s5 s6 s7
def f45.T1 (s4 : Bool) (s5 : Int) (s6 : LLM) (s7 : LB) : T := mkT 60 [(2, (.ptr 1002 0)), (5, (.row 1010)), (6, (.tv .bool s4)), (7, (.tv i64 s5))]
def f45.H1 (s4 : Bool) (s5 : Int) (s6 : LLM) (s7 : LB) : H := [(1002, (.box [(.tv (.sl (.sl (.st 0))) s6)])), (1010, (.row 4 .bool s7))]
def f45.T1_e2 (z8 : Bool) (z9 : LLM) (z10 : LB) : T := mkT 60 [(2, (.ptr 1002 0)), (5, (.row 1010)), (6, (.tv .bool z8))]
def f45.H1_e2 (z8 : Bool) (z9 : LLM) (z10 : LB) : H := [(1002, (.box [(.tv (.sl (.sl (.st 0))) z9)])), (1010, (.row 4 .bool z10))]
def f45.p1_e2' {R : Type} (L N : Nat) (k0_e0 : LB → Option R) (rec0 : Bool → LLM → LB → Option R) (z8 : Bool) (z9 : LLM) (z10 : LB) : Option R :=
  rec0 z8 z9 z10
def f45.p1_e2 {R : Type} (L N : Nat) (k0_e0 : LB → Option R) (rec0 : Bool → LLM → LB → Option R) (z8 : Bool) (z9 : LLM) (z10 : LB) : Option R :=
  f45.p1_e2' L N k0_e0 rec0 z8 z9 z10
def f45.s0' {R : Type} (L N : Nat) (k0_e0 : LB → Option R) (rec0 : Bool → LLM → LB → Option R) (w1 : Bool → Int → LLM → LB → Option R) (s0 : Bool) (s1 : LLM) (s2 : LB) : Option R :=
  bif s0 then
    w1 false (0 : Int) s1 s2
  else k0_e0 s2
def f45.s0 {R : Type} (L N : Nat) (k0_e0 : LB → Option R) (rec0 : Bool → LLM → LB → Option R) (s0 : Bool) (s1 : LLM) (s2 : LB) : Option R :=
  f45.s0' L N k0_e0 rec0 (fun s4 s5 s6 s7 => f45.l1 L N (fun z8 z9 z10 => f45.p1_e2 L N k0_e0 rec0 z8 z9 z10) L s4 s5 s6 s7) s0 s1 s2
def f45.l0 {R : Type} (L N : Nat) (k0_e0 : LB → Option R) : Nat → Bool → LLM → LB → Option R
  | 0, _, _, _ => none
  | n + 1, s0, s1, s2 => f45.s0 L N k0_e0 (f45.l0 L N k0_e0 n) s0 s1 s2
def f45.T0 (s0 : Bool) (s1 : LLM) (s2 : LB) : T := mkT 60 [(2, (.ptr 1002 0)), (5, (.row 1010)), (6, (.tv .bool s0))]
def f45.H0 (s0 : Bool) (s1 : LLM) (s2 : LB) : H := [(1002, (.box [(.tv (.sl (.sl (.st 0))) s1)])), (1010, (.row 4 .bool s2))]
def f45.T0_e0 (z3 : LB) : T := mkT 60 [(5, (.row 1010))]
def f45.H0_e0 (z3 : LB) : H := [(1010, (.row 4 .bool z3))]
def f45.p0_e0' {R : Type} (L N : Nat) (k : LB → Option R) (z3 : LB) : Option R :=
  k z3
def f45.p0_e0 {R : Type} (L N : Nat) (k : LB → Option R) (z3 : LB) : Option R :=
  f45.p0_e0' L N k z3
def f45.b' {R : Type} (L N : Nat) (k : LB → Option R) (w0 : Bool → LLM → LB → Option R) (x0 : Graph) (x1 : LB) : Option R :=
  bif (decide (([] : LB).length + x1.length ≤ lim)) then
    w0 true x0.moves (([] : LB) ++ x1)
  else none
def f45.b {R : Type} (L N : Nat) (k : LB → Option R) (x0 : Graph) (x1 : LB) : Option R :=
  f45.b' L N k (fun s0 s1 s2 => f45.l0 L N (fun z3 => f45.p0_e0 L N k z3) L s0 s1 s2) x0 x1
def f45 (L N : Nat) (x0 : Graph) (x1 : LB) : Option (LB) := f45.b L N some x0 x1
def f45.ent (L N : Nat) := entDa [(.st 2), (.sl .bool)] (.one (.sl .bool)) fun d => f45 L N d.1 d.2.1
noncomputable def E45 (L N : Nat) : Env := { P := Tryd.prog, ty := tyOf, Φ := (Φ15 L N), inl := inlT, live := lives, liveX := livesX, L := L, dp := none, prom := promT, heal := healT, ren := renT }
noncomputable def f45.c0 : Code := loopAt 0 (codeOf Tryd.f45)
noncomputable def f45.c1 : Code := loopAt 2 f45.c0
noncomputable def f45.c2 : Code := loopAt 4 f45.c1
def f45.X2_e4 {R : Type} (κ : KX R) := fun z16 z17 z18 z19 => κ (.exit 4) (f45.T2_e4 z16 z17 z18 z19) (f45.H2_e4 z16 z17 z18 z19)
def f45.R2 {R : Type} (rec : KT R) := fun s11 s12 s13 s14 s15 => rec (f45.T2 s11 s12 s13 s14 s15) (f45.H2 s11 s12 s13 s14 s15)
theorem f45.s2_eq {R : Type} (L N : Nat) (κ : KX R) (rec : KT R) (s11 : Bool) (s12 : Int) (s13 : Int) (s14 : LLM) (s15 : LB) :
    evRd (E45 L N) (evCallI (E45 L N) 1 2000) 1000 45 60 4 f45.c2 κ rec (f45.T2 s11 s12 s13 s14 s15) (f45.H2 s11 s12 s13 s14 s15)
    = f45.s2 L N (f45.X2_e4 κ) (f45.R2 rec) s11 s12 s13 s14 s15 := by kernel_rfl
theorem f45.l2_eq {R : Type} (L N : Nat) (κ : KX R) : ∀ (n : Nat) (s11 : Bool) (s12 : Int) (s13 : Int) (s14 : LLM) (s15 : LB),
    evLp (E45 L N) (evCallI (E45 L N) 1 2000) 1000 45 60 4 f45.c2 κ n (f45.T2 s11 s12 s13 s14 s15) (f45.H2 s11 s12 s13 s14 s15)
    = f45.l2 L N (f45.X2_e4 κ) n s11 s12 s13 s14 s15 := by
  intro n
  induction n with
  | zero => intros; rfl
  | succ n ih =>
    intro s11 s12 s13 s14 s15
    rw [evLp_succ, f45.s2_eq]
    delta f45.R2
    simp only [ih]
    rfl
def f45.X1_e2 {R : Type} (κ : KX R) := fun z8 z9 z10 => κ (.exit 2) (f45.T1_e2 z8 z9 z10) (f45.H1_e2 z8 z9 z10)
def f45.R1 {R : Type} (rec : KT R) := fun s4 s5 s6 s7 => rec (f45.T1 s4 s5 s6 s7) (f45.H1 s4 s5 s6 s7)
theorem f45.p2_e4_eq {R : Type} (L N : Nat) (κ : KX R) (rec : KT R) (z16 : Bool) (z17 : Int) (z18 : LLM) (z19 : LB) :
    (contAt (E45 L N) (evCallI (E45 L N) 1 2000) 1000 45 60 4 f45.c1 (rdK (E45 L N) 1000 45 60 2 κ rec)) (.exit 4) (f45.T2_e4 z16 z17 z18 z19) (f45.H2_e4 z16 z17 z18 z19)
    = f45.p2_e4 L N (f45.X1_e2 κ) (f45.R1 rec) z16 z17 z18 z19 := by kernel_rfl
theorem f45.s1_eq {R : Type} (L N : Nat) (κ : KX R) (rec : KT R) (s4 : Bool) (s5 : Int) (s6 : LLM) (s7 : LB) :
    evRd (E45 L N) (evCallI (E45 L N) 1 2000) 1000 45 60 2 f45.c1 κ rec (f45.T1 s4 s5 s6 s7) (f45.H1 s4 s5 s6 s7)
    = f45.s1 L N (f45.X1_e2 κ) (f45.R1 rec) s4 s5 s6 s7 := by
  refine Eq.trans (b := f45.s1' L N (f45.X1_e2 κ) (f45.R1 rec) (fun s11 s12 s13 s14 s15 => evLp (E45 L N) (evCallI (E45 L N) 1 2000) 1000 45 60 4 f45.c2 (contAt (E45 L N) (evCallI (E45 L N) 1 2000) 1000 45 60 4 f45.c1 (rdK (E45 L N) 1000 45 60 2 κ rec)) L (f45.T2 s11 s12 s13 s14 s15) (f45.H2 s11 s12 s13 s14 s15)) s4 s5 s6 s7) (by kernel_rfl) ?_
  unfold f45.s1
  simp only [f45.l2_eq]
  delta f45.X2_e4
  simp only [f45.p2_e4_eq]
theorem f45.l1_eq {R : Type} (L N : Nat) (κ : KX R) : ∀ (n : Nat) (s4 : Bool) (s5 : Int) (s6 : LLM) (s7 : LB),
    evLp (E45 L N) (evCallI (E45 L N) 1 2000) 1000 45 60 2 f45.c1 κ n (f45.T1 s4 s5 s6 s7) (f45.H1 s4 s5 s6 s7)
    = f45.l1 L N (f45.X1_e2 κ) n s4 s5 s6 s7 := by
  intro n
  induction n with
  | zero => intros; rfl
  | succ n ih =>
    intro s4 s5 s6 s7
    rw [evLp_succ, f45.s1_eq]
    delta f45.R1
    simp only [ih]
    rfl
def f45.X0_e0 {R : Type} (κ : KX R) := fun z3 => κ (.exit 0) (f45.T0_e0 z3) (f45.H0_e0 z3)
def f45.R0 {R : Type} (rec : KT R) := fun s0 s1 s2 => rec (f45.T0 s0 s1 s2) (f45.H0 s0 s1 s2)
theorem f45.p1_e2_eq {R : Type} (L N : Nat) (κ : KX R) (rec : KT R) (z8 : Bool) (z9 : LLM) (z10 : LB) :
    (contAt (E45 L N) (evCallI (E45 L N) 1 2000) 1000 45 60 2 f45.c0 (rdK (E45 L N) 1000 45 60 0 κ rec)) (.exit 2) (f45.T1_e2 z8 z9 z10) (f45.H1_e2 z8 z9 z10)
    = f45.p1_e2 L N (f45.X0_e0 κ) (f45.R0 rec) z8 z9 z10 := by kernel_rfl
theorem f45.s0_eq {R : Type} (L N : Nat) (κ : KX R) (rec : KT R) (s0 : Bool) (s1 : LLM) (s2 : LB) :
    evRd (E45 L N) (evCallI (E45 L N) 1 2000) 1000 45 60 0 f45.c0 κ rec (f45.T0 s0 s1 s2) (f45.H0 s0 s1 s2)
    = f45.s0 L N (f45.X0_e0 κ) (f45.R0 rec) s0 s1 s2 := by
  refine Eq.trans (b := f45.s0' L N (f45.X0_e0 κ) (f45.R0 rec) (fun s4 s5 s6 s7 => evLp (E45 L N) (evCallI (E45 L N) 1 2000) 1000 45 60 2 f45.c1 (contAt (E45 L N) (evCallI (E45 L N) 1 2000) 1000 45 60 2 f45.c0 (rdK (E45 L N) 1000 45 60 0 κ rec)) L (f45.T1 s4 s5 s6 s7) (f45.H1 s4 s5 s6 s7)) s0 s1 s2) (by kernel_rfl) ?_
  unfold f45.s0
  simp only [f45.l1_eq]
  delta f45.X1_e2
  simp only [f45.p1_e2_eq]
theorem f45.l0_eq {R : Type} (L N : Nat) (κ : KX R) : ∀ (n : Nat) (s0 : Bool) (s1 : LLM) (s2 : LB),
    evLp (E45 L N) (evCallI (E45 L N) 1 2000) 1000 45 60 0 f45.c0 κ n (f45.T0 s0 s1 s2) (f45.H0 s0 s1 s2)
    = f45.l0 L N (f45.X0_e0 κ) n s0 s1 s2 := by
  intro n
  induction n with
  | zero => intros; rfl
  | succ n ih =>
    intro s0 s1 s2
    rw [evLp_succ, f45.s0_eq]
    delta f45.R0
    simp only [ih]
    rfl
theorem f45.p0_e0_eq {R : Type} (L N : Nat) (κ : AV → Option R) (z3 : LB) :
    (contAt (E45 L N) (evCallI (E45 L N) 1 2000) 1000 45 60 0 (codeOf Tryd.f45) (finK (E45 L N) 1000 Tryd.f45 (finC (.one (.sl .bool)) κ))) (.exit 0) (f45.T0_e0 z3) (f45.H0_e0 z3)
    = f45.p0_e0 L N (fun a0 => κ (.tv (.sl .bool) a0)) z3 := by kernel_rfl
theorem f45.b_eq {R : Type} (L N : Nat) (κ : AV → Option R) (x0 : Graph) (x1 : LB) :
    evBody (E45 L N) (evCallI (E45 L N) 1 2000) 1000 45 Tryd.f45 [(.tv (.st 2) x0), (.tv (.sl .bool) x1)] [] [] (finC (.one (.sl .bool)) κ)
    = f45.b L N (fun a0 => κ (.tv (.sl .bool) a0)) x0 x1 := by
  refine Eq.trans (b := f45.b' L N (fun a0 => κ (.tv (.sl .bool) a0)) (fun s0 s1 s2 => evLp (E45 L N) (evCallI (E45 L N) 1 2000) 1000 45 60 0 f45.c0 (contAt (E45 L N) (evCallI (E45 L N) 1 2000) 1000 45 60 0 (codeOf Tryd.f45) (finK (E45 L N) 1000 Tryd.f45 (finC (.one (.sl .bool)) κ))) L (f45.T0 s0 s1 s2) (f45.H0 s0 s1 s2)) x0 x1) (by kernel_rfl) ?_
  unfold f45.b
  simp only [f45.l0_eq]
  delta f45.X0_e0
  simp only [f45.p0_e0_eq]
theorem f45.ok (L N : Nat) (hΦ : TellsOk Tryd.prog ((Φ15 L N))) : EntOk Tryd.prog 45 (f45.ent L N) := entDa_ok (E := (E45 L N)) (dep := 1000) (f := Tryd.f45) (sound_of hΦ) okP (callI_sound (sound_of hΦ) okP 1 2000) rfl fun d _ hy => (f45.b_eq L N (unR (.one (.sl .bool))) d.1 d.2.1).trans (Eq.trans (b := f45.b L N some d.1 d.2.1) (by kernel_rfl) hy)
def Φ45 (L N : Nat) : Tells := (addT (Φ15 L N) 45 (f45.ent L N))
theorem Φ45_ok (L N : Nat) : TellsOk Tryd.prog (Φ45 L N) := addT_ok (Φ15_ok L N) (f45.ok L N (Φ15_ok L N))
def f17.b' {R : Type} (L N : Nat) (k : LB → Option R) (x0 : Graph) : Option R :=
  bif (decide (0 ≤ (x0.moves.length : Int)) && decide ((x0.moves.length : Int) ≤ (lim : Int))) then
    bif (decide (0 ≤ (0 : Int)) && decide ((0 : Int) < ((List.replicate (x0.moves.length : Int).toNat false).length : Int))) then
      (f45 L N (Graph.mk x0.moves) ((List.replicate (x0.moves.length : Int).toNat false).set ((0 : Int).toNat) true)).bind fun y0 =>
      k y0
    else none
  else none
def f17.b {R : Type} (L N : Nat) (k : LB → Option R) (x0 : Graph) : Option R :=
  f17.b' L N k x0
def f17 (L N : Nat) (x0 : Graph) : Option (LB) := f17.b L N some x0
def f17.ent (L N : Nat) := entDa [(.st 2)] (.one (.sl .bool)) fun d => f17 L N d.1
noncomputable def E17 (L N : Nat) : Env := { P := Tryd.prog, ty := tyOf, Φ := (Φ45 L N), inl := inlT, live := lives, liveX := livesX, L := L, dp := none, prom := promT, heal := healT, ren := renT }
theorem f17.b_eq {R : Type} (L N : Nat) (κ : AV → Option R) (x0 : Graph) :
    evBody (E17 L N) (evCallI (E17 L N) 1 2000) 1000 17 Tryd.f17 [(.tv (.st 2) x0)] [] [] (finC (.one (.sl .bool)) κ)
    = f17.b L N (fun a0 => κ (.tv (.sl .bool) a0)) x0 := by kernel_rfl
theorem f17.ok (L N : Nat) (hΦ : TellsOk Tryd.prog ((Φ45 L N))) : EntOk Tryd.prog 17 (f17.ent L N) := entDa_ok (E := (E17 L N)) (dep := 1000) (f := Tryd.f17) (sound_of hΦ) okP (callI_sound (sound_of hΦ) okP 1 2000) rfl fun d _ hy => (f17.b_eq L N (unR (.one (.sl .bool))) d.1).trans (Eq.trans (b := f17.b L N some d.1) (by kernel_rfl) hy)
def Φ17 (L N : Nat) : Tells := (addT (Φ45 L N) 17 (f17.ent L N))
theorem Φ17_ok (L N : Nat) : TellsOk Tryd.prog (Φ17 L N) := addT_ok (Φ45_ok L N) (f17.ok L N (Φ45_ok L N))
def f19.j0' {R : Type} (L N : Nat) (k1_e2 : LB → Int → Int → LLM → LB → Option R) (rec1 : LB → Int → Int → Int → LLM → LB → Option R) (v18 : LB) (v19 : Int) (v20 : Int) (v21 : Int) (v22 : Bool) (v23 : LLM) (v24 : LB) : Option R :=
  bif v22 then
    bif (decide (0 ≤ v20) && decide (v20 < (v23.length : Int))) then
      bif (decide (0 ≤ v21) && decide (v21 < ((listAt v23 [] v20.toNat).length : Int))) then
        bif (decide (0 ≤ (listAt (listAt v23 [] v20.toNat) (Ty.dflt (.st 0)) v21.toNat).to) && decide ((listAt (listAt v23 [] v20.toNat) (Ty.dflt (.st 0)) v21.toNat).to < (v24.length : Int))) then
          rec1 v18 v19 v20 (wi (v21 + (1 : Int))) v23 (v24.set (((listAt (listAt v23 [] v20.toNat) (Ty.dflt (.st 0)) v21.toNat).to).toNat) true)
        else none
      else none
    else none
  else rec1 v18 v19 v20 (wi (v21 + (1 : Int))) v23 v24
def f19.s1' {R : Type} (L N : Nat) (k1_e2 : LB → Int → Int → LLM → LB → Option R) (rec1 : LB → Int → Int → Int → LLM → LB → Option R) (s7 : LB) (s8 : Int) (s9 : Int) (s10 : Int) (s11 : LLM) (s12 : LB) : Option R :=
  bif (decide (0 ≤ s9) && decide (s9 < (s11.length : Int))) then
    bif (decide (s10 < ((listAt s11 [] s9.toNat).length : Int))) then
      bif (decide (0 ≤ s9) && decide (s9 < (s7.length : Int))) then
        bif (listAt s7 false s9.toNat) then
          bif (decide (0 ≤ s9) && decide (s9 < (s11.length : Int))) then
            bif (decide (0 ≤ s10) && decide (s10 < ((listAt s11 [] s9.toNat).length : Int))) then
              f19.j0' L N k1_e2 rec1 s7 s8 s9 s10 ((listAt (listAt s11 [] s9.toNat) (Ty.dflt (.st 0)) s10.toNat).act == s8) s11 s12
            else none
          else none
        else f19.j0' L N k1_e2 rec1 s7 s8 s9 s10 false s11 s12
      else none
    else k1_e2 s7 s8 s9 s11 s12
  else none
def f19.s1 {R : Type} (L N : Nat) (k1_e2 : LB → Int → Int → LLM → LB → Option R) (rec1 : LB → Int → Int → Int → LLM → LB → Option R) (s7 : LB) (s8 : Int) (s9 : Int) (s10 : Int) (s11 : LLM) (s12 : LB) : Option R :=
  f19.s1' L N k1_e2 rec1 s7 s8 s9 s10 s11 s12
def f19.l1 {R : Type} (L N : Nat) (k1_e2 : LB → Int → Int → LLM → LB → Option R) : Nat → LB → Int → Int → Int → LLM → LB → Option R
  | 0, _, _, _, _, _, _ => none
  | n + 1, s7, s8, s9, s10, s11, s12 => f19.s1 L N k1_e2 (f19.l1 L N k1_e2 n) s7 s8 s9 s10 s11 s12
def f19.T1 (s7 : LB) (s8 : Int) (s9 : Int) (s10 : Int) (s11 : LLM) (s12 : LB) : T := mkT 60 [(1, (.tv (.sl .bool) s7)), (2, (.tv i64 s8)), (3, (.ptr 1003 0)), (7, (.row 1012)), (8, (.tv i64 s9)), (9, (.tv i64 s10))]
def f19.H1 (s7 : LB) (s8 : Int) (s9 : Int) (s10 : Int) (s11 : LLM) (s12 : LB) : H := [(1003, (.box [(.tv (.sl (.sl (.st 0))) s11)])), (1012, (.row 4 .bool s12))]
def f19.T1_e2 (z13 : LB) (z14 : Int) (z15 : Int) (z16 : LLM) (z17 : LB) : T := mkT 60 [(1, (.tv (.sl .bool) z13)), (2, (.tv i64 z14)), (3, (.ptr 1003 0)), (7, (.row 1012)), (8, (.tv i64 z15))]
def f19.H1_e2 (z13 : LB) (z14 : Int) (z15 : Int) (z16 : LLM) (z17 : LB) : H := [(1003, (.box [(.tv (.sl (.sl (.st 0))) z16)])), (1012, (.row 4 .bool z17))]
def f19.p1_e2' {R : Type} (L N : Nat) (k0_e0 : LLM → LB → Option R) (rec0 : LB → Int → Int → LLM → LB → Option R) (z13 : LB) (z14 : Int) (z15 : Int) (z16 : LLM) (z17 : LB) : Option R :=
  rec0 z13 z14 (wi (z15 + (1 : Int))) z16 z17
def f19.p1_e2 {R : Type} (L N : Nat) (k0_e0 : LLM → LB → Option R) (rec0 : LB → Int → Int → LLM → LB → Option R) (z13 : LB) (z14 : Int) (z15 : Int) (z16 : LLM) (z17 : LB) : Option R :=
  f19.p1_e2' L N k0_e0 rec0 z13 z14 z15 z16 z17
def f19.s0' {R : Type} (L N : Nat) (k0_e0 : LLM → LB → Option R) (rec0 : LB → Int → Int → LLM → LB → Option R) (w1 : LB → Int → Int → Int → LLM → LB → Option R) (s0 : LB) (s1 : Int) (s2 : Int) (s3 : LLM) (s4 : LB) : Option R :=
  bif (decide (s2 < (s0.length : Int))) then
    w1 s0 s1 s2 (0 : Int) s3 s4
  else k0_e0 s3 s4
def f19.s0 {R : Type} (L N : Nat) (k0_e0 : LLM → LB → Option R) (rec0 : LB → Int → Int → LLM → LB → Option R) (s0 : LB) (s1 : Int) (s2 : Int) (s3 : LLM) (s4 : LB) : Option R :=
  f19.s0' L N k0_e0 rec0 (fun s7 s8 s9 s10 s11 s12 => f19.l1 L N (fun z13 z14 z15 z16 z17 => f19.p1_e2 L N k0_e0 rec0 z13 z14 z15 z16 z17) L s7 s8 s9 s10 s11 s12) s0 s1 s2 s3 s4
def f19.l0 {R : Type} (L N : Nat) (k0_e0 : LLM → LB → Option R) : Nat → LB → Int → Int → LLM → LB → Option R
  | 0, _, _, _, _, _ => none
  | n + 1, s0, s1, s2, s3, s4 => f19.s0 L N k0_e0 (f19.l0 L N k0_e0 n) s0 s1 s2 s3 s4
def f19.T0 (s0 : LB) (s1 : Int) (s2 : Int) (s3 : LLM) (s4 : LB) : T := mkT 60 [(1, (.tv (.sl .bool) s0)), (2, (.tv i64 s1)), (3, (.ptr 1003 0)), (7, (.row 1012)), (8, (.tv i64 s2))]
def f19.H0 (s0 : LB) (s1 : Int) (s2 : Int) (s3 : LLM) (s4 : LB) : H := [(1003, (.box [(.tv (.sl (.sl (.st 0))) s3)])), (1012, (.row 4 .bool s4))]
def f19.T0_e0 (z5 : LLM) (z6 : LB) : T := mkT 60 [(3, (.ptr 1003 0)), (7, (.row 1012))]
def f19.H0_e0 (z5 : LLM) (z6 : LB) : H := [(1003, (.box [(.tv (.sl (.sl (.st 0))) z5)])), (1012, (.row 4 .bool z6))]
def f19.p0_e0' {R : Type} (L N : Nat) (k : LB → Option R) (z5 : LLM) (z6 : LB) : Option R :=
  (f45 L N (Graph.mk z5) z6).bind fun y31 =>
  k y31
def f19.p0_e0 {R : Type} (L N : Nat) (k : LB → Option R) (z5 : LLM) (z6 : LB) : Option R :=
  f19.p0_e0' L N k z5 z6
def f19.b' {R : Type} (L N : Nat) (k : LB → Option R) (w0 : LB → Int → Int → LLM → LB → Option R) (x0 : Graph) (x1 : LB) (x2 : Int) : Option R :=
  bif (decide (0 ≤ (x1.length : Int)) && decide ((x1.length : Int) ≤ (lim : Int))) then
    w0 x1 x2 (0 : Int) x0.moves (List.replicate (x1.length : Int).toNat false)
  else none
def f19.b {R : Type} (L N : Nat) (k : LB → Option R) (x0 : Graph) (x1 : LB) (x2 : Int) : Option R :=
  f19.b' L N k (fun s0 s1 s2 s3 s4 => f19.l0 L N (fun z5 z6 => f19.p0_e0 L N k z5 z6) L s0 s1 s2 s3 s4) x0 x1 x2
def f19 (L N : Nat) (x0 : Graph) (x1 : LB) (x2 : Int) : Option (LB) := f19.b L N some x0 x1 x2
def f19.ent (L N : Nat) := entDa [(.st 2), (.sl .bool), i64] (.one (.sl .bool)) fun d => f19 L N d.1 d.2.1 d.2.2.1
noncomputable def E19 (L N : Nat) : Env := { P := Tryd.prog, ty := tyOf, Φ := (Φ17 L N), inl := inlT, live := lives, liveX := livesX, L := L, dp := none, prom := promT, heal := healT, ren := renT }
noncomputable def f19.c0 : Code := loopAt 0 (codeOf Tryd.f19)
noncomputable def f19.c1 : Code := loopAt 2 f19.c0
def f19.X1_e2 {R : Type} (κ : KX R) := fun z13 z14 z15 z16 z17 => κ (.exit 2) (f19.T1_e2 z13 z14 z15 z16 z17) (f19.H1_e2 z13 z14 z15 z16 z17)
def f19.R1 {R : Type} (rec : KT R) := fun s7 s8 s9 s10 s11 s12 => rec (f19.T1 s7 s8 s9 s10 s11 s12) (f19.H1 s7 s8 s9 s10 s11 s12)
theorem f19.s1_eq {R : Type} (L N : Nat) (κ : KX R) (rec : KT R) (s7 : LB) (s8 : Int) (s9 : Int) (s10 : Int) (s11 : LLM) (s12 : LB) :
    evRd (E19 L N) (evCallI (E19 L N) 1 2000) 1000 19 60 2 f19.c1 κ rec (f19.T1 s7 s8 s9 s10 s11 s12) (f19.H1 s7 s8 s9 s10 s11 s12)
    = f19.s1 L N (f19.X1_e2 κ) (f19.R1 rec) s7 s8 s9 s10 s11 s12 := by kernel_rfl
theorem f19.l1_eq {R : Type} (L N : Nat) (κ : KX R) : ∀ (n : Nat) (s7 : LB) (s8 : Int) (s9 : Int) (s10 : Int) (s11 : LLM) (s12 : LB),
    evLp (E19 L N) (evCallI (E19 L N) 1 2000) 1000 19 60 2 f19.c1 κ n (f19.T1 s7 s8 s9 s10 s11 s12) (f19.H1 s7 s8 s9 s10 s11 s12)
    = f19.l1 L N (f19.X1_e2 κ) n s7 s8 s9 s10 s11 s12 := by
  intro n
  induction n with
  | zero => intros; rfl
  | succ n ih =>
    intro s7 s8 s9 s10 s11 s12
    rw [evLp_succ, f19.s1_eq]
    delta f19.R1
    simp only [ih]
    rfl
def f19.X0_e0 {R : Type} (κ : KX R) := fun z5 z6 => κ (.exit 0) (f19.T0_e0 z5 z6) (f19.H0_e0 z5 z6)
def f19.R0 {R : Type} (rec : KT R) := fun s0 s1 s2 s3 s4 => rec (f19.T0 s0 s1 s2 s3 s4) (f19.H0 s0 s1 s2 s3 s4)
theorem f19.p1_e2_eq {R : Type} (L N : Nat) (κ : KX R) (rec : KT R) (z13 : LB) (z14 : Int) (z15 : Int) (z16 : LLM) (z17 : LB) :
    (contAt (E19 L N) (evCallI (E19 L N) 1 2000) 1000 19 60 2 f19.c0 (rdK (E19 L N) 1000 19 60 0 κ rec)) (.exit 2) (f19.T1_e2 z13 z14 z15 z16 z17) (f19.H1_e2 z13 z14 z15 z16 z17)
    = f19.p1_e2 L N (f19.X0_e0 κ) (f19.R0 rec) z13 z14 z15 z16 z17 := by kernel_rfl
theorem f19.s0_eq {R : Type} (L N : Nat) (κ : KX R) (rec : KT R) (s0 : LB) (s1 : Int) (s2 : Int) (s3 : LLM) (s4 : LB) :
    evRd (E19 L N) (evCallI (E19 L N) 1 2000) 1000 19 60 0 f19.c0 κ rec (f19.T0 s0 s1 s2 s3 s4) (f19.H0 s0 s1 s2 s3 s4)
    = f19.s0 L N (f19.X0_e0 κ) (f19.R0 rec) s0 s1 s2 s3 s4 := by
  refine Eq.trans (b := f19.s0' L N (f19.X0_e0 κ) (f19.R0 rec) (fun s7 s8 s9 s10 s11 s12 => evLp (E19 L N) (evCallI (E19 L N) 1 2000) 1000 19 60 2 f19.c1 (contAt (E19 L N) (evCallI (E19 L N) 1 2000) 1000 19 60 2 f19.c0 (rdK (E19 L N) 1000 19 60 0 κ rec)) L (f19.T1 s7 s8 s9 s10 s11 s12) (f19.H1 s7 s8 s9 s10 s11 s12)) s0 s1 s2 s3 s4) (by kernel_rfl) ?_
  unfold f19.s0
  simp only [f19.l1_eq]
  delta f19.X1_e2
  simp only [f19.p1_e2_eq]
theorem f19.l0_eq {R : Type} (L N : Nat) (κ : KX R) : ∀ (n : Nat) (s0 : LB) (s1 : Int) (s2 : Int) (s3 : LLM) (s4 : LB),
    evLp (E19 L N) (evCallI (E19 L N) 1 2000) 1000 19 60 0 f19.c0 κ n (f19.T0 s0 s1 s2 s3 s4) (f19.H0 s0 s1 s2 s3 s4)
    = f19.l0 L N (f19.X0_e0 κ) n s0 s1 s2 s3 s4 := by
  intro n
  induction n with
  | zero => intros; rfl
  | succ n ih =>
    intro s0 s1 s2 s3 s4
    rw [evLp_succ, f19.s0_eq]
    delta f19.R0
    simp only [ih]
    rfl
theorem f19.p0_e0_eq {R : Type} (L N : Nat) (κ : AV → Option R) (z5 : LLM) (z6 : LB) :
    (contAt (E19 L N) (evCallI (E19 L N) 1 2000) 1000 19 60 0 (codeOf Tryd.f19) (finK (E19 L N) 1000 Tryd.f19 (finC (.one (.sl .bool)) κ))) (.exit 0) (f19.T0_e0 z5 z6) (f19.H0_e0 z5 z6)
    = f19.p0_e0 L N (fun a0 => κ (.tv (.sl .bool) a0)) z5 z6 := by kernel_rfl
theorem f19.b_eq {R : Type} (L N : Nat) (κ : AV → Option R) (x0 : Graph) (x1 : LB) (x2 : Int) :
    evBody (E19 L N) (evCallI (E19 L N) 1 2000) 1000 19 Tryd.f19 [(.tv (.st 2) x0), (.tv (.sl .bool) x1), (.tv i64 x2)] [] [] (finC (.one (.sl .bool)) κ)
    = f19.b L N (fun a0 => κ (.tv (.sl .bool) a0)) x0 x1 x2 := by
  refine Eq.trans (b := f19.b' L N (fun a0 => κ (.tv (.sl .bool) a0)) (fun s0 s1 s2 s3 s4 => evLp (E19 L N) (evCallI (E19 L N) 1 2000) 1000 19 60 0 f19.c0 (contAt (E19 L N) (evCallI (E19 L N) 1 2000) 1000 19 60 0 (codeOf Tryd.f19) (finK (E19 L N) 1000 Tryd.f19 (finC (.one (.sl .bool)) κ))) L (f19.T0 s0 s1 s2 s3 s4) (f19.H0 s0 s1 s2 s3 s4)) x0 x1 x2) (by kernel_rfl) ?_
  unfold f19.b
  simp only [f19.l0_eq]
  delta f19.X0_e0
  simp only [f19.p0_e0_eq]
theorem f19.ok (L N : Nat) (hΦ : TellsOk Tryd.prog ((Φ17 L N))) : EntOk Tryd.prog 19 (f19.ent L N) := entDa_ok (E := (E19 L N)) (dep := 1000) (f := Tryd.f19) (sound_of hΦ) okP (callI_sound (sound_of hΦ) okP 1 2000) rfl fun d _ hy => (f19.b_eq L N (unR (.one (.sl .bool))) d.1 d.2.1 d.2.2.1).trans (Eq.trans (b := f19.b L N some d.1 d.2.1 d.2.2.1) (by kernel_rfl) hy)
def Φ19 (L N : Nat) : Tells := (addT (Φ17 L N) 19 (f19.ent L N))
theorem Φ19_ok (L N : Nat) : TellsOk Tryd.prog (Φ19 L N) := addT_ok (Φ17_ok L N) (f19.ok L N (Φ17_ok L N))
def f20.s0' {R : Type} (L N : Nat) (k0_e0 : Option R) (k0_r : Bool → Option R) (rec0 : LB → Int → Option R) (s0 : LB) (s1 : Int) : Option R :=
  bif (decide (s1 < (s0.length : Int))) then
    bif (decide (0 ≤ s1) && decide (s1 < (s0.length : Int))) then
      bif (listAt s0 false s1.toNat) then
        k0_r true
      else rec0 s0 (wi (s1 + (1 : Int)))
    else none
  else k0_e0
def f20.s0 {R : Type} (L N : Nat) (k0_e0 : Option R) (k0_r : Bool → Option R) (rec0 : LB → Int → Option R) (s0 : LB) (s1 : Int) : Option R :=
  f20.s0' L N k0_e0 k0_r rec0 s0 s1
def f20.l0 {R : Type} (L N : Nat) (k0_e0 : Option R) (k0_r : Bool → Option R) : Nat → LB → Int → Option R
  | 0, _, _ => none
  | n + 1, s0, s1 => f20.s0 L N k0_e0 k0_r (f20.l0 L N k0_e0 k0_r n) s0 s1
def f20.T0 (s0 : LB) (s1 : Int) : T := mkT 14 [(0, (.tv (.sl .bool) s0)), (3, (.tv i64 s1))]
def f20.H0 (s0 : LB) (s1 : Int) : H := []
def f20.T0_e0 : T := mkT 14 []
def f20.H0_e0 : H := []
def f20.T0_r (z2 : Bool) : T := mkT 14 [(2, (.tv .bool z2))]
def f20.H0_r (z2 : Bool) : H := []
def f20.p0_e0' {R : Type} (L N : Nat) (k : Bool → Option R) : Option R :=
  k false
def f20.p0_e0 {R : Type} (L N : Nat) (k : Bool → Option R) : Option R :=
  f20.p0_e0' L N k
def f20.p0_r' {R : Type} (L N : Nat) (k : Bool → Option R) (z2 : Bool) : Option R :=
  k z2
def f20.p0_r {R : Type} (L N : Nat) (k : Bool → Option R) (z2 : Bool) : Option R :=
  f20.p0_r' L N k z2
def f20.b' {R : Type} (L N : Nat) (k : Bool → Option R) (w0 : LB → Int → Option R) (x0 : LB) : Option R :=
  w0 x0 (0 : Int)
def f20.b {R : Type} (L N : Nat) (k : Bool → Option R) (x0 : LB) : Option R :=
  f20.b' L N k (fun s0 s1 => f20.l0 L N (f20.p0_e0 L N k) (fun z2 => f20.p0_r L N k z2) L s0 s1) x0
def f20 (L N : Nat) (x0 : LB) : Option (Bool) := f20.b L N some x0
def f20.ent (L N : Nat) := entRo [(.sl .bool)] (.one .bool) fun d => f20 L N d.1
noncomputable def E20 (L N : Nat) : Env := { P := Tryd.prog, ty := tyOf, Φ := (Φ19 L N), inl := inlT, live := lives, liveX := livesX, L := L, dp := none, prom := promT, heal := healT, ren := renT }
noncomputable def f20.c0 : Code := loopAt 0 (codeOf Tryd.f20)
def f20.X0_e0 {R : Type} (κ : KX R) := κ (.exit 0) f20.T0_e0 f20.H0_e0
def f20.X0_r {R : Type} (κ : KX R) := fun z2 => κ .ret (f20.T0_r z2) (f20.H0_r z2)
def f20.R0 {R : Type} (rec : KT R) := fun s0 s1 => rec (f20.T0 s0 s1) (f20.H0 s0 s1)
theorem f20.s0_eq {R : Type} (L N : Nat) (κ : KX R) (rec : KT R) (s0 : LB) (s1 : Int) :
    evRd (E20 L N) (evCallI (E20 L N) 1 2000) 1000 20 14 0 f20.c0 κ rec (f20.T0 s0 s1) (f20.H0 s0 s1)
    = f20.s0 L N (f20.X0_e0 κ) (f20.X0_r κ) (f20.R0 rec) s0 s1 := by kernel_rfl
theorem f20.l0_eq {R : Type} (L N : Nat) (κ : KX R) : ∀ (n : Nat) (s0 : LB) (s1 : Int),
    evLp (E20 L N) (evCallI (E20 L N) 1 2000) 1000 20 14 0 f20.c0 κ n (f20.T0 s0 s1) (f20.H0 s0 s1)
    = f20.l0 L N (f20.X0_e0 κ) (f20.X0_r κ) n s0 s1 := by
  intro n
  induction n with
  | zero => intros; rfl
  | succ n ih =>
    intro s0 s1
    rw [evLp_succ, f20.s0_eq]
    delta f20.R0
    simp only [ih]
    rfl
theorem f20.p0_e0_eq {R : Type} (L N : Nat) (κ : AV → Option R) :
    (contAt (E20 L N) (evCallI (E20 L N) 1 2000) 1000 20 14 0 (codeOf Tryd.f20) (finK (E20 L N) 1000 Tryd.f20 (finC (.one .bool) κ))) (.exit 0) f20.T0_e0 f20.H0_e0
    = f20.p0_e0 L N (fun a0 => κ (.tv .bool a0)) := by kernel_rfl
theorem f20.p0_r_eq {R : Type} (L N : Nat) (κ : AV → Option R) (z2 : Bool) :
    (contAt (E20 L N) (evCallI (E20 L N) 1 2000) 1000 20 14 0 (codeOf Tryd.f20) (finK (E20 L N) 1000 Tryd.f20 (finC (.one .bool) κ))) .ret (f20.T0_r z2) (f20.H0_r z2)
    = f20.p0_r L N (fun a0 => κ (.tv .bool a0)) z2 := by kernel_rfl
theorem f20.b_eq {R : Type} (L N : Nat) (κ : AV → Option R) (x0 : LB) :
    evBody (E20 L N) (evCallI (E20 L N) 1 2000) 1000 20 Tryd.f20 [(.tv (.sl .bool) x0)] [] [] (finC (.one .bool) κ)
    = f20.b L N (fun a0 => κ (.tv .bool a0)) x0 := by
  refine Eq.trans (b := f20.b' L N (fun a0 => κ (.tv .bool a0)) (fun s0 s1 => evLp (E20 L N) (evCallI (E20 L N) 1 2000) 1000 20 14 0 f20.c0 (contAt (E20 L N) (evCallI (E20 L N) 1 2000) 1000 20 14 0 (codeOf Tryd.f20) (finK (E20 L N) 1000 Tryd.f20 (finC (.one .bool) κ))) L (f20.T0 s0 s1) (f20.H0 s0 s1)) x0) (by kernel_rfl) ?_
  unfold f20.b
  simp only [f20.l0_eq]
  delta f20.X0_e0 f20.X0_r
  simp only [f20.p0_e0_eq, f20.p0_r_eq]
theorem f20.ok (L N : Nat) (hΦ : TellsOk Tryd.prog ((Φ19 L N))) : EntOk Tryd.prog 20 (f20.ent L N) := entRo_ok (E := (E20 L N)) (dep := 1000) (f := Tryd.f20) (sound_of hΦ) okP (callI_sound (sound_of hΦ) okP 1 2000) rfl rfl fun d _ hy => (f20.b_eq L N (unR (.one .bool)) d.1).trans (Eq.trans (b := f20.b L N some d.1) (by kernel_rfl) hy)
def Φ20 (L N : Nat) : Tells := (addT (Φ19 L N) 20 (f20.ent L N))
theorem Φ20_ok (L N : Nat) : TellsOk Tryd.prog (Φ20 L N) := addT_ok (Φ19_ok L N) (f20.ok L N (Φ19_ok L N))
def f48.s0' {R : Type} (L N : Nat) (k0_e0 : Option R) (k0_r : Bool → Option R) (rec0 : LI → LI → Int → Option R) (s0 : LI) (s1 : LI) (s2 : Int) : Option R :=
  bif (decide (s2 < (s0.length : Int))) then
    bif (decide (0 ≤ s2) && decide (s2 < (s0.length : Int))) then
      bif (decide (0 ≤ s2) && decide (s2 < (s1.length : Int))) then
        bif ((listAt s0 (0 : Int) s2.toNat) != (listAt s1 (0 : Int) s2.toNat)) then
          k0_r false
        else rec0 s0 s1 (wi (s2 + (1 : Int)))
      else none
    else none
  else k0_e0
def f48.s0 {R : Type} (L N : Nat) (k0_e0 : Option R) (k0_r : Bool → Option R) (rec0 : LI → LI → Int → Option R) (s0 : LI) (s1 : LI) (s2 : Int) : Option R :=
  f48.s0' L N k0_e0 k0_r rec0 s0 s1 s2
def f48.l0 {R : Type} (L N : Nat) (k0_e0 : Option R) (k0_r : Bool → Option R) : Nat → LI → LI → Int → Option R
  | 0, _, _, _ => none
  | n + 1, s0, s1, s2 => f48.s0 L N k0_e0 k0_r (f48.l0 L N k0_e0 k0_r n) s0 s1 s2
def f48.T0 (s0 : LI) (s1 : LI) (s2 : Int) : T := mkT 26 [(0, (.tv (.sl i64) s0)), (1, (.tv (.sl i64) s1)), (5, (.tv i64 s2))]
def f48.H0 (s0 : LI) (s1 : LI) (s2 : Int) : H := []
def f48.T0_e0 : T := mkT 26 []
def f48.H0_e0 : H := []
def f48.T0_r (z3 : Bool) : T := mkT 26 [(4, (.tv .bool z3))]
def f48.H0_r (z3 : Bool) : H := []
def f48.p0_e0' {R : Type} (L N : Nat) (k : Bool → Option R) : Option R :=
  k true
def f48.p0_e0 {R : Type} (L N : Nat) (k : Bool → Option R) : Option R :=
  f48.p0_e0' L N k
def f48.p0_r' {R : Type} (L N : Nat) (k : Bool → Option R) (z3 : Bool) : Option R :=
  k z3
def f48.p0_r {R : Type} (L N : Nat) (k : Bool → Option R) (z3 : Bool) : Option R :=
  f48.p0_r' L N k z3
def f48.b' {R : Type} (L N : Nat) (k : Bool → Option R) (w0 : LI → LI → Int → Option R) (x0 : LI) (x1 : LI) : Option R :=
  bif ((x0.length : Int) != (x1.length : Int)) then
    k false
  else w0 x0 x1 (0 : Int)
def f48.b {R : Type} (L N : Nat) (k : Bool → Option R) (x0 : LI) (x1 : LI) : Option R :=
  f48.b' L N k (fun s0 s1 s2 => f48.l0 L N (f48.p0_e0 L N k) (fun z3 => f48.p0_r L N k z3) L s0 s1 s2) x0 x1
def f48 (L N : Nat) (x0 : LI) (x1 : LI) : Option (Bool) := f48.b L N some x0 x1
def f48.ent (L N : Nat) := entRo [(.sl i64), (.sl i64)] (.one .bool) fun d => f48 L N d.1 d.2.1
noncomputable def E48 (L N : Nat) : Env := { P := Tryd.prog, ty := tyOf, Φ := (Φ20 L N), inl := inlT, live := lives, liveX := livesX, L := L, dp := none, prom := promT, heal := healT, ren := renT }
noncomputable def f48.c0 : Code := loopAt 0 (codeOf Tryd.f48)
def f48.X0_e0 {R : Type} (κ : KX R) := κ (.exit 0) f48.T0_e0 f48.H0_e0
def f48.X0_r {R : Type} (κ : KX R) := fun z3 => κ .ret (f48.T0_r z3) (f48.H0_r z3)
def f48.R0 {R : Type} (rec : KT R) := fun s0 s1 s2 => rec (f48.T0 s0 s1 s2) (f48.H0 s0 s1 s2)
theorem f48.s0_eq {R : Type} (L N : Nat) (κ : KX R) (rec : KT R) (s0 : LI) (s1 : LI) (s2 : Int) :
    evRd (E48 L N) (evCallI (E48 L N) 1 2000) 1000 48 26 0 f48.c0 κ rec (f48.T0 s0 s1 s2) (f48.H0 s0 s1 s2)
    = f48.s0 L N (f48.X0_e0 κ) (f48.X0_r κ) (f48.R0 rec) s0 s1 s2 := by kernel_rfl
theorem f48.l0_eq {R : Type} (L N : Nat) (κ : KX R) : ∀ (n : Nat) (s0 : LI) (s1 : LI) (s2 : Int),
    evLp (E48 L N) (evCallI (E48 L N) 1 2000) 1000 48 26 0 f48.c0 κ n (f48.T0 s0 s1 s2) (f48.H0 s0 s1 s2)
    = f48.l0 L N (f48.X0_e0 κ) (f48.X0_r κ) n s0 s1 s2 := by
  intro n
  induction n with
  | zero => intros; rfl
  | succ n ih =>
    intro s0 s1 s2
    rw [evLp_succ, f48.s0_eq]
    delta f48.R0
    simp only [ih]
    rfl
theorem f48.p0_e0_eq {R : Type} (L N : Nat) (κ : AV → Option R) :
    (contAt (E48 L N) (evCallI (E48 L N) 1 2000) 1000 48 26 0 (codeOf Tryd.f48) (finK (E48 L N) 1000 Tryd.f48 (finC (.one .bool) κ))) (.exit 0) f48.T0_e0 f48.H0_e0
    = f48.p0_e0 L N (fun a0 => κ (.tv .bool a0)) := by kernel_rfl
theorem f48.p0_r_eq {R : Type} (L N : Nat) (κ : AV → Option R) (z3 : Bool) :
    (contAt (E48 L N) (evCallI (E48 L N) 1 2000) 1000 48 26 0 (codeOf Tryd.f48) (finK (E48 L N) 1000 Tryd.f48 (finC (.one .bool) κ))) .ret (f48.T0_r z3) (f48.H0_r z3)
    = f48.p0_r L N (fun a0 => κ (.tv .bool a0)) z3 := by kernel_rfl
theorem f48.b_eq {R : Type} (L N : Nat) (κ : AV → Option R) (x0 : LI) (x1 : LI) :
    evBody (E48 L N) (evCallI (E48 L N) 1 2000) 1000 48 Tryd.f48 [(.tv (.sl i64) x0), (.tv (.sl i64) x1)] [] [] (finC (.one .bool) κ)
    = f48.b L N (fun a0 => κ (.tv .bool a0)) x0 x1 := by
  refine Eq.trans (b := f48.b' L N (fun a0 => κ (.tv .bool a0)) (fun s0 s1 s2 => evLp (E48 L N) (evCallI (E48 L N) 1 2000) 1000 48 26 0 f48.c0 (contAt (E48 L N) (evCallI (E48 L N) 1 2000) 1000 48 26 0 (codeOf Tryd.f48) (finK (E48 L N) 1000 Tryd.f48 (finC (.one .bool) κ))) L (f48.T0 s0 s1 s2) (f48.H0 s0 s1 s2)) x0 x1) (by kernel_rfl) ?_
  unfold f48.b
  simp only [f48.l0_eq]
  delta f48.X0_e0 f48.X0_r
  simp only [f48.p0_e0_eq, f48.p0_r_eq]
theorem f48.ok (L N : Nat) (hΦ : TellsOk Tryd.prog ((Φ20 L N))) : EntOk Tryd.prog 48 (f48.ent L N) := entRo_ok (E := (E48 L N)) (dep := 1000) (f := Tryd.f48) (sound_of hΦ) okP (callI_sound (sound_of hΦ) okP 1 2000) rfl rfl fun d _ hy => (f48.b_eq L N (unR (.one .bool)) d.1 d.2.1).trans (Eq.trans (b := f48.b L N some d.1 d.2.1) (by kernel_rfl) hy)
def Φ48 (L N : Nat) : Tells := (addT (Φ20 L N) 48 (f48.ent L N))
theorem Φ48_ok (L N : Nat) : TellsOk Tryd.prog (Φ48 L N) := addT_ok (Φ20_ok L N) (f48.ok L N (Φ20_ok L N))
def f49.s0' {R : Type} (L N : Nat) (k0_e0 : LI → Option R) (rec0 : LB → Int → LI → Option R) (s0 : LB) (s1 : Int) (s2 : LI) : Option R :=
  bif (decide (s1 < (s0.length : Int))) then
    bif (decide (0 ≤ s1) && decide (s1 < (s0.length : Int))) then
      bif (listAt s0 false s1.toNat) then
        bif (decide (s2.length + ([s1] : LI).length ≤ lim)) then
          rec0 s0 (wi (s1 + (1 : Int))) (s2 ++ ([s1] : LI))
        else none
      else rec0 s0 (wi (s1 + (1 : Int))) s2
    else none
  else k0_e0 s2
def f49.s0 {R : Type} (L N : Nat) (k0_e0 : LI → Option R) (rec0 : LB → Int → LI → Option R) (s0 : LB) (s1 : Int) (s2 : LI) : Option R :=
  f49.s0' L N k0_e0 rec0 s0 s1 s2
def f49.l0 {R : Type} (L N : Nat) (k0_e0 : LI → Option R) : Nat → LB → Int → LI → Option R
  | 0, _, _, _ => none
  | n + 1, s0, s1, s2 => f49.s0 L N k0_e0 (f49.l0 L N k0_e0 n) s0 s1 s2
def f49.T0 (s0 : LB) (s1 : Int) (s2 : LI) : T := mkT 21 [(0, (.tv (.sl .bool) s0)), (3, (.row 1005)), (4, (.tv i64 s1))]
def f49.H0 (s0 : LB) (s1 : Int) (s2 : LI) : H := [(1005, (.row 3 i64 s2))]
def f49.T0_e0 (z3 : LI) : T := mkT 21 [(3, (.row 1005))]
def f49.H0_e0 (z3 : LI) : H := [(1005, (.row 3 i64 z3))]
def f49.p0_e0' {R : Type} (L N : Nat) (k : LI → Option R) (z3 : LI) : Option R :=
  k z3
def f49.p0_e0 {R : Type} (L N : Nat) (k : LI → Option R) (z3 : LI) : Option R :=
  f49.p0_e0' L N k z3
def f49.b' {R : Type} (L N : Nat) (k : LI → Option R) (w0 : LB → Int → LI → Option R) (x0 : LB) : Option R :=
  w0 x0 (0 : Int) ([] : LI)
def f49.b {R : Type} (L N : Nat) (k : LI → Option R) (x0 : LB) : Option R :=
  f49.b' L N k (fun s0 s1 s2 => f49.l0 L N (fun z3 => f49.p0_e0 L N k z3) L s0 s1 s2) x0
def f49 (L N : Nat) (x0 : LB) : Option (LI) := f49.b L N some x0
def f49.ent (L N : Nat) := entDa [(.sl .bool)] (.one (.sl i64)) fun d => f49 L N d.1
noncomputable def E49 (L N : Nat) : Env := { P := Tryd.prog, ty := tyOf, Φ := (Φ48 L N), inl := inlT, live := lives, liveX := livesX, L := L, dp := none, prom := promT, heal := healT, ren := renT }
noncomputable def f49.c0 : Code := loopAt 0 (codeOf Tryd.f49)
def f49.X0_e0 {R : Type} (κ : KX R) := fun z3 => κ (.exit 0) (f49.T0_e0 z3) (f49.H0_e0 z3)
def f49.R0 {R : Type} (rec : KT R) := fun s0 s1 s2 => rec (f49.T0 s0 s1 s2) (f49.H0 s0 s1 s2)
theorem f49.s0_eq {R : Type} (L N : Nat) (κ : KX R) (rec : KT R) (s0 : LB) (s1 : Int) (s2 : LI) :
    evRd (E49 L N) (evCallI (E49 L N) 1 2000) 1000 49 21 0 f49.c0 κ rec (f49.T0 s0 s1 s2) (f49.H0 s0 s1 s2)
    = f49.s0 L N (f49.X0_e0 κ) (f49.R0 rec) s0 s1 s2 := by kernel_rfl
theorem f49.l0_eq {R : Type} (L N : Nat) (κ : KX R) : ∀ (n : Nat) (s0 : LB) (s1 : Int) (s2 : LI),
    evLp (E49 L N) (evCallI (E49 L N) 1 2000) 1000 49 21 0 f49.c0 κ n (f49.T0 s0 s1 s2) (f49.H0 s0 s1 s2)
    = f49.l0 L N (f49.X0_e0 κ) n s0 s1 s2 := by
  intro n
  induction n with
  | zero => intros; rfl
  | succ n ih =>
    intro s0 s1 s2
    rw [evLp_succ, f49.s0_eq]
    delta f49.R0
    simp only [ih]
    rfl
theorem f49.p0_e0_eq {R : Type} (L N : Nat) (κ : AV → Option R) (z3 : LI) :
    (contAt (E49 L N) (evCallI (E49 L N) 1 2000) 1000 49 21 0 (codeOf Tryd.f49) (finK (E49 L N) 1000 Tryd.f49 (finC (.one (.sl i64)) κ))) (.exit 0) (f49.T0_e0 z3) (f49.H0_e0 z3)
    = f49.p0_e0 L N (fun a0 => κ (.tv (.sl i64) a0)) z3 := by kernel_rfl
theorem f49.b_eq {R : Type} (L N : Nat) (κ : AV → Option R) (x0 : LB) :
    evBody (E49 L N) (evCallI (E49 L N) 1 2000) 1000 49 Tryd.f49 [(.tv (.sl .bool) x0)] [] [] (finC (.one (.sl i64)) κ)
    = f49.b L N (fun a0 => κ (.tv (.sl i64) a0)) x0 := by
  refine Eq.trans (b := f49.b' L N (fun a0 => κ (.tv (.sl i64) a0)) (fun s0 s1 s2 => evLp (E49 L N) (evCallI (E49 L N) 1 2000) 1000 49 21 0 f49.c0 (contAt (E49 L N) (evCallI (E49 L N) 1 2000) 1000 49 21 0 (codeOf Tryd.f49) (finK (E49 L N) 1000 Tryd.f49 (finC (.one (.sl i64)) κ))) L (f49.T0 s0 s1 s2) (f49.H0 s0 s1 s2)) x0) (by kernel_rfl) ?_
  unfold f49.b
  simp only [f49.l0_eq]
  delta f49.X0_e0
  simp only [f49.p0_e0_eq]
theorem f49.ok (L N : Nat) (hΦ : TellsOk Tryd.prog ((Φ48 L N))) : EntOk Tryd.prog 49 (f49.ent L N) := entDa_ok (E := (E49 L N)) (dep := 1000) (f := Tryd.f49) (sound_of hΦ) okP (callI_sound (sound_of hΦ) okP 1 2000) rfl fun d _ hy => (f49.b_eq L N (unR (.one (.sl i64))) d.1).trans (Eq.trans (b := f49.b L N some d.1) (by kernel_rfl) hy)
def Φ49 (L N : Nat) : Tells := (addT (Φ48 L N) 49 (f49.ent L N))
theorem Φ49_ok (L N : Nat) : TellsOk Tryd.prog (Φ49 L N) := addT_ok (Φ48_ok L N) (f49.ok L N (Φ48_ok L N))
def f21.s0' {R : Type} (L N : Nat) (k0_e0 : LLB → Option R) (k0_r : LLB → Int → Option R) (rec0 : LLB → LB → Int → Option R) (s0 : LLB) (s1 : LB) (s2 : Int) : Option R :=
  bif (decide (s2 < (s0.length : Int))) then
    bif (decide (0 ≤ s2) && decide (s2 < (s0.length : Int))) then
      (f49 L N (listAt s0 [] s2.toNat)).bind fun y4 =>
      (f49 L N s1).bind fun y5 =>
      (f48 L N y4 y5).bind fun y6 =>
      bif y6 then
        k0_r s0 s2
      else rec0 s0 s1 (wi (s2 + (1 : Int)))
    else none
  else k0_e0 s0
def f21.s0 {R : Type} (L N : Nat) (k0_e0 : LLB → Option R) (k0_r : LLB → Int → Option R) (rec0 : LLB → LB → Int → Option R) (s0 : LLB) (s1 : LB) (s2 : Int) : Option R :=
  f21.s0' L N k0_e0 k0_r rec0 s0 s1 s2
def f21.l0 {R : Type} (L N : Nat) (k0_e0 : LLB → Option R) (k0_r : LLB → Int → Option R) : Nat → LLB → LB → Int → Option R
  | 0, _, _, _ => none
  | n + 1, s0, s1, s2 => f21.s0 L N k0_e0 k0_r (f21.l0 L N k0_e0 k0_r n) s0 s1 s2
def f21.T0 (s0 : LLB) (s1 : LB) (s2 : Int) : T := mkT 23 [(0, (.tv (.sl (.sl .bool)) s0)), (1, (.tv (.sl .bool) s1)), (5, (.tv i64 s2))]
def f21.H0 (s0 : LLB) (s1 : LB) (s2 : Int) : H := []
def f21.T0_e0 (z3 : LLB) : T := mkT 23 [(0, (.tv (.sl (.sl .bool)) z3))]
def f21.H0_e0 (z3 : LLB) : H := []
def f21.T0_r (z7 : LLB) (z8 : Int) : T := mkT 23 [(0, (.tv (.sl (.sl .bool)) z7)), (4, (.tv i64 z8))]
def f21.H0_r (z7 : LLB) (z8 : Int) : H := []
def f21.p0_e0' {R : Type} (L N : Nat) (k : Int → Option R) (z3 : LLB) : Option R :=
  k (z3.length : Int)
def f21.p0_e0 {R : Type} (L N : Nat) (k : Int → Option R) (z3 : LLB) : Option R :=
  f21.p0_e0' L N k z3
def f21.p0_r' {R : Type} (L N : Nat) (k : Int → Option R) (z7 : LLB) (z8 : Int) : Option R :=
  k z8
def f21.p0_r {R : Type} (L N : Nat) (k : Int → Option R) (z7 : LLB) (z8 : Int) : Option R :=
  f21.p0_r' L N k z7 z8
def f21.b' {R : Type} (L N : Nat) (k : Int → Option R) (w0 : LLB → LB → Int → Option R) (x0 : LLB) (x1 : LB) : Option R :=
  w0 x0 x1 (0 : Int)
def f21.b {R : Type} (L N : Nat) (k : Int → Option R) (x0 : LLB) (x1 : LB) : Option R :=
  f21.b' L N k (fun s0 s1 s2 => f21.l0 L N (fun z3 => f21.p0_e0 L N k z3) (fun z7 z8 => f21.p0_r L N k z7 z8) L s0 s1 s2) x0 x1
def f21 (L N : Nat) (x0 : LLB) (x1 : LB) : Option (Int) := f21.b L N some x0 x1
def f21.ent (L N : Nat) := entRo [(.sl (.sl .bool)), (.sl .bool)] (.one i64) fun d => f21 L N d.1 d.2.1
noncomputable def E21 (L N : Nat) : Env := { P := Tryd.prog, ty := tyOf, Φ := (Φ49 L N), inl := inlT, live := lives, liveX := livesX, L := L, dp := none, prom := promT, heal := healT, ren := renT }
noncomputable def f21.c0 : Code := loopAt 0 (codeOf Tryd.f21)
def f21.X0_e0 {R : Type} (κ : KX R) := fun z3 => κ (.exit 0) (f21.T0_e0 z3) (f21.H0_e0 z3)
def f21.X0_r {R : Type} (κ : KX R) := fun z7 z8 => κ .ret (f21.T0_r z7 z8) (f21.H0_r z7 z8)
def f21.R0 {R : Type} (rec : KT R) := fun s0 s1 s2 => rec (f21.T0 s0 s1 s2) (f21.H0 s0 s1 s2)
theorem f21.s0_eq {R : Type} (L N : Nat) (κ : KX R) (rec : KT R) (s0 : LLB) (s1 : LB) (s2 : Int) :
    evRd (E21 L N) (evCallI (E21 L N) 1 2000) 1000 21 23 0 f21.c0 κ rec (f21.T0 s0 s1 s2) (f21.H0 s0 s1 s2)
    = f21.s0 L N (f21.X0_e0 κ) (f21.X0_r κ) (f21.R0 rec) s0 s1 s2 := by kernel_rfl
theorem f21.l0_eq {R : Type} (L N : Nat) (κ : KX R) : ∀ (n : Nat) (s0 : LLB) (s1 : LB) (s2 : Int),
    evLp (E21 L N) (evCallI (E21 L N) 1 2000) 1000 21 23 0 f21.c0 κ n (f21.T0 s0 s1 s2) (f21.H0 s0 s1 s2)
    = f21.l0 L N (f21.X0_e0 κ) (f21.X0_r κ) n s0 s1 s2 := by
  intro n
  induction n with
  | zero => intros; rfl
  | succ n ih =>
    intro s0 s1 s2
    rw [evLp_succ, f21.s0_eq]
    delta f21.R0
    simp only [ih]
    rfl
theorem f21.p0_e0_eq {R : Type} (L N : Nat) (κ : AV → Option R) (z3 : LLB) :
    (contAt (E21 L N) (evCallI (E21 L N) 1 2000) 1000 21 23 0 (codeOf Tryd.f21) (finK (E21 L N) 1000 Tryd.f21 (finC (.one i64) κ))) (.exit 0) (f21.T0_e0 z3) (f21.H0_e0 z3)
    = f21.p0_e0 L N (fun a0 => κ (.tv i64 a0)) z3 := by kernel_rfl
theorem f21.p0_r_eq {R : Type} (L N : Nat) (κ : AV → Option R) (z7 : LLB) (z8 : Int) :
    (contAt (E21 L N) (evCallI (E21 L N) 1 2000) 1000 21 23 0 (codeOf Tryd.f21) (finK (E21 L N) 1000 Tryd.f21 (finC (.one i64) κ))) .ret (f21.T0_r z7 z8) (f21.H0_r z7 z8)
    = f21.p0_r L N (fun a0 => κ (.tv i64 a0)) z7 z8 := by kernel_rfl
theorem f21.b_eq {R : Type} (L N : Nat) (κ : AV → Option R) (x0 : LLB) (x1 : LB) :
    evBody (E21 L N) (evCallI (E21 L N) 1 2000) 1000 21 Tryd.f21 [(.tv (.sl (.sl .bool)) x0), (.tv (.sl .bool) x1)] [] [] (finC (.one i64) κ)
    = f21.b L N (fun a0 => κ (.tv i64 a0)) x0 x1 := by
  refine Eq.trans (b := f21.b' L N (fun a0 => κ (.tv i64 a0)) (fun s0 s1 s2 => evLp (E21 L N) (evCallI (E21 L N) 1 2000) 1000 21 23 0 f21.c0 (contAt (E21 L N) (evCallI (E21 L N) 1 2000) 1000 21 23 0 (codeOf Tryd.f21) (finK (E21 L N) 1000 Tryd.f21 (finC (.one i64) κ))) L (f21.T0 s0 s1 s2) (f21.H0 s0 s1 s2)) x0 x1) (by kernel_rfl) ?_
  unfold f21.b
  simp only [f21.l0_eq]
  delta f21.X0_e0 f21.X0_r
  simp only [f21.p0_e0_eq, f21.p0_r_eq]
theorem f21.ok (L N : Nat) (hΦ : TellsOk Tryd.prog ((Φ49 L N))) : EntOk Tryd.prog 21 (f21.ent L N) := entRo_ok (E := (E21 L N)) (dep := 1000) (f := Tryd.f21) (sound_of hΦ) okP (callI_sound (sound_of hΦ) okP 1 2000) rfl rfl fun d _ hy => (f21.b_eq L N (unR (.one i64)) d.1 d.2.1).trans (Eq.trans (b := f21.b L N some d.1 d.2.1) (by kernel_rfl) hy)
def Φ21 (L N : Nat) : Tells := (addT (Φ49 L N) 21 (f21.ent L N))
theorem Φ21_ok (L N : Nat) : TellsOk Tryd.prog (Φ21 L N) := addT_ok (Φ49_ok L N) (f21.ok L N (Φ49_ok L N))
def f10.j0' {R : Type} (L N : Nat) (k1_e2 : Int → LLM → LLB → LM → LLM → Option R) (k1_r : Bool → Int → LLM → LLB → LM → LLM → Option R) (rec1 : Int → Int → LLM → LLB → LM → LLM → Option R) (v28 : Int) (v29 : Int) (v30 : LB) (v31 : LLM) (v32 : LLB) (v33 : LM) (v34 : LLM) : Option R :=
  (f21 L N v32 v30).bind fun y35 =>
  bif (y35 == (60 : Int)) then
    k1_r false v28 v31 v32 v33 v34
  else bif (y35 == (v32.length : Int)) then
    bif (decide (v32.length + ([v30] : LLB).length ≤ lim)) then
      bif (decide (v33.length + ([(Move.mk v29 y35)] : LM).length ≤ lim)) then
        rec1 v28 (wi (v29 + (1 : Int))) v31 (v32 ++ ([v30] : LLB)) (v33 ++ ([(Move.mk v29 y35)] : LM)) v34
      else none
    else none
  else bif (decide (v33.length + ([(Move.mk v29 y35)] : LM).length ≤ lim)) then
    rec1 v28 (wi (v29 + (1 : Int))) v31 v32 (v33 ++ ([(Move.mk v29 y35)] : LM)) v34
  else none
def f10.s1' {R : Type} (L N : Nat) (k1_e2 : Int → LLM → LLB → LM → LLM → Option R) (k1_r : Bool → Int → LLM → LLB → LM → LLM → Option R) (rec1 : Int → Int → LLM → LLB → LM → LLM → Option R) (s7 : Int) (s8 : Int) (s9 : LLM) (s10 : LLB) (s11 : LM) (s12 : LLM) : Option R :=
  bif (decide (s8 ≤ (4 : Int))) then
    bif (decide (0 ≤ s7) && decide (s7 < (s10.length : Int))) then
      (f19 L N (Graph.mk s9) (listAt s10 [] s7.toNat) s8).bind fun y18 =>
      bif (s8 == (0 : Int)) then
        rec1 s7 (wi (s8 + (1 : Int))) s9 s10 s11 s12
      else (f20 L N y18).bind fun y19 =>
      bif (!y19) then
        rec1 s7 (wi (s8 + (1 : Int))) s9 s10 s11 s12
      else f10.j0' L N k1_e2 k1_r rec1 s7 s8 y18 s9 s10 s11 s12
    else none
  else k1_e2 s7 s9 s10 s11 s12
def f10.s1 {R : Type} (L N : Nat) (k1_e2 : Int → LLM → LLB → LM → LLM → Option R) (k1_r : Bool → Int → LLM → LLB → LM → LLM → Option R) (rec1 : Int → Int → LLM → LLB → LM → LLM → Option R) (s7 : Int) (s8 : Int) (s9 : LLM) (s10 : LLB) (s11 : LM) (s12 : LLM) : Option R :=
  f10.s1' L N k1_e2 k1_r rec1 s7 s8 s9 s10 s11 s12
def f10.l1 {R : Type} (L N : Nat) (k1_e2 : Int → LLM → LLB → LM → LLM → Option R) (k1_r : Bool → Int → LLM → LLB → LM → LLM → Option R) : Nat → Int → Int → LLM → LLB → LM → LLM → Option R
  | 0, _, _, _, _, _, _ => none
  | n + 1, s7, s8, s9, s10, s11, s12 => f10.s1 L N k1_e2 k1_r (f10.l1 L N k1_e2 k1_r n) s7 s8 s9 s10 s11 s12
def f10.T1 (s7 : Int) (s8 : Int) (s9 : LLM) (s10 : LLB) (s11 : LM) (s12 : LLM) : T := mkT 71 [(1, (.ptr 1001 0)), (2, (.ptr 1002 0)), (4, (.row 1017)), (5, (.ptr 1005 0)), (6, (.tv i64 s7)), (7, (.row 1025)), (8, (.tv i64 s8))]
def f10.H1 (s7 : Int) (s8 : Int) (s9 : LLM) (s10 : LLB) (s11 : LM) (s12 : LLM) : H := [(1001, (.box [(.tv (.sl (.sl (.st 0))) s9)])), (1002, (.box [.nil])), (1005, (.box [(.row 1900)])), (1017, (.row 39 (.sl .bool) s10)), (1025, (.row 56 (.st 0) s11)), (1900, (.row 54 (.sl (.st 0)) s12))]
def f10.T1_e2 (z13 : Int) (z14 : LLM) (z15 : LLB) (z16 : LM) (z17 : LLM) : T := mkT 71 [(1, (.ptr 1001 0)), (2, (.ptr 1002 0)), (4, (.row 1017)), (5, (.ptr 1005 0)), (6, (.tv i64 z13)), (7, (.row 1025))]
def f10.H1_e2 (z13 : Int) (z14 : LLM) (z15 : LLB) (z16 : LM) (z17 : LLM) : H := [(1001, (.box [(.tv (.sl (.sl (.st 0))) z14)])), (1002, (.box [.nil])), (1005, (.box [(.row 1900)])), (1017, (.row 39 (.sl .bool) z15)), (1025, (.row 56 (.st 0) z16)), (1900, (.row 54 (.sl (.st 0)) z17))]
def f10.T1_r (z36 : Bool) (z37 : Int) (z38 : LLM) (z39 : LLB) (z40 : LM) (z41 : LLM) : T := mkT 71 [(1, (.ptr 1001 0)), (2, (.ptr 1002 0)), (3, (.tv .bool z36)), (4, (.row 1017)), (5, (.ptr 1005 0)), (6, (.tv i64 z37)), (7, (.row 1025))]
def f10.H1_r (z36 : Bool) (z37 : Int) (z38 : LLM) (z39 : LLB) (z40 : LM) (z41 : LLM) : H := [(1001, (.box [(.tv (.sl (.sl (.st 0))) z38)])), (1002, (.box [.nil])), (1005, (.box [(.row 1900)])), (1017, (.row 39 (.sl .bool) z39)), (1025, (.row 56 (.st 0) z40)), (1900, (.row 54 (.sl (.st 0)) z41))]
def f10.p1_e2' {R : Type} (L N : Nat) (k0_e0 : LLM → Option R) (k0_r : Bool → LLM → Option R) (rec0 : Int → LLM → LLB → LLM → Option R) (z13 : Int) (z14 : LLM) (z15 : LLB) (z16 : LM) (z17 : LLM) : Option R :=
  bif (decide (z17.length + ([z16] : LLM).length ≤ lim)) then
    rec0 (wi (z13 + (1 : Int))) z14 z15 (z17 ++ ([z16] : LLM))
  else none
def f10.p1_e2 {R : Type} (L N : Nat) (k0_e0 : LLM → Option R) (k0_r : Bool → LLM → Option R) (rec0 : Int → LLM → LLB → LLM → Option R) (z13 : Int) (z14 : LLM) (z15 : LLB) (z16 : LM) (z17 : LLM) : Option R :=
  f10.p1_e2' L N k0_e0 k0_r rec0 z13 z14 z15 z16 z17
def f10.p1_r' {R : Type} (L N : Nat) (k0_e0 : LLM → Option R) (k0_r : Bool → LLM → Option R) (rec0 : Int → LLM → LLB → LLM → Option R) (z36 : Bool) (z37 : Int) (z38 : LLM) (z39 : LLB) (z40 : LM) (z41 : LLM) : Option R :=
  k0_r z36 z41
def f10.p1_r {R : Type} (L N : Nat) (k0_e0 : LLM → Option R) (k0_r : Bool → LLM → Option R) (rec0 : Int → LLM → LLB → LLM → Option R) (z36 : Bool) (z37 : Int) (z38 : LLM) (z39 : LLB) (z40 : LM) (z41 : LLM) : Option R :=
  f10.p1_r' L N k0_e0 k0_r rec0 z36 z37 z38 z39 z40 z41
def f10.s0' {R : Type} (L N : Nat) (k0_e0 : LLM → Option R) (k0_r : Bool → LLM → Option R) (rec0 : Int → LLM → LLB → LLM → Option R) (w1 : Int → Int → LLM → LLB → LM → LLM → Option R) (s2 : Int) (s3 : LLM) (s4 : LLB) (s5 : LLM) : Option R :=
  bif (decide (s2 < (s4.length : Int))) then
    w1 s2 (-4 : Int) s3 s4 ([] : LM) s5
  else k0_e0 s5
def f10.s0 {R : Type} (L N : Nat) (k0_e0 : LLM → Option R) (k0_r : Bool → LLM → Option R) (rec0 : Int → LLM → LLB → LLM → Option R) (s2 : Int) (s3 : LLM) (s4 : LLB) (s5 : LLM) : Option R :=
  f10.s0' L N k0_e0 k0_r rec0 (fun s7 s8 s9 s10 s11 s12 => f10.l1 L N (fun z13 z14 z15 z16 z17 => f10.p1_e2 L N k0_e0 k0_r rec0 z13 z14 z15 z16 z17) (fun z36 z37 z38 z39 z40 z41 => f10.p1_r L N k0_e0 k0_r rec0 z36 z37 z38 z39 z40 z41) L s7 s8 s9 s10 s11 s12) s2 s3 s4 s5
def f10.l0 {R : Type} (L N : Nat) (k0_e0 : LLM → Option R) (k0_r : Bool → LLM → Option R) : Nat → Int → LLM → LLB → LLM → Option R
  | 0, _, _, _, _ => none
  | n + 1, s2, s3, s4, s5 => f10.s0 L N k0_e0 k0_r (f10.l0 L N k0_e0 k0_r n) s2 s3 s4 s5
def f10.T0 (s2 : Int) (s3 : LLM) (s4 : LLB) (s5 : LLM) : T := mkT 71 [(1, (.ptr 1001 0)), (2, (.ptr 1002 0)), (4, (.row 1017)), (5, (.ptr 1005 0)), (6, (.tv i64 s2))]
def f10.H0 (s2 : Int) (s3 : LLM) (s4 : LLB) (s5 : LLM) : H := [(1001, (.box [(.tv (.sl (.sl (.st 0))) s3)])), (1002, (.box [.nil])), (1005, (.box [(.row 1900)])), (1017, (.row 39 (.sl .bool) s4)), (1900, (.row 54 (.sl (.st 0)) s5))]
def f10.T0_e0 (z6 : LLM) : T := mkT 71 [(2, (.ptr 1002 0)), (5, (.ptr 1005 0))]
def f10.H0_e0 (z6 : LLM) : H := [(1002, (.box [.nil])), (1005, (.box [(.row 1900)])), (1900, (.row 54 (.sl (.st 0)) z6))]
def f10.T0_r (z55 : Bool) (z56 : LLM) : T := mkT 71 [(2, (.ptr 1002 0)), (3, (.tv .bool z55)), (5, (.ptr 1005 0))]
def f10.H0_r (z55 : Bool) (z56 : LLM) : H := [(1002, (.box [.nil])), (1005, (.box [(.row 1900)])), (1900, (.row 54 (.sl (.st 0)) z56))]
def f10.p0_e0' {R : Type} (L N : Nat) (k : Graph → Bool → Option R) (z6 : LLM) : Option R :=
  k (Graph.mk z6) true
def f10.p0_e0 {R : Type} (L N : Nat) (k : Graph → Bool → Option R) (z6 : LLM) : Option R :=
  f10.p0_e0' L N k z6
def f10.p0_r' {R : Type} (L N : Nat) (k : Graph → Bool → Option R) (z55 : Bool) (z56 : LLM) : Option R :=
  k (Graph.mk []) z55
def f10.p0_r {R : Type} (L N : Nat) (k : Graph → Bool → Option R) (z55 : Bool) (z56 : LLM) : Option R :=
  f10.p0_r' L N k z55 z56
def f10.b' {R : Type} (L N : Nat) (k : Graph → Bool → Option R) (w0 : Int → LLM → LLB → LLM → Option R) (x0 : Graph) : Option R :=
  (f15 L N (Graph.mk x0.moves)).bind fun y0 =>
  bif (!y0) then
    k (Graph.mk []) false
  else (f17 L N (Graph.mk x0.moves)).bind fun y1 =>
  w0 (0 : Int) x0.moves ([y1] : LLB) ([] : LLM)
def f10.b {R : Type} (L N : Nat) (k : Graph → Bool → Option R) (x0 : Graph) : Option R :=
  f10.b' L N k (fun s2 s3 s4 s5 => f10.l0 L N (fun z6 => f10.p0_e0 L N k z6) (fun z55 z56 => f10.p0_r L N k z55 z56) L s2 s3 s4 s5) x0
def f10 (L N : Nat) (x0 : Graph) : Option (Graph × Bool) := f10.b L N (fun a0 a1 => some (a0, a1)) x0
def f10.ent (L N : Nat) := entDa [(.st 2)] (.many [(.st 2), .bool]) fun d => f10 L N d.1
noncomputable def E10 (L N : Nat) : Env := { P := Tryd.prog, ty := tyOf, Φ := (Φ21 L N), inl := inlT, live := lives, liveX := livesX, L := L, dp := none, prom := promT, heal := healT, ren := renT }
noncomputable def f10.c0 : Code := loopAt 0 (codeOf Tryd.f10)
noncomputable def f10.c1 : Code := loopAt 2 f10.c0
def f10.X1_e2 {R : Type} (κ : KX R) := fun z13 z14 z15 z16 z17 => κ (.exit 2) (f10.T1_e2 z13 z14 z15 z16 z17) (f10.H1_e2 z13 z14 z15 z16 z17)
def f10.X1_r {R : Type} (κ : KX R) := fun z36 z37 z38 z39 z40 z41 => κ .ret (f10.T1_r z36 z37 z38 z39 z40 z41) (f10.H1_r z36 z37 z38 z39 z40 z41)
def f10.R1 {R : Type} (rec : KT R) := fun s7 s8 s9 s10 s11 s12 => rec (f10.T1 s7 s8 s9 s10 s11 s12) (f10.H1 s7 s8 s9 s10 s11 s12)
theorem f10.s1_eq {R : Type} (L N : Nat) (κ : KX R) (rec : KT R) (s7 : Int) (s8 : Int) (s9 : LLM) (s10 : LLB) (s11 : LM) (s12 : LLM) :
    evRd (E10 L N) (evCallI (E10 L N) 1 2000) 1000 10 71 2 f10.c1 κ rec (f10.T1 s7 s8 s9 s10 s11 s12) (f10.H1 s7 s8 s9 s10 s11 s12)
    = f10.s1 L N (f10.X1_e2 κ) (f10.X1_r κ) (f10.R1 rec) s7 s8 s9 s10 s11 s12 := by kernel_rfl
theorem f10.l1_eq {R : Type} (L N : Nat) (κ : KX R) : ∀ (n : Nat) (s7 : Int) (s8 : Int) (s9 : LLM) (s10 : LLB) (s11 : LM) (s12 : LLM),
    evLp (E10 L N) (evCallI (E10 L N) 1 2000) 1000 10 71 2 f10.c1 κ n (f10.T1 s7 s8 s9 s10 s11 s12) (f10.H1 s7 s8 s9 s10 s11 s12)
    = f10.l1 L N (f10.X1_e2 κ) (f10.X1_r κ) n s7 s8 s9 s10 s11 s12 := by
  intro n
  induction n with
  | zero => intros; rfl
  | succ n ih =>
    intro s7 s8 s9 s10 s11 s12
    rw [evLp_succ, f10.s1_eq]
    delta f10.R1
    simp only [ih]
    rfl
def f10.X0_e0 {R : Type} (κ : KX R) := fun z6 => κ (.exit 0) (f10.T0_e0 z6) (f10.H0_e0 z6)
def f10.X0_r {R : Type} (κ : KX R) := fun z55 z56 => κ .ret (f10.T0_r z55 z56) (f10.H0_r z55 z56)
def f10.R0 {R : Type} (rec : KT R) := fun s2 s3 s4 s5 => rec (f10.T0 s2 s3 s4 s5) (f10.H0 s2 s3 s4 s5)
theorem f10.p1_e2_eq {R : Type} (L N : Nat) (κ : KX R) (rec : KT R) (z13 : Int) (z14 : LLM) (z15 : LLB) (z16 : LM) (z17 : LLM) :
    (contAt (E10 L N) (evCallI (E10 L N) 1 2000) 1000 10 71 2 f10.c0 (rdK (E10 L N) 1000 10 71 0 κ rec)) (.exit 2) (f10.T1_e2 z13 z14 z15 z16 z17) (f10.H1_e2 z13 z14 z15 z16 z17)
    = f10.p1_e2 L N (f10.X0_e0 κ) (f10.X0_r κ) (f10.R0 rec) z13 z14 z15 z16 z17 := by kernel_rfl
theorem f10.p1_r_eq {R : Type} (L N : Nat) (κ : KX R) (rec : KT R) (z36 : Bool) (z37 : Int) (z38 : LLM) (z39 : LLB) (z40 : LM) (z41 : LLM) :
    (contAt (E10 L N) (evCallI (E10 L N) 1 2000) 1000 10 71 2 f10.c0 (rdK (E10 L N) 1000 10 71 0 κ rec)) .ret (f10.T1_r z36 z37 z38 z39 z40 z41) (f10.H1_r z36 z37 z38 z39 z40 z41)
    = f10.p1_r L N (f10.X0_e0 κ) (f10.X0_r κ) (f10.R0 rec) z36 z37 z38 z39 z40 z41 := by kernel_rfl
theorem f10.s0_eq {R : Type} (L N : Nat) (κ : KX R) (rec : KT R) (s2 : Int) (s3 : LLM) (s4 : LLB) (s5 : LLM) :
    evRd (E10 L N) (evCallI (E10 L N) 1 2000) 1000 10 71 0 f10.c0 κ rec (f10.T0 s2 s3 s4 s5) (f10.H0 s2 s3 s4 s5)
    = f10.s0 L N (f10.X0_e0 κ) (f10.X0_r κ) (f10.R0 rec) s2 s3 s4 s5 := by
  refine Eq.trans (b := f10.s0' L N (f10.X0_e0 κ) (f10.X0_r κ) (f10.R0 rec) (fun s7 s8 s9 s10 s11 s12 => evLp (E10 L N) (evCallI (E10 L N) 1 2000) 1000 10 71 2 f10.c1 (contAt (E10 L N) (evCallI (E10 L N) 1 2000) 1000 10 71 2 f10.c0 (rdK (E10 L N) 1000 10 71 0 κ rec)) L (f10.T1 s7 s8 s9 s10 s11 s12) (f10.H1 s7 s8 s9 s10 s11 s12)) s2 s3 s4 s5) (by kernel_rfl) ?_
  unfold f10.s0
  simp only [f10.l1_eq]
  delta f10.X1_e2 f10.X1_r
  simp only [f10.p1_e2_eq, f10.p1_r_eq]
theorem f10.l0_eq {R : Type} (L N : Nat) (κ : KX R) : ∀ (n : Nat) (s2 : Int) (s3 : LLM) (s4 : LLB) (s5 : LLM),
    evLp (E10 L N) (evCallI (E10 L N) 1 2000) 1000 10 71 0 f10.c0 κ n (f10.T0 s2 s3 s4 s5) (f10.H0 s2 s3 s4 s5)
    = f10.l0 L N (f10.X0_e0 κ) (f10.X0_r κ) n s2 s3 s4 s5 := by
  intro n
  induction n with
  | zero => intros; rfl
  | succ n ih =>
    intro s2 s3 s4 s5
    rw [evLp_succ, f10.s0_eq]
    delta f10.R0
    simp only [ih]
    rfl
theorem f10.p0_e0_eq {R : Type} (L N : Nat) (κ : AV → Option R) (z6 : LLM) :
    (contAt (E10 L N) (evCallI (E10 L N) 1 2000) 1000 10 71 0 (codeOf Tryd.f10) (finK (E10 L N) 1000 Tryd.f10 (finC (.many [(.st 2), .bool]) κ))) (.exit 0) (f10.T0_e0 z6) (f10.H0_e0 z6)
    = f10.p0_e0 L N (fun a0 a1 => κ (.tup [(.tv (.st 2) a0), (.tv .bool a1)])) z6 := by kernel_rfl
theorem f10.p0_r_eq {R : Type} (L N : Nat) (κ : AV → Option R) (z55 : Bool) (z56 : LLM) :
    (contAt (E10 L N) (evCallI (E10 L N) 1 2000) 1000 10 71 0 (codeOf Tryd.f10) (finK (E10 L N) 1000 Tryd.f10 (finC (.many [(.st 2), .bool]) κ))) .ret (f10.T0_r z55 z56) (f10.H0_r z55 z56)
    = f10.p0_r L N (fun a0 a1 => κ (.tup [(.tv (.st 2) a0), (.tv .bool a1)])) z55 z56 := by kernel_rfl
theorem f10.b_eq {R : Type} (L N : Nat) (κ : AV → Option R) (x0 : Graph) :
    evBody (E10 L N) (evCallI (E10 L N) 1 2000) 1000 10 Tryd.f10 [(.tv (.st 2) x0)] [] [] (finC (.many [(.st 2), .bool]) κ)
    = f10.b L N (fun a0 a1 => κ (.tup [(.tv (.st 2) a0), (.tv .bool a1)])) x0 := by
  refine Eq.trans (b := f10.b' L N (fun a0 a1 => κ (.tup [(.tv (.st 2) a0), (.tv .bool a1)])) (fun s2 s3 s4 s5 => evLp (E10 L N) (evCallI (E10 L N) 1 2000) 1000 10 71 0 f10.c0 (contAt (E10 L N) (evCallI (E10 L N) 1 2000) 1000 10 71 0 (codeOf Tryd.f10) (finK (E10 L N) 1000 Tryd.f10 (finC (.many [(.st 2), .bool]) κ))) L (f10.T0 s2 s3 s4 s5) (f10.H0 s2 s3 s4 s5)) x0) (by kernel_rfl) ?_
  unfold f10.b
  simp only [f10.l0_eq]
  delta f10.X0_e0 f10.X0_r
  simp only [f10.p0_e0_eq, f10.p0_r_eq]
theorem f10.ok (L N : Nat) (hΦ : TellsOk Tryd.prog ((Φ21 L N))) : EntOk Tryd.prog 10 (f10.ent L N) := entDa_ok (E := (E10 L N)) (dep := 1000) (f := Tryd.f10) (sound_of hΦ) okP (callI_sound (sound_of hΦ) okP 1 2000) rfl fun d _ hy => (f10.b_eq L N (unR (.many [(.st 2), .bool])) d.1).trans (Eq.trans (b := f10.b L N (fun a0 a1 => some (a0, a1)) d.1) (by kernel_rfl) hy)
def Φ10 (L N : Nat) : Tells := (addT (Φ21 L N) 10 (f10.ent L N))
theorem Φ10_ok (L N : Nat) : TellsOk Tryd.prog (Φ10 L N) := addT_ok (Φ21_ok L N) (f10.ok L N (Φ21_ok L N))
def f51.b' {R : Type} (L N : Nat) (k : Bool → Option R) (x0 : Int) : Option R :=
  bif (decide (x0 ≥ (-4 : Int))) then
    k (decide (x0 ≤ (4 : Int)))
  else k false
def f51.b {R : Type} (L N : Nat) (k : Bool → Option R) (x0 : Int) : Option R :=
  f51.b' L N k x0
def f51 (L N : Nat) (x0 : Int) : Option (Bool) := f51.b L N some x0
def f51.ent (L N : Nat) := entRo [i64] (.one .bool) fun d => f51 L N d.1
noncomputable def E51 (L N : Nat) : Env := { P := Tryd.prog, ty := tyOf, Φ := (Φ10 L N), inl := inlT, live := lives, liveX := livesX, L := L, dp := none, prom := promT, heal := healT, ren := renT }
theorem f51.b_eq {R : Type} (L N : Nat) (κ : AV → Option R) (x0 : Int) :
    evBody (E51 L N) (evCallI (E51 L N) 1 2000) 1000 51 Tryd.f51 [(.tv i64 x0)] [] [] (finC (.one .bool) κ)
    = f51.b L N (fun a0 => κ (.tv .bool a0)) x0 := by kernel_rfl
theorem f51.ok (L N : Nat) (hΦ : TellsOk Tryd.prog ((Φ10 L N))) : EntOk Tryd.prog 51 (f51.ent L N) := entRo_ok (E := (E51 L N)) (dep := 1000) (f := Tryd.f51) (sound_of hΦ) okP (callI_sound (sound_of hΦ) okP 1 2000) rfl rfl fun d _ hy => (f51.b_eq L N (unR (.one .bool)) d.1).trans (Eq.trans (b := f51.b L N some d.1) (by kernel_rfl) hy)
def Φ51 (L N : Nat) : Tells := (addT (Φ10 L N) 51 (f51.ent L N))
theorem Φ51_ok (L N : Nat) : TellsOk Tryd.prog (Φ51 L N) := addT_ok (Φ10_ok L N) (f51.ok L N (Φ10_ok L N))
def f80.b' {R : Type} (L N : Nat) (k : Bool → Option R) (x0 : Int) : Option R :=
  k (x0 != x0)
def f80.b {R : Type} (L N : Nat) (k : Bool → Option R) (x0 : Int) : Option R :=
  f80.b' L N k x0
def f80 (L N : Nat) (x0 : Int) : Option (Bool) := f80.b L N some x0
def f80.ent (L N : Nat) := entRo [i64] (.one .bool) fun d => f80 L N d.1
noncomputable def E80 (L N : Nat) : Env := { P := Tryd.prog, ty := tyOf, Φ := (Φ51 L N), inl := inlT, live := lives, liveX := livesX, L := L, dp := none, prom := promT, heal := healT, ren := renT }
theorem f80.b_eq {R : Type} (L N : Nat) (κ : AV → Option R) (x0 : Int) :
    evBody (E80 L N) (evCallI (E80 L N) 1 2000) 1000 80 Tryd.f80 [(.tv i64 x0)] [] [] (finC (.one .bool) κ)
    = f80.b L N (fun a0 => κ (.tv .bool a0)) x0 := by kernel_rfl
theorem f80.ok (L N : Nat) (hΦ : TellsOk Tryd.prog ((Φ51 L N))) : EntOk Tryd.prog 80 (f80.ent L N) := entRo_ok (E := (E80 L N)) (dep := 1000) (f := Tryd.f80) (sound_of hΦ) okP (callI_sound (sound_of hΦ) okP 1 2000) rfl rfl fun d _ hy => (f80.b_eq L N (unR (.one .bool)) d.1).trans (Eq.trans (b := f80.b L N some d.1) (by kernel_rfl) hy)
def Φ80 (L N : Nat) : Tells := (addT (Φ51 L N) 80 (f80.ent L N))
theorem Φ80_ok (L N : Nat) : TellsOk Tryd.prog (Φ80 L N) := addT_ok (Φ51_ok L N) (f80.ok L N (Φ51_ok L N))
def f70.b' {R : Type} (L N : Nat) (k : Int → Option R) (x0 : Int) (x1 : Int) : Option R :=
  (f80 L N x0).bind fun y0 =>
  (f80 L N x1).bind fun y1 =>
  bif y0 then
    bif y1 then
      k (0 : Int)
    else k (-1 : Int)
  else bif y1 then
    k (1 : Int)
  else bif (decide (x0 < x1)) then
    k (-1 : Int)
  else bif (decide (x0 > x1)) then
    k (1 : Int)
  else k (0 : Int)
def f70.b {R : Type} (L N : Nat) (k : Int → Option R) (x0 : Int) (x1 : Int) : Option R :=
  f70.b' L N k x0 x1
def f70 (L N : Nat) (x0 : Int) (x1 : Int) : Option (Int) := f70.b L N some x0 x1
def f70.ent (L N : Nat) := entRo [i64, i64] (.one i64) fun d => f70 L N d.1 d.2.1
noncomputable def E70 (L N : Nat) : Env := { P := Tryd.prog, ty := tyOf, Φ := (Φ80 L N), inl := inlT, live := lives, liveX := livesX, L := L, dp := none, prom := promT, heal := healT, ren := renT }
theorem f70.b_eq {R : Type} (L N : Nat) (κ : AV → Option R) (x0 : Int) (x1 : Int) :
    evBody (E70 L N) (evCallI (E70 L N) 1 2000) 1000 70 Tryd.f70 [(.tv i64 x0), (.tv i64 x1)] [] [] (finC (.one i64) κ)
    = f70.b L N (fun a0 => κ (.tv i64 a0)) x0 x1 := by kernel_rfl
theorem f70.ok (L N : Nat) (hΦ : TellsOk Tryd.prog ((Φ80 L N))) : EntOk Tryd.prog 70 (f70.ent L N) := entRo_ok (E := (E70 L N)) (dep := 1000) (f := Tryd.f70) (sound_of hΦ) okP (callI_sound (sound_of hΦ) okP 1 2000) rfl rfl fun d _ hy => (f70.b_eq L N (unR (.one i64)) d.1 d.2.1).trans (Eq.trans (b := f70.b L N some d.1 d.2.1) (by kernel_rfl) hy)
def Φ70 (L N : Nat) : Tells := (addT (Φ80 L N) 70 (f70.ent L N))
theorem Φ70_ok (L N : Nat) : TellsOk Tryd.prog (Φ70 L N) := addT_ok (Φ80_ok L N) (f70.ok L N (Φ80_ok L N))
def f52.b' {R : Type} (L N : Nat) (k : Int → Option R) (x0 : Move) (x1 : Move) : Option R :=
  (f70 L N x0.act x1.act).bind fun y0 =>
  bif (y0 != (0 : Int)) then
    k y0
  else (f70 L N x0.to x1.to).bind fun y1 =>
  k y1
def f52.b {R : Type} (L N : Nat) (k : Int → Option R) (x0 : Move) (x1 : Move) : Option R :=
  f52.b' L N k x0 x1
def f52 (L N : Nat) (x0 : Move) (x1 : Move) : Option (Int) := f52.b L N some x0 x1
def f52.ent (L N : Nat) := entRo [(.st 0), (.st 0)] (.one i64) fun d => f52 L N d.1 d.2.1
noncomputable def E52 (L N : Nat) : Env := { P := Tryd.prog, ty := tyOf, Φ := (Φ70 L N), inl := inlT, live := lives, liveX := livesX, L := L, dp := none, prom := promT, heal := healT, ren := renT }
theorem f52.b_eq {R : Type} (L N : Nat) (κ : AV → Option R) (x0 : Move) (x1 : Move) :
    evBody (E52 L N) (evCallI (E52 L N) 1 2000) 1000 52 Tryd.f52 [(.tv (.st 0) x0), (.tv (.st 0) x1)] [] [] (finC (.one i64) κ)
    = f52.b L N (fun a0 => κ (.tv i64 a0)) x0 x1 := by kernel_rfl
theorem f52.ok (L N : Nat) (hΦ : TellsOk Tryd.prog ((Φ70 L N))) : EntOk Tryd.prog 52 (f52.ent L N) := entRo_ok (E := (E52 L N)) (dep := 1000) (f := Tryd.f52) (sound_of hΦ) okP (callI_sound (sound_of hΦ) okP 1 2000) rfl rfl fun d _ hy => (f52.b_eq L N (unR (.one i64)) d.1 d.2.1).trans (Eq.trans (b := f52.b L N some d.1 d.2.1) (by kernel_rfl) hy)
def Φ52 (L N : Nat) : Tells := (addT (Φ70 L N) 52 (f52.ent L N))
theorem Φ52_ok (L N : Nat) : TellsOk Tryd.prog (Φ52 L N) := addT_ok (Φ70_ok L N) (f52.ok L N (Φ70_ok L N))
def f23.s1' {R : Type} (L N : Nat) (k1_e2 : LLM → Int → Int → LLM → Option R) (k1_r : Bool → LLM → Int → Int → LLM → Option R) (rec1 : LM → LLM → Int → Int → LM → Int → Int → LLM → Option R) (s7 : LM) (s8 : LLM) (s9 : Int) (s10 : Int) (s11 : LM) (s12 : Int) (s13 : Int) (s14 : LLM) : Option R :=
  bif (decide (s13 < s12)) then
    bif (decide (0 ≤ s13) && decide (s13 < (s11.length : Int))) then
      (f51 L N ((listAt s11 (Ty.dflt (.st 0)) s13.toNat).act)).bind fun y19 =>
      bif (!y19) then
        k1_r false s8 s9 s10 s14
      else bif (decide ((listAt s11 (Ty.dflt (.st 0)) s13.toNat).to < (0 : Int))) then
        k1_r false s8 s9 s10 s14
      else bif (decide ((listAt s11 (Ty.dflt (.st 0)) s13.toNat).to ≥ (s14.length : Int))) then
        k1_r false s8 s9 s10 s14
      else bif (decide (s13 > (0 : Int))) then
        bif (decide (0 ≤ (wi (s13 - (1 : Int)))) && decide ((wi (s13 - (1 : Int))) < (s7.length : Int))) then
          (f52 L N (listAt s7 (Ty.dflt (.st 0)) (wi (s13 - (1 : Int))).toNat) (Move.mk ((listAt s11 (Ty.dflt (.st 0)) s13.toNat).act) ((listAt s11 (Ty.dflt (.st 0)) s13.toNat).to))).bind fun y20 =>
          bif (decide (y20 ≥ (0 : Int))) then
            k1_r false s8 s9 s10 s14
          else rec1 s7 s8 s9 s10 s11 s12 (wi (s13 + (1 : Int))) s14
        else none
      else rec1 s7 s8 s9 s10 s11 s12 (wi (s13 + (1 : Int))) s14
    else none
  else k1_e2 s8 s9 s10 s14
def f23.s1 {R : Type} (L N : Nat) (k1_e2 : LLM → Int → Int → LLM → Option R) (k1_r : Bool → LLM → Int → Int → LLM → Option R) (rec1 : LM → LLM → Int → Int → LM → Int → Int → LLM → Option R) (s7 : LM) (s8 : LLM) (s9 : Int) (s10 : Int) (s11 : LM) (s12 : Int) (s13 : Int) (s14 : LLM) : Option R :=
  f23.s1' L N k1_e2 k1_r rec1 s7 s8 s9 s10 s11 s12 s13 s14
def f23.l1 {R : Type} (L N : Nat) (k1_e2 : LLM → Int → Int → LLM → Option R) (k1_r : Bool → LLM → Int → Int → LLM → Option R) : Nat → LM → LLM → Int → Int → LM → Int → Int → LLM → Option R
  | 0, _, _, _, _, _, _, _, _ => none
  | n + 1, s7, s8, s9, s10, s11, s12, s13, s14 => f23.s1 L N k1_e2 k1_r (f23.l1 L N k1_e2 k1_r n) s7 s8 s9 s10 s11 s12 s13 s14
def f23.T1 (s7 : LM) (s8 : LLM) (s9 : Int) (s10 : Int) (s11 : LM) (s12 : Int) (s13 : Int) (s14 : LLM) : T := mkT 64 [(1, (.ptr 1001 0)), (4, (.tv (.sl (.st 0)) s7)), (18, (.tv (.sl (.sl (.st 0))) s8)), (19, (.tv i64 s9)), (20, (.tv i64 s10)), (24, (.tv (.sl (.st 0)) s11)), (25, (.tv i64 s12)), (26, (.tv i64 s13))]
def f23.H1 (s7 : LM) (s8 : LLM) (s9 : Int) (s10 : Int) (s11 : LM) (s12 : Int) (s13 : Int) (s14 : LLM) : H := [(1001, (.box [(.tv (.sl (.sl (.st 0))) s14)]))]
def f23.T1_e2 (z15 : LLM) (z16 : Int) (z17 : Int) (z18 : LLM) : T := mkT 64 [(1, (.ptr 1001 0)), (18, (.tv (.sl (.sl (.st 0))) z15)), (19, (.tv i64 z16)), (20, (.tv i64 z17))]
def f23.H1_e2 (z15 : LLM) (z16 : Int) (z17 : Int) (z18 : LLM) : H := [(1001, (.box [(.tv (.sl (.sl (.st 0))) z18)]))]
def f23.T1_r (z30 : Bool) (z31 : LLM) (z32 : Int) (z33 : Int) (z34 : LLM) : T := mkT 64 [(1, (.ptr 1001 0)), (2, (.tv .bool z30)), (18, (.tv (.sl (.sl (.st 0))) z31)), (19, (.tv i64 z32)), (20, (.tv i64 z33))]
def f23.H1_r (z30 : Bool) (z31 : LLM) (z32 : Int) (z33 : Int) (z34 : LLM) : H := [(1001, (.box [(.tv (.sl (.sl (.st 0))) z34)]))]
def f23.p1_e2' {R : Type} (L N : Nat) (k0_e0 : Option R) (k0_r : Bool → Option R) (rec0 : LLM → Int → Int → LLM → Option R) (z15 : LLM) (z16 : Int) (z17 : Int) (z18 : LLM) : Option R :=
  rec0 z15 z16 (wi (z17 + (1 : Int))) z18
def f23.p1_e2 {R : Type} (L N : Nat) (k0_e0 : Option R) (k0_r : Bool → Option R) (rec0 : LLM → Int → Int → LLM → Option R) (z15 : LLM) (z16 : Int) (z17 : Int) (z18 : LLM) : Option R :=
  f23.p1_e2' L N k0_e0 k0_r rec0 z15 z16 z17 z18
def f23.p1_r' {R : Type} (L N : Nat) (k0_e0 : Option R) (k0_r : Bool → Option R) (rec0 : LLM → Int → Int → LLM → Option R) (z30 : Bool) (z31 : LLM) (z32 : Int) (z33 : Int) (z34 : LLM) : Option R :=
  k0_r z30
def f23.p1_r {R : Type} (L N : Nat) (k0_e0 : Option R) (k0_r : Bool → Option R) (rec0 : LLM → Int → Int → LLM → Option R) (z30 : Bool) (z31 : LLM) (z32 : Int) (z33 : Int) (z34 : LLM) : Option R :=
  f23.p1_r' L N k0_e0 k0_r rec0 z30 z31 z32 z33 z34
def f23.s0' {R : Type} (L N : Nat) (k0_e0 : Option R) (k0_r : Bool → Option R) (rec0 : LLM → Int → Int → LLM → Option R) (w1 : LM → LLM → Int → Int → LM → Int → Int → LLM → Option R) (s3 : LLM) (s4 : Int) (s5 : Int) (s6 : LLM) : Option R :=
  bif (decide (s5 < s4)) then
    bif (decide (0 ≤ s5) && decide (s5 < (s3.length : Int))) then
      w1 (listAt s3 [] s5.toNat) s3 s4 s5 (listAt s3 [] s5.toNat) ((listAt s3 [] s5.toNat).length : Int) (0 : Int) s6
    else none
  else k0_e0
def f23.s0 {R : Type} (L N : Nat) (k0_e0 : Option R) (k0_r : Bool → Option R) (rec0 : LLM → Int → Int → LLM → Option R) (s3 : LLM) (s4 : Int) (s5 : Int) (s6 : LLM) : Option R :=
  f23.s0' L N k0_e0 k0_r rec0 (fun s7 s8 s9 s10 s11 s12 s13 s14 => f23.l1 L N (fun z15 z16 z17 z18 => f23.p1_e2 L N k0_e0 k0_r rec0 z15 z16 z17 z18) (fun z30 z31 z32 z33 z34 => f23.p1_r L N k0_e0 k0_r rec0 z30 z31 z32 z33 z34) L s7 s8 s9 s10 s11 s12 s13 s14) s3 s4 s5 s6
def f23.l0 {R : Type} (L N : Nat) (k0_e0 : Option R) (k0_r : Bool → Option R) : Nat → LLM → Int → Int → LLM → Option R
  | 0, _, _, _, _ => none
  | n + 1, s3, s4, s5, s6 => f23.s0 L N k0_e0 k0_r (f23.l0 L N k0_e0 k0_r n) s3 s4 s5 s6
def f23.T0 (s3 : LLM) (s4 : Int) (s5 : Int) (s6 : LLM) : T := mkT 64 [(1, (.ptr 1001 0)), (18, (.tv (.sl (.sl (.st 0))) s3)), (19, (.tv i64 s4)), (20, (.tv i64 s5))]
def f23.H0 (s3 : LLM) (s4 : Int) (s5 : Int) (s6 : LLM) : H := [(1001, (.box [(.tv (.sl (.sl (.st 0))) s6)]))]
def f23.T0_e0 : T := mkT 64 []
def f23.H0_e0 : H := []
def f23.T0_r (z43 : Bool) : T := mkT 64 [(2, (.tv .bool z43))]
def f23.H0_r (z43 : Bool) : H := []
def f23.p0_e0' {R : Type} (L N : Nat) (k : Bool → Option R) : Option R :=
  k true
def f23.p0_e0 {R : Type} (L N : Nat) (k : Bool → Option R) : Option R :=
  f23.p0_e0' L N k
def f23.p0_r' {R : Type} (L N : Nat) (k : Bool → Option R) (z43 : Bool) : Option R :=
  k z43
def f23.p0_r {R : Type} (L N : Nat) (k : Bool → Option R) (z43 : Bool) : Option R :=
  f23.p0_r' L N k z43
def f23.j0' {R : Type} (L N : Nat) (k : Bool → Option R) (w0 : LLM → Int → Int → LLM → Option R) (v2 : LLM) : Option R :=
  w0 v2 (v2.length : Int) (0 : Int) v2
def f23.b' {R : Type} (L N : Nat) (k : Bool → Option R) (w0 : LLM → Int → Int → LLM → Option R) (x0 : Graph) : Option R :=
  bif (decide ((x0.moves.length : Int) < (1 : Int))) then
    k false
  else bif (decide ((x0.moves.length : Int) > (60 : Int))) then
    k false
  else f23.j0' L N k w0 x0.moves
def f23.b {R : Type} (L N : Nat) (k : Bool → Option R) (x0 : Graph) : Option R :=
  f23.b' L N k (fun s3 s4 s5 s6 => f23.l0 L N (f23.p0_e0 L N k) (fun z43 => f23.p0_r L N k z43) L s3 s4 s5 s6) x0
def f23 (L N : Nat) (x0 : Graph) : Option (Bool) := f23.b L N some x0
def f23.ent (L N : Nat) := entRo [(.st 2)] (.one .bool) fun d => f23 L N d.1
noncomputable def E23 (L N : Nat) : Env := { P := Tryd.prog, ty := tyOf, Φ := (Φ52 L N), inl := inlT, live := lives, liveX := livesX, L := L, dp := none, prom := promT, heal := healT, ren := renT }
noncomputable def f23.c0 : Code := loopAt 0 (codeOf Tryd.f23)
noncomputable def f23.c1 : Code := loopAt 2 f23.c0
def f23.X1_e2 {R : Type} (κ : KX R) := fun z15 z16 z17 z18 => κ (.exit 2) (f23.T1_e2 z15 z16 z17 z18) (f23.H1_e2 z15 z16 z17 z18)
def f23.X1_r {R : Type} (κ : KX R) := fun z30 z31 z32 z33 z34 => κ .ret (f23.T1_r z30 z31 z32 z33 z34) (f23.H1_r z30 z31 z32 z33 z34)
def f23.R1 {R : Type} (rec : KT R) := fun s7 s8 s9 s10 s11 s12 s13 s14 => rec (f23.T1 s7 s8 s9 s10 s11 s12 s13 s14) (f23.H1 s7 s8 s9 s10 s11 s12 s13 s14)
theorem f23.s1_eq {R : Type} (L N : Nat) (κ : KX R) (rec : KT R) (s7 : LM) (s8 : LLM) (s9 : Int) (s10 : Int) (s11 : LM) (s12 : Int) (s13 : Int) (s14 : LLM) :
    evRd (E23 L N) (evCallI (E23 L N) 1 2000) 1000 23 64 2 f23.c1 κ rec (f23.T1 s7 s8 s9 s10 s11 s12 s13 s14) (f23.H1 s7 s8 s9 s10 s11 s12 s13 s14)
    = f23.s1 L N (f23.X1_e2 κ) (f23.X1_r κ) (f23.R1 rec) s7 s8 s9 s10 s11 s12 s13 s14 := by kernel_rfl
theorem f23.l1_eq {R : Type} (L N : Nat) (κ : KX R) : ∀ (n : Nat) (s7 : LM) (s8 : LLM) (s9 : Int) (s10 : Int) (s11 : LM) (s12 : Int) (s13 : Int) (s14 : LLM),
    evLp (E23 L N) (evCallI (E23 L N) 1 2000) 1000 23 64 2 f23.c1 κ n (f23.T1 s7 s8 s9 s10 s11 s12 s13 s14) (f23.H1 s7 s8 s9 s10 s11 s12 s13 s14)
    = f23.l1 L N (f23.X1_e2 κ) (f23.X1_r κ) n s7 s8 s9 s10 s11 s12 s13 s14 := by
  intro n
  induction n with
  | zero => intros; rfl
  | succ n ih =>
    intro s7 s8 s9 s10 s11 s12 s13 s14
    rw [evLp_succ, f23.s1_eq]
    delta f23.R1
    simp only [ih]
    rfl
def f23.X0_e0 {R : Type} (κ : KX R) := κ (.exit 0) f23.T0_e0 f23.H0_e0
def f23.X0_r {R : Type} (κ : KX R) := fun z43 => κ .ret (f23.T0_r z43) (f23.H0_r z43)
def f23.R0 {R : Type} (rec : KT R) := fun s3 s4 s5 s6 => rec (f23.T0 s3 s4 s5 s6) (f23.H0 s3 s4 s5 s6)
theorem f23.p1_e2_eq {R : Type} (L N : Nat) (κ : KX R) (rec : KT R) (z15 : LLM) (z16 : Int) (z17 : Int) (z18 : LLM) :
    (contAt (E23 L N) (evCallI (E23 L N) 1 2000) 1000 23 64 2 f23.c0 (rdK (E23 L N) 1000 23 64 0 κ rec)) (.exit 2) (f23.T1_e2 z15 z16 z17 z18) (f23.H1_e2 z15 z16 z17 z18)
    = f23.p1_e2 L N (f23.X0_e0 κ) (f23.X0_r κ) (f23.R0 rec) z15 z16 z17 z18 := by kernel_rfl
theorem f23.p1_r_eq {R : Type} (L N : Nat) (κ : KX R) (rec : KT R) (z30 : Bool) (z31 : LLM) (z32 : Int) (z33 : Int) (z34 : LLM) :
    (contAt (E23 L N) (evCallI (E23 L N) 1 2000) 1000 23 64 2 f23.c0 (rdK (E23 L N) 1000 23 64 0 κ rec)) .ret (f23.T1_r z30 z31 z32 z33 z34) (f23.H1_r z30 z31 z32 z33 z34)
    = f23.p1_r L N (f23.X0_e0 κ) (f23.X0_r κ) (f23.R0 rec) z30 z31 z32 z33 z34 := by kernel_rfl
theorem f23.s0_eq {R : Type} (L N : Nat) (κ : KX R) (rec : KT R) (s3 : LLM) (s4 : Int) (s5 : Int) (s6 : LLM) :
    evRd (E23 L N) (evCallI (E23 L N) 1 2000) 1000 23 64 0 f23.c0 κ rec (f23.T0 s3 s4 s5 s6) (f23.H0 s3 s4 s5 s6)
    = f23.s0 L N (f23.X0_e0 κ) (f23.X0_r κ) (f23.R0 rec) s3 s4 s5 s6 := by
  refine Eq.trans (b := f23.s0' L N (f23.X0_e0 κ) (f23.X0_r κ) (f23.R0 rec) (fun s7 s8 s9 s10 s11 s12 s13 s14 => evLp (E23 L N) (evCallI (E23 L N) 1 2000) 1000 23 64 2 f23.c1 (contAt (E23 L N) (evCallI (E23 L N) 1 2000) 1000 23 64 2 f23.c0 (rdK (E23 L N) 1000 23 64 0 κ rec)) L (f23.T1 s7 s8 s9 s10 s11 s12 s13 s14) (f23.H1 s7 s8 s9 s10 s11 s12 s13 s14)) s3 s4 s5 s6) (by kernel_rfl) ?_
  unfold f23.s0
  simp only [f23.l1_eq]
  delta f23.X1_e2 f23.X1_r
  simp only [f23.p1_e2_eq, f23.p1_r_eq]
theorem f23.l0_eq {R : Type} (L N : Nat) (κ : KX R) : ∀ (n : Nat) (s3 : LLM) (s4 : Int) (s5 : Int) (s6 : LLM),
    evLp (E23 L N) (evCallI (E23 L N) 1 2000) 1000 23 64 0 f23.c0 κ n (f23.T0 s3 s4 s5 s6) (f23.H0 s3 s4 s5 s6)
    = f23.l0 L N (f23.X0_e0 κ) (f23.X0_r κ) n s3 s4 s5 s6 := by
  intro n
  induction n with
  | zero => intros; rfl
  | succ n ih =>
    intro s3 s4 s5 s6
    rw [evLp_succ, f23.s0_eq]
    delta f23.R0
    simp only [ih]
    rfl
theorem f23.p0_e0_eq {R : Type} (L N : Nat) (κ : AV → Option R) :
    (contAt (E23 L N) (evCallI (E23 L N) 1 2000) 1000 23 64 0 (codeOf Tryd.f23) (finK (E23 L N) 1000 Tryd.f23 (finC (.one .bool) κ))) (.exit 0) f23.T0_e0 f23.H0_e0
    = f23.p0_e0 L N (fun a0 => κ (.tv .bool a0)) := by kernel_rfl
theorem f23.p0_r_eq {R : Type} (L N : Nat) (κ : AV → Option R) (z43 : Bool) :
    (contAt (E23 L N) (evCallI (E23 L N) 1 2000) 1000 23 64 0 (codeOf Tryd.f23) (finK (E23 L N) 1000 Tryd.f23 (finC (.one .bool) κ))) .ret (f23.T0_r z43) (f23.H0_r z43)
    = f23.p0_r L N (fun a0 => κ (.tv .bool a0)) z43 := by kernel_rfl
theorem f23.b_eq {R : Type} (L N : Nat) (κ : AV → Option R) (x0 : Graph) :
    evBody (E23 L N) (evCallI (E23 L N) 1 2000) 1000 23 Tryd.f23 [(.tv (.st 2) x0)] [] [] (finC (.one .bool) κ)
    = f23.b L N (fun a0 => κ (.tv .bool a0)) x0 := by
  refine Eq.trans (b := f23.b' L N (fun a0 => κ (.tv .bool a0)) (fun s3 s4 s5 s6 => evLp (E23 L N) (evCallI (E23 L N) 1 2000) 1000 23 64 0 f23.c0 (contAt (E23 L N) (evCallI (E23 L N) 1 2000) 1000 23 64 0 (codeOf Tryd.f23) (finK (E23 L N) 1000 Tryd.f23 (finC (.one .bool) κ))) L (f23.T0 s3 s4 s5 s6) (f23.H0 s3 s4 s5 s6)) x0) (by kernel_rfl) ?_
  unfold f23.b
  simp only [f23.l0_eq]
  delta f23.X0_e0 f23.X0_r
  simp only [f23.p0_e0_eq, f23.p0_r_eq]
theorem f23.ok (L N : Nat) (hΦ : TellsOk Tryd.prog ((Φ52 L N))) : EntOk Tryd.prog 23 (f23.ent L N) := entRo_ok (E := (E23 L N)) (dep := 1000) (f := Tryd.f23) (sound_of hΦ) okP (callI_sound (sound_of hΦ) okP 1 2000) rfl rfl fun d _ hy => (f23.b_eq L N (unR (.one .bool)) d.1).trans (Eq.trans (b := f23.b L N some d.1) (by kernel_rfl) hy)
def Φ23 (L N : Nat) : Tells := (addT (Φ52 L N) 23 (f23.ent L N))
theorem Φ23_ok (L N : Nat) : TellsOk Tryd.prog (Φ23 L N) := addT_ok (Φ52_ok L N) (f23.ok L N (Φ52_ok L N))
def f64.s0' {R : Type} (L N : Nat) (k0_e0 : LLM → LB → LI → Option R) (rec0 : LI → Int → Int → LLM → LB → LI → Option R) (s0 : LI) (s1 : Int) (s2 : Int) (s3 : LLM) (s4 : LB) (s5 : LI) : Option R :=
  bif (decide (s2 < s1)) then
    bif (decide (0 ≤ s2) && decide (s2 < (s0.length : Int))) then
      bif (decide (0 ≤ (listAt s0 (0 : Int) s2.toNat)) && decide ((listAt s0 (0 : Int) s2.toNat) < (s4.length : Int))) then
        bif (!(listAt s4 false (listAt s0 (0 : Int) s2.toNat).toNat)) then
          bif (decide (0 ≤ (listAt s0 (0 : Int) s2.toNat)) && decide ((listAt s0 (0 : Int) s2.toNat) < (s4.length : Int))) then
            bif (decide (s5.length + ([(listAt s0 (0 : Int) s2.toNat)] : LI).length ≤ lim)) then
              rec0 s0 s1 (wi (s2 + (1 : Int))) s3 (s4.set ((listAt s0 (0 : Int) s2.toNat).toNat) true) (s5 ++ ([(listAt s0 (0 : Int) s2.toNat)] : LI))
            else none
          else none
        else rec0 s0 s1 (wi (s2 + (1 : Int))) s3 s4 s5
      else none
    else none
  else k0_e0 s3 s4 s5
def f64.s0 {R : Type} (L N : Nat) (k0_e0 : LLM → LB → LI → Option R) (rec0 : LI → Int → Int → LLM → LB → LI → Option R) (s0 : LI) (s1 : Int) (s2 : Int) (s3 : LLM) (s4 : LB) (s5 : LI) : Option R :=
  f64.s0' L N k0_e0 rec0 s0 s1 s2 s3 s4 s5
def f64.l0 {R : Type} (L N : Nat) (k0_e0 : LLM → LB → LI → Option R) : Nat → LI → Int → Int → LLM → LB → LI → Option R
  | 0, _, _, _, _, _, _ => none
  | n + 1, s0, s1, s2, s3, s4, s5 => f64.s0 L N k0_e0 (f64.l0 L N k0_e0 n) s0 s1 s2 s3 s4 s5
def f64.T0 (s0 : LI) (s1 : Int) (s2 : Int) (s3 : LLM) (s4 : LB) (s5 : LI) : T := mkT 79 [(2, (.ptr 1002 0)), (5, (.row 1015)), (6, (.row 1016)), (17, (.tv (.sl i64) s0)), (18, (.tv i64 s1)), (19, (.tv i64 s2))]
def f64.H0 (s0 : LI) (s1 : Int) (s2 : Int) (s3 : LLM) (s4 : LB) (s5 : LI) : H := [(1002, (.box [(.tv (.sl (.sl (.st 0))) s3)])), (1015, (.row 4 .bool s4)), (1016, (.row 3 i64 s5))]
def f64.T0_e0 (z6 : LLM) (z7 : LB) (z8 : LI) : T := mkT 79 [(2, (.ptr 1002 0)), (5, (.row 1015)), (6, (.row 1016))]
def f64.H0_e0 (z6 : LLM) (z7 : LB) (z8 : LI) : H := [(1002, (.box [(.tv (.sl (.sl (.st 0))) z6)])), (1015, (.row 4 .bool z7)), (1016, (.row 3 i64 z8))]
def f64.j0' {R : Type} (L N : Nat) (k2_e4 : Int → LLM → LB → LI → Option R) (rec2 : Int → LM → Int → Int → LLM → LB → LI → Option R) (v31 : Int) (v32 : LM) (v33 : Int) (v34 : Int) (v35 : Bool) (v36 : LLM) (v37 : Int) (v38 : Int) (v39 : LB) (v40 : LI) : Option R :=
  bif v35 then
    bif (decide (0 ≤ v38) && decide (v38 < (v39.length : Int))) then
      bif (decide (v40.length + ([v38] : LI).length ≤ lim)) then
        rec2 v31 v32 v33 (wi (v34 + (1 : Int))) v36 (v39.set v38.toNat true) (v40 ++ ([v38] : LI))
      else none
    else none
  else rec2 v31 v32 v33 (wi (v34 + (1 : Int))) v36 v39 v40
def f64.s2' {R : Type} (L N : Nat) (k2_e4 : Int → LLM → LB → LI → Option R) (rec2 : Int → LM → Int → Int → LLM → LB → LI → Option R) (s20 : Int) (s21 : LM) (s22 : Int) (s23 : Int) (s24 : LLM) (s25 : LB) (s26 : LI) : Option R :=
  bif (decide (s23 < s22)) then
    bif (decide (0 ≤ s23) && decide (s23 < (s21.length : Int))) then
      bif ((listAt s21 (Ty.dflt (.st 0)) s23.toNat).act == (0 : Int)) then
        bif (decide (0 ≤ (listAt s21 (Ty.dflt (.st 0)) s23.toNat).to) && decide ((listAt s21 (Ty.dflt (.st 0)) s23.toNat).to < (s25.length : Int))) then
          f64.j0' L N k2_e4 rec2 s20 s21 s22 s23 (!(listAt s25 false ((listAt s21 (Ty.dflt (.st 0)) s23.toNat).to).toNat)) s24 ((listAt s21 (Ty.dflt (.st 0)) s23.toNat).act) ((listAt s21 (Ty.dflt (.st 0)) s23.toNat).to) s25 s26
        else none
      else f64.j0' L N k2_e4 rec2 s20 s21 s22 s23 false s24 ((listAt s21 (Ty.dflt (.st 0)) s23.toNat).act) ((listAt s21 (Ty.dflt (.st 0)) s23.toNat).to) s25 s26
    else none
  else k2_e4 s20 s24 s25 s26
def f64.s2 {R : Type} (L N : Nat) (k2_e4 : Int → LLM → LB → LI → Option R) (rec2 : Int → LM → Int → Int → LLM → LB → LI → Option R) (s20 : Int) (s21 : LM) (s22 : Int) (s23 : Int) (s24 : LLM) (s25 : LB) (s26 : LI) : Option R :=
  f64.s2' L N k2_e4 rec2 s20 s21 s22 s23 s24 s25 s26
def f64.l2 {R : Type} (L N : Nat) (k2_e4 : Int → LLM → LB → LI → Option R) : Nat → Int → LM → Int → Int → LLM → LB → LI → Option R
  | 0, _, _, _, _, _, _, _ => none
  | n + 1, s20, s21, s22, s23, s24, s25, s26 => f64.s2 L N k2_e4 (f64.l2 L N k2_e4 n) s20 s21 s22 s23 s24 s25 s26
def f64.T2 (s20 : Int) (s21 : LM) (s22 : Int) (s23 : Int) (s24 : LLM) (s25 : LB) (s26 : LI) : T := mkT 79 [(2, (.ptr 1002 0)), (5, (.row 1015)), (6, (.row 1016)), (9, (.tv i64 s20)), (49, (.tv (.sl (.st 0)) s21)), (50, (.tv i64 s22)), (51, (.tv i64 s23))]
def f64.H2 (s20 : Int) (s21 : LM) (s22 : Int) (s23 : Int) (s24 : LLM) (s25 : LB) (s26 : LI) : H := [(1002, (.box [(.tv (.sl (.sl (.st 0))) s24)])), (1015, (.row 4 .bool s25)), (1016, (.row 3 i64 s26))]
def f64.T2_e4 (z27 : Int) (z28 : LLM) (z29 : LB) (z30 : LI) : T := mkT 79 [(2, (.ptr 1002 0)), (5, (.row 1015)), (6, (.row 1016)), (9, (.tv i64 z27))]
def f64.H2_e4 (z27 : Int) (z28 : LLM) (z29 : LB) (z30 : LI) : H := [(1002, (.box [(.tv (.sl (.sl (.st 0))) z28)])), (1015, (.row 4 .bool z29)), (1016, (.row 3 i64 z30))]
def f64.p2_e4' {R : Type} (L N : Nat) (k1_e2 : LI → Option R) (rec1 : Int → LLM → LB → LI → Option R) (z27 : Int) (z28 : LLM) (z29 : LB) (z30 : LI) : Option R :=
  rec1 (wi (z27 + (1 : Int))) z28 z29 z30
def f64.p2_e4 {R : Type} (L N : Nat) (k1_e2 : LI → Option R) (rec1 : Int → LLM → LB → LI → Option R) (z27 : Int) (z28 : LLM) (z29 : LB) (z30 : LI) : Option R :=
  f64.p2_e4' L N k1_e2 rec1 z27 z28 z29 z30
def f64.s1' {R : Type} (L N : Nat) (k1_e2 : LI → Option R) (rec1 : Int → LLM → LB → LI → Option R) (w2 : Int → LM → Int → Int → LLM → LB → LI → Option R) (s15 : Int) (s16 : LLM) (s17 : LB) (s18 : LI) : Option R :=
  bif (decide (s15 < (s18.length : Int))) then
    bif (decide (0 ≤ s15) && decide (s15 < (s18.length : Int))) then
      bif (decide (0 ≤ (listAt s18 (0 : Int) s15.toNat)) && decide ((listAt s18 (0 : Int) s15.toNat) < (s16.length : Int))) then
        w2 s15 (listAt s16 [] (listAt s18 (0 : Int) s15.toNat).toNat) ((listAt s16 [] (listAt s18 (0 : Int) s15.toNat).toNat).length : Int) (0 : Int) s16 s17 s18
      else none
    else none
  else k1_e2 s18
def f64.s1 {R : Type} (L N : Nat) (k1_e2 : LI → Option R) (rec1 : Int → LLM → LB → LI → Option R) (s15 : Int) (s16 : LLM) (s17 : LB) (s18 : LI) : Option R :=
  f64.s1' L N k1_e2 rec1 (fun s20 s21 s22 s23 s24 s25 s26 => f64.l2 L N (fun z27 z28 z29 z30 => f64.p2_e4 L N k1_e2 rec1 z27 z28 z29 z30) L s20 s21 s22 s23 s24 s25 s26) s15 s16 s17 s18
def f64.l1 {R : Type} (L N : Nat) (k1_e2 : LI → Option R) : Nat → Int → LLM → LB → LI → Option R
  | 0, _, _, _, _ => none
  | n + 1, s15, s16, s17, s18 => f64.s1 L N k1_e2 (f64.l1 L N k1_e2 n) s15 s16 s17 s18
def f64.T1 (s15 : Int) (s16 : LLM) (s17 : LB) (s18 : LI) : T := mkT 79 [(2, (.ptr 1002 0)), (5, (.row 1015)), (6, (.row 1016)), (9, (.tv i64 s15))]
def f64.H1 (s15 : Int) (s16 : LLM) (s17 : LB) (s18 : LI) : H := [(1002, (.box [(.tv (.sl (.sl (.st 0))) s16)])), (1015, (.row 4 .bool s17)), (1016, (.row 3 i64 s18))]
def f64.T1_e2 (z19 : LI) : T := mkT 79 [(6, (.row 1016))]
def f64.H1_e2 (z19 : LI) : H := [(1016, (.row 3 i64 z19))]
def f64.p1_e2' {R : Type} (L N : Nat) (k : LI → Option R) (z19 : LI) : Option R :=
  ((fsort z19)).bind fun y48 =>
  k (sortI z19)
def f64.p1_e2 {R : Type} (L N : Nat) (k : LI → Option R) (z19 : LI) : Option R :=
  f64.p1_e2' L N k z19
def f64.p0_e0' {R : Type} (L N : Nat) (k : LI → Option R) (w1 : Int → LLM → LB → LI → Option R) (z6 : LLM) (z7 : LB) (z8 : LI) : Option R :=
  w1 (0 : Int) z6 z7 z8
def f64.p0_e0 {R : Type} (L N : Nat) (k : LI → Option R) (z6 : LLM) (z7 : LB) (z8 : LI) : Option R :=
  f64.p0_e0' L N k (fun s15 s16 s17 s18 => f64.l1 L N (fun z19 => f64.p1_e2 L N k z19) L s15 s16 s17 s18) z6 z7 z8
def f64.b' {R : Type} (L N : Nat) (k : LI → Option R) (w0 : LI → Int → Int → LLM → LB → LI → Option R) (x0 : Graph) (x1 : LI) : Option R :=
  bif (decide (0 ≤ (x0.moves.length : Int)) && decide ((x0.moves.length : Int) ≤ (lim : Int))) then
    w0 x1 (x1.length : Int) (0 : Int) x0.moves (List.replicate (x0.moves.length : Int).toNat false) ([] : LI)
  else none
def f64.b {R : Type} (L N : Nat) (k : LI → Option R) (x0 : Graph) (x1 : LI) : Option R :=
  f64.b' L N k (fun s0 s1 s2 s3 s4 s5 => f64.l0 L N (fun z6 z7 z8 => f64.p0_e0 L N k z6 z7 z8) L s0 s1 s2 s3 s4 s5) x0 x1
def f64 (L N : Nat) (x0 : Graph) (x1 : LI) : Option (LI) := f64.b L N some x0 x1
def f64.ent (L N : Nat) (args : List AV) (vw : View) (site : Nat) : Ans := match roD [(.st 2), (.sl i64)] vw args with
  | some d => ⟨LI, f64 L N d.1 d.2.1, fun y => (RN.av site .row (), [(site, some (mkO none 3 i64 y))], [])⟩
  | none => Ans.no
noncomputable def E64 (L N : Nat) : Env := { P := Tryd.prog, ty := tyOf, Φ := (Φ23 L N), inl := inlT, live := lives, liveX := livesX, L := L, dp := none, prom := promT, heal := healT, ren := renT }
noncomputable def f64.c0 : Code := loopAt 0 (codeOf Tryd.f64)
def f64.X0_e0 {R : Type} (κ : KX R) := fun z6 z7 z8 => κ (.exit 0) (f64.T0_e0 z6 z7 z8) (f64.H0_e0 z6 z7 z8)
def f64.R0 {R : Type} (rec : KT R) := fun s0 s1 s2 s3 s4 s5 => rec (f64.T0 s0 s1 s2 s3 s4 s5) (f64.H0 s0 s1 s2 s3 s4 s5)
theorem f64.s0_eq {R : Type} (L N : Nat) (κ : KX R) (rec : KT R) (s0 : LI) (s1 : Int) (s2 : Int) (s3 : LLM) (s4 : LB) (s5 : LI) :
    evRd (E64 L N) (evCallI (E64 L N) 1 2000) 1000 64 79 0 f64.c0 κ rec (f64.T0 s0 s1 s2 s3 s4 s5) (f64.H0 s0 s1 s2 s3 s4 s5)
    = f64.s0 L N (f64.X0_e0 κ) (f64.R0 rec) s0 s1 s2 s3 s4 s5 := by kernel_rfl
theorem f64.l0_eq {R : Type} (L N : Nat) (κ : KX R) : ∀ (n : Nat) (s0 : LI) (s1 : Int) (s2 : Int) (s3 : LLM) (s4 : LB) (s5 : LI),
    evLp (E64 L N) (evCallI (E64 L N) 1 2000) 1000 64 79 0 f64.c0 κ n (f64.T0 s0 s1 s2 s3 s4 s5) (f64.H0 s0 s1 s2 s3 s4 s5)
    = f64.l0 L N (f64.X0_e0 κ) n s0 s1 s2 s3 s4 s5 := by
  intro n
  induction n with
  | zero => intros; rfl
  | succ n ih =>
    intro s0 s1 s2 s3 s4 s5
    rw [evLp_succ, f64.s0_eq]
    delta f64.R0
    simp only [ih]
    rfl
noncomputable def f64.c1 : Code := loopAt 2 (codeOf Tryd.f64)
noncomputable def f64.c2 : Code := loopAt 4 f64.c1
def f64.X2_e4 {R : Type} (κ : KX R) := fun z27 z28 z29 z30 => κ (.exit 4) (f64.T2_e4 z27 z28 z29 z30) (f64.H2_e4 z27 z28 z29 z30)
def f64.R2 {R : Type} (rec : KT R) := fun s20 s21 s22 s23 s24 s25 s26 => rec (f64.T2 s20 s21 s22 s23 s24 s25 s26) (f64.H2 s20 s21 s22 s23 s24 s25 s26)
theorem f64.s2_eq {R : Type} (L N : Nat) (κ : KX R) (rec : KT R) (s20 : Int) (s21 : LM) (s22 : Int) (s23 : Int) (s24 : LLM) (s25 : LB) (s26 : LI) :
    evRd (E64 L N) (evCallI (E64 L N) 1 2000) 1000 64 79 4 f64.c2 κ rec (f64.T2 s20 s21 s22 s23 s24 s25 s26) (f64.H2 s20 s21 s22 s23 s24 s25 s26)
    = f64.s2 L N (f64.X2_e4 κ) (f64.R2 rec) s20 s21 s22 s23 s24 s25 s26 := by kernel_rfl
theorem f64.l2_eq {R : Type} (L N : Nat) (κ : KX R) : ∀ (n : Nat) (s20 : Int) (s21 : LM) (s22 : Int) (s23 : Int) (s24 : LLM) (s25 : LB) (s26 : LI),
    evLp (E64 L N) (evCallI (E64 L N) 1 2000) 1000 64 79 4 f64.c2 κ n (f64.T2 s20 s21 s22 s23 s24 s25 s26) (f64.H2 s20 s21 s22 s23 s24 s25 s26)
    = f64.l2 L N (f64.X2_e4 κ) n s20 s21 s22 s23 s24 s25 s26 := by
  intro n
  induction n with
  | zero => intros; rfl
  | succ n ih =>
    intro s20 s21 s22 s23 s24 s25 s26
    rw [evLp_succ, f64.s2_eq]
    delta f64.R2
    simp only [ih]
    rfl
def f64.X1_e2 {R : Type} (κ : KX R) := fun z19 => κ (.exit 2) (f64.T1_e2 z19) (f64.H1_e2 z19)
def f64.R1 {R : Type} (rec : KT R) := fun s15 s16 s17 s18 => rec (f64.T1 s15 s16 s17 s18) (f64.H1 s15 s16 s17 s18)
theorem f64.p2_e4_eq {R : Type} (L N : Nat) (κ : KX R) (rec : KT R) (z27 : Int) (z28 : LLM) (z29 : LB) (z30 : LI) :
    (contAt (E64 L N) (evCallI (E64 L N) 1 2000) 1000 64 79 4 f64.c1 (rdK (E64 L N) 1000 64 79 2 κ rec)) (.exit 4) (f64.T2_e4 z27 z28 z29 z30) (f64.H2_e4 z27 z28 z29 z30)
    = f64.p2_e4 L N (f64.X1_e2 κ) (f64.R1 rec) z27 z28 z29 z30 := by kernel_rfl
theorem f64.s1_eq {R : Type} (L N : Nat) (κ : KX R) (rec : KT R) (s15 : Int) (s16 : LLM) (s17 : LB) (s18 : LI) :
    evRd (E64 L N) (evCallI (E64 L N) 1 2000) 1000 64 79 2 f64.c1 κ rec (f64.T1 s15 s16 s17 s18) (f64.H1 s15 s16 s17 s18)
    = f64.s1 L N (f64.X1_e2 κ) (f64.R1 rec) s15 s16 s17 s18 := by
  refine Eq.trans (b := f64.s1' L N (f64.X1_e2 κ) (f64.R1 rec) (fun s20 s21 s22 s23 s24 s25 s26 => evLp (E64 L N) (evCallI (E64 L N) 1 2000) 1000 64 79 4 f64.c2 (contAt (E64 L N) (evCallI (E64 L N) 1 2000) 1000 64 79 4 f64.c1 (rdK (E64 L N) 1000 64 79 2 κ rec)) L (f64.T2 s20 s21 s22 s23 s24 s25 s26) (f64.H2 s20 s21 s22 s23 s24 s25 s26)) s15 s16 s17 s18) (by kernel_rfl) ?_
  unfold f64.s1
  simp only [f64.l2_eq]
  delta f64.X2_e4
  simp only [f64.p2_e4_eq]
theorem f64.l1_eq {R : Type} (L N : Nat) (κ : KX R) : ∀ (n : Nat) (s15 : Int) (s16 : LLM) (s17 : LB) (s18 : LI),
    evLp (E64 L N) (evCallI (E64 L N) 1 2000) 1000 64 79 2 f64.c1 κ n (f64.T1 s15 s16 s17 s18) (f64.H1 s15 s16 s17 s18)
    = f64.l1 L N (f64.X1_e2 κ) n s15 s16 s17 s18 := by
  intro n
  induction n with
  | zero => intros; rfl
  | succ n ih =>
    intro s15 s16 s17 s18
    rw [evLp_succ, f64.s1_eq]
    delta f64.R1
    simp only [ih]
    rfl
theorem f64.p1_e2_eq {R : Type} (L N : Nat) (κ : RN.Den .row → List Int → Option R) (z19 : LI) :
    (contAt (E64 L N) (evCallI (E64 L N) 1 2000) 1000 64 79 2 (codeOf Tryd.f64) (finK (E64 L N) 1000 Tryd.f64 (finN .row none 3 i64 κ))) (.exit 2) (f64.T1_e2 z19) (f64.H1_e2 z19)
    = f64.p1_e2 L N (fun a0 => κ () a0) z19 := by kernel_rfl
theorem f64.p0_e0_eq {R : Type} (L N : Nat) (κ : RN.Den .row → List Int → Option R) (z6 : LLM) (z7 : LB) (z8 : LI) :
    (contAt (E64 L N) (evCallI (E64 L N) 1 2000) 1000 64 79 0 (codeOf Tryd.f64) (finK (E64 L N) 1000 Tryd.f64 (finN .row none 3 i64 κ))) (.exit 0) (f64.T0_e0 z6 z7 z8) (f64.H0_e0 z6 z7 z8)
    = f64.p0_e0 L N (fun a0 => κ () a0) z6 z7 z8 := by
  refine Eq.trans (b := f64.p0_e0' L N (fun a0 => κ () a0) (fun s15 s16 s17 s18 => evLp (E64 L N) (evCallI (E64 L N) 1 2000) 1000 64 79 2 f64.c1 (contAt (E64 L N) (evCallI (E64 L N) 1 2000) 1000 64 79 2 (codeOf Tryd.f64) (finK (E64 L N) 1000 Tryd.f64 (finN .row none 3 i64 κ))) L (f64.T1 s15 s16 s17 s18) (f64.H1 s15 s16 s17 s18)) z6 z7 z8) (by kernel_rfl) ?_
  unfold f64.p0_e0
  simp only [f64.l1_eq]
  delta f64.X1_e2
  simp only [f64.p1_e2_eq]
theorem f64.b_eq {R : Type} (L N : Nat) (κ : RN.Den .row → List Int → Option R) (x0 : Graph) (x1 : LI) :
    evBody (E64 L N) (evCallI (E64 L N) 1 2000) 1000 64 Tryd.f64 [(.tv (.st 2) x0), (.tv (.sl i64) x1)] [] [] (finN .row none 3 i64 κ)
    = f64.b L N (fun a0 => κ () a0) x0 x1 := by
  refine Eq.trans (b := f64.b' L N (fun a0 => κ () a0) (fun s0 s1 s2 s3 s4 s5 => evLp (E64 L N) (evCallI (E64 L N) 1 2000) 1000 64 79 0 f64.c0 (contAt (E64 L N) (evCallI (E64 L N) 1 2000) 1000 64 79 0 (codeOf Tryd.f64) (finK (E64 L N) 1000 Tryd.f64 (finN .row none 3 i64 κ))) L (f64.T0 s0 s1 s2 s3 s4 s5) (f64.H0 s0 s1 s2 s3 s4 s5)) x0 x1) (by kernel_rfl) ?_
  unfold f64.b
  simp only [f64.l0_eq]
  delta f64.X0_e0
  simp only [f64.p0_e0_eq]
theorem f64.ok (L N : Nat) (hΦ : TellsOk Tryd.prog ((Φ23 L N))) : EntOk Tryd.prog 64 (f64.ent L N) := by
  intro args vw site h
  unfold f64.ent
  split
  · rename_i d ha
    intro y hy hs
    refine call_ron (y := y) (dep := 1000) (E := (E64 L N)) (ts := [(.st 2), (.sl i64)]) (rn := .row) (q := none) (el := 3) (ty := i64) (d1 := ()) (xs := y) (κ := (fun d xs => some xs)) (sound_of hΦ) okP (callI_sound (sound_of hΦ) okP 1 2000) (f := Tryd.f64) rfl hs ha ?_ (fun _ _ h => by obtain rfl := Option.some.inj h; exact ⟨rfl, rfl⟩) rfl site
    exact (f64.b_eq L N (fun d xs => some xs) d.1 d.2.1).trans (Eq.trans (b := f64.b L N some d.1 d.2.1) (by kernel_rfl) hy)
  · intro y hy
    cases hy
def Φ64 (L N : Nat) : Tells := (addT (Φ23 L N) 64 (f64.ent L N))
theorem Φ64_ok (L N : Nat) : TellsOk Tryd.prog (Φ64 L N) := addT_ok (Φ23_ok L N) (f64.ok L N (Φ23_ok L N))
def f36.s1' {R : Type} (L N : Nat) (k1_e2 : Int → LI → Int → Int → LLM → LI → Option R) (rec1 : Int → LI → Int → Int → LM → Int → Int → LLM → LI → Option R) (s8 : Int) (s9 : LI) (s10 : Int) (s11 : Int) (s12 : LM) (s13 : Int) (s14 : Int) (s15 : LLM) (s16 : LI) : Option R :=
  bif (decide (s14 < s13)) then
    bif (decide (0 ≤ s14) && decide (s14 < (s12.length : Int))) then
      bif ((listAt s12 (Ty.dflt (.st 0)) s14.toNat).act == s8) then
        bif (decide (s16.length + ([(listAt s12 (Ty.dflt (.st 0)) s14.toNat).to] : LI).length ≤ lim)) then
          rec1 s8 s9 s10 s11 s12 s13 (wi (s14 + (1 : Int))) s15 (s16 ++ ([(listAt s12 (Ty.dflt (.st 0)) s14.toNat).to] : LI))
        else none
      else rec1 s8 s9 s10 s11 s12 s13 (wi (s14 + (1 : Int))) s15 s16
    else none
  else k1_e2 s8 s9 s10 s11 s15 s16
def f36.s1 {R : Type} (L N : Nat) (k1_e2 : Int → LI → Int → Int → LLM → LI → Option R) (rec1 : Int → LI → Int → Int → LM → Int → Int → LLM → LI → Option R) (s8 : Int) (s9 : LI) (s10 : Int) (s11 : Int) (s12 : LM) (s13 : Int) (s14 : Int) (s15 : LLM) (s16 : LI) : Option R :=
  f36.s1' L N k1_e2 rec1 s8 s9 s10 s11 s12 s13 s14 s15 s16
def f36.l1 {R : Type} (L N : Nat) (k1_e2 : Int → LI → Int → Int → LLM → LI → Option R) : Nat → Int → LI → Int → Int → LM → Int → Int → LLM → LI → Option R
  | 0, _, _, _, _, _, _, _, _, _ => none
  | n + 1, s8, s9, s10, s11, s12, s13, s14, s15, s16 => f36.s1 L N k1_e2 (f36.l1 L N k1_e2 n) s8 s9 s10 s11 s12 s13 s14 s15 s16
def f36.T1 (s8 : Int) (s9 : LI) (s10 : Int) (s11 : Int) (s12 : LM) (s13 : Int) (s14 : Int) (s15 : LLM) (s16 : LI) : T := mkT 43 [(2, (.tv i64 s8)), (3, (.ptr 1003 0)), (7, (.row 1012)), (13, (.tv (.sl i64) s9)), (14, (.tv i64 s10)), (15, (.tv i64 s11)), (23, (.tv (.sl (.st 0)) s12)), (24, (.tv i64 s13)), (25, (.tv i64 s14))]
def f36.H1 (s8 : Int) (s9 : LI) (s10 : Int) (s11 : Int) (s12 : LM) (s13 : Int) (s14 : Int) (s15 : LLM) (s16 : LI) : H := [(1003, (.box [(.tv (.sl (.sl (.st 0))) s15)])), (1012, (.row 3 i64 s16))]
def f36.T1_e2 (z17 : Int) (z18 : LI) (z19 : Int) (z20 : Int) (z21 : LLM) (z22 : LI) : T := mkT 43 [(2, (.tv i64 z17)), (3, (.ptr 1003 0)), (7, (.row 1012)), (13, (.tv (.sl i64) z18)), (14, (.tv i64 z19)), (15, (.tv i64 z20))]
def f36.H1_e2 (z17 : Int) (z18 : LI) (z19 : Int) (z20 : Int) (z21 : LLM) (z22 : LI) : H := [(1003, (.box [(.tv (.sl (.sl (.st 0))) z21)])), (1012, (.row 3 i64 z22))]
def f36.p1_e2' {R : Type} (L N : Nat) (k0_e0 : LLM → LI → Option R) (rec0 : Int → LI → Int → Int → LLM → LI → Option R) (z17 : Int) (z18 : LI) (z19 : Int) (z20 : Int) (z21 : LLM) (z22 : LI) : Option R :=
  rec0 z17 z18 z19 (wi (z20 + (1 : Int))) z21 z22
def f36.p1_e2 {R : Type} (L N : Nat) (k0_e0 : LLM → LI → Option R) (rec0 : Int → LI → Int → Int → LLM → LI → Option R) (z17 : Int) (z18 : LI) (z19 : Int) (z20 : Int) (z21 : LLM) (z22 : LI) : Option R :=
  f36.p1_e2' L N k0_e0 rec0 z17 z18 z19 z20 z21 z22
def f36.s0' {R : Type} (L N : Nat) (k0_e0 : LLM → LI → Option R) (rec0 : Int → LI → Int → Int → LLM → LI → Option R) (w1 : Int → LI → Int → Int → LM → Int → Int → LLM → LI → Option R) (s0 : Int) (s1 : LI) (s2 : Int) (s3 : Int) (s4 : LLM) (s5 : LI) : Option R :=
  bif (decide (s3 < s2)) then
    bif (decide (0 ≤ s3) && decide (s3 < (s1.length : Int))) then
      bif (decide (0 ≤ (listAt s1 (0 : Int) s3.toNat)) && decide ((listAt s1 (0 : Int) s3.toNat) < (s4.length : Int))) then
        w1 s0 s1 s2 s3 (listAt s4 [] (listAt s1 (0 : Int) s3.toNat).toNat) ((listAt s4 [] (listAt s1 (0 : Int) s3.toNat).toNat).length : Int) (0 : Int) s4 s5
      else none
    else none
  else k0_e0 s4 s5
def f36.s0 {R : Type} (L N : Nat) (k0_e0 : LLM → LI → Option R) (rec0 : Int → LI → Int → Int → LLM → LI → Option R) (s0 : Int) (s1 : LI) (s2 : Int) (s3 : Int) (s4 : LLM) (s5 : LI) : Option R :=
  f36.s0' L N k0_e0 rec0 (fun s8 s9 s10 s11 s12 s13 s14 s15 s16 => f36.l1 L N (fun z17 z18 z19 z20 z21 z22 => f36.p1_e2 L N k0_e0 rec0 z17 z18 z19 z20 z21 z22) L s8 s9 s10 s11 s12 s13 s14 s15 s16) s0 s1 s2 s3 s4 s5
def f36.l0 {R : Type} (L N : Nat) (k0_e0 : LLM → LI → Option R) : Nat → Int → LI → Int → Int → LLM → LI → Option R
  | 0, _, _, _, _, _, _ => none
  | n + 1, s0, s1, s2, s3, s4, s5 => f36.s0 L N k0_e0 (f36.l0 L N k0_e0 n) s0 s1 s2 s3 s4 s5
def f36.T0 (s0 : Int) (s1 : LI) (s2 : Int) (s3 : Int) (s4 : LLM) (s5 : LI) : T := mkT 43 [(2, (.tv i64 s0)), (3, (.ptr 1003 0)), (7, (.row 1012)), (13, (.tv (.sl i64) s1)), (14, (.tv i64 s2)), (15, (.tv i64 s3))]
def f36.H0 (s0 : Int) (s1 : LI) (s2 : Int) (s3 : Int) (s4 : LLM) (s5 : LI) : H := [(1003, (.box [(.tv (.sl (.sl (.st 0))) s4)])), (1012, (.row 3 i64 s5))]
def f36.T0_e0 (z6 : LLM) (z7 : LI) : T := mkT 43 [(3, (.ptr 1003 0)), (7, (.row 1012))]
def f36.H0_e0 (z6 : LLM) (z7 : LI) : H := [(1003, (.box [(.tv (.sl (.sl (.st 0))) z6)])), (1012, (.row 3 i64 z7))]
def f36.p0_e0' {R : Type} (L N : Nat) (k : LI → Option R) (z6 : LLM) (z7 : LI) : Option R :=
  (f64 L N (Graph.mk z6) z7).bind fun y32 =>
  k y32
def f36.p0_e0 {R : Type} (L N : Nat) (k : LI → Option R) (z6 : LLM) (z7 : LI) : Option R :=
  f36.p0_e0' L N k z6 z7
def f36.b' {R : Type} (L N : Nat) (k : LI → Option R) (w0 : Int → LI → Int → Int → LLM → LI → Option R) (x0 : Graph) (x1 : LI) (x2 : Int) : Option R :=
  w0 x2 x1 (x1.length : Int) (0 : Int) x0.moves ([] : LI)
def f36.b {R : Type} (L N : Nat) (k : LI → Option R) (x0 : Graph) (x1 : LI) (x2 : Int) : Option R :=
  f36.b' L N k (fun s0 s1 s2 s3 s4 s5 => f36.l0 L N (fun z6 z7 => f36.p0_e0 L N k z6 z7) L s0 s1 s2 s3 s4 s5) x0 x1 x2
def f36 (L N : Nat) (x0 : Graph) (x1 : LI) (x2 : Int) : Option (LI) := f36.b L N some x0 x1 x2
def f36.ent (L N : Nat) (args : List AV) (vw : View) (site : Nat) : Ans := match roD [(.st 2), (.sl i64), i64] vw args with
  | some d => ⟨LI, f36 L N d.1 d.2.1 d.2.2.1, fun y => (RN.av site .row (), [(site, some (mkO none 3 i64 y))], [])⟩
  | none => Ans.no
noncomputable def E36 (L N : Nat) : Env := { P := Tryd.prog, ty := tyOf, Φ := (Φ64 L N), inl := inlT, live := lives, liveX := livesX, L := L, dp := none, prom := promT, heal := healT, ren := renT }
noncomputable def f36.c0 : Code := loopAt 0 (codeOf Tryd.f36)
noncomputable def f36.c1 : Code := loopAt 2 f36.c0
def f36.X1_e2 {R : Type} (κ : KX R) := fun z17 z18 z19 z20 z21 z22 => κ (.exit 2) (f36.T1_e2 z17 z18 z19 z20 z21 z22) (f36.H1_e2 z17 z18 z19 z20 z21 z22)
def f36.R1 {R : Type} (rec : KT R) := fun s8 s9 s10 s11 s12 s13 s14 s15 s16 => rec (f36.T1 s8 s9 s10 s11 s12 s13 s14 s15 s16) (f36.H1 s8 s9 s10 s11 s12 s13 s14 s15 s16)
theorem f36.s1_eq {R : Type} (L N : Nat) (κ : KX R) (rec : KT R) (s8 : Int) (s9 : LI) (s10 : Int) (s11 : Int) (s12 : LM) (s13 : Int) (s14 : Int) (s15 : LLM) (s16 : LI) :
    evRd (E36 L N) (evCallI (E36 L N) 1 2000) 1000 36 43 2 f36.c1 κ rec (f36.T1 s8 s9 s10 s11 s12 s13 s14 s15 s16) (f36.H1 s8 s9 s10 s11 s12 s13 s14 s15 s16)
    = f36.s1 L N (f36.X1_e2 κ) (f36.R1 rec) s8 s9 s10 s11 s12 s13 s14 s15 s16 := by kernel_rfl
theorem f36.l1_eq {R : Type} (L N : Nat) (κ : KX R) : ∀ (n : Nat) (s8 : Int) (s9 : LI) (s10 : Int) (s11 : Int) (s12 : LM) (s13 : Int) (s14 : Int) (s15 : LLM) (s16 : LI),
    evLp (E36 L N) (evCallI (E36 L N) 1 2000) 1000 36 43 2 f36.c1 κ n (f36.T1 s8 s9 s10 s11 s12 s13 s14 s15 s16) (f36.H1 s8 s9 s10 s11 s12 s13 s14 s15 s16)
    = f36.l1 L N (f36.X1_e2 κ) n s8 s9 s10 s11 s12 s13 s14 s15 s16 := by
  intro n
  induction n with
  | zero => intros; rfl
  | succ n ih =>
    intro s8 s9 s10 s11 s12 s13 s14 s15 s16
    rw [evLp_succ, f36.s1_eq]
    delta f36.R1
    simp only [ih]
    rfl
def f36.X0_e0 {R : Type} (κ : KX R) := fun z6 z7 => κ (.exit 0) (f36.T0_e0 z6 z7) (f36.H0_e0 z6 z7)
def f36.R0 {R : Type} (rec : KT R) := fun s0 s1 s2 s3 s4 s5 => rec (f36.T0 s0 s1 s2 s3 s4 s5) (f36.H0 s0 s1 s2 s3 s4 s5)
theorem f36.p1_e2_eq {R : Type} (L N : Nat) (κ : KX R) (rec : KT R) (z17 : Int) (z18 : LI) (z19 : Int) (z20 : Int) (z21 : LLM) (z22 : LI) :
    (contAt (E36 L N) (evCallI (E36 L N) 1 2000) 1000 36 43 2 f36.c0 (rdK (E36 L N) 1000 36 43 0 κ rec)) (.exit 2) (f36.T1_e2 z17 z18 z19 z20 z21 z22) (f36.H1_e2 z17 z18 z19 z20 z21 z22)
    = f36.p1_e2 L N (f36.X0_e0 κ) (f36.R0 rec) z17 z18 z19 z20 z21 z22 := by kernel_rfl
theorem f36.s0_eq {R : Type} (L N : Nat) (κ : KX R) (rec : KT R) (s0 : Int) (s1 : LI) (s2 : Int) (s3 : Int) (s4 : LLM) (s5 : LI) :
    evRd (E36 L N) (evCallI (E36 L N) 1 2000) 1000 36 43 0 f36.c0 κ rec (f36.T0 s0 s1 s2 s3 s4 s5) (f36.H0 s0 s1 s2 s3 s4 s5)
    = f36.s0 L N (f36.X0_e0 κ) (f36.R0 rec) s0 s1 s2 s3 s4 s5 := by
  refine Eq.trans (b := f36.s0' L N (f36.X0_e0 κ) (f36.R0 rec) (fun s8 s9 s10 s11 s12 s13 s14 s15 s16 => evLp (E36 L N) (evCallI (E36 L N) 1 2000) 1000 36 43 2 f36.c1 (contAt (E36 L N) (evCallI (E36 L N) 1 2000) 1000 36 43 2 f36.c0 (rdK (E36 L N) 1000 36 43 0 κ rec)) L (f36.T1 s8 s9 s10 s11 s12 s13 s14 s15 s16) (f36.H1 s8 s9 s10 s11 s12 s13 s14 s15 s16)) s0 s1 s2 s3 s4 s5) (by kernel_rfl) ?_
  unfold f36.s0
  simp only [f36.l1_eq]
  delta f36.X1_e2
  simp only [f36.p1_e2_eq]
theorem f36.l0_eq {R : Type} (L N : Nat) (κ : KX R) : ∀ (n : Nat) (s0 : Int) (s1 : LI) (s2 : Int) (s3 : Int) (s4 : LLM) (s5 : LI),
    evLp (E36 L N) (evCallI (E36 L N) 1 2000) 1000 36 43 0 f36.c0 κ n (f36.T0 s0 s1 s2 s3 s4 s5) (f36.H0 s0 s1 s2 s3 s4 s5)
    = f36.l0 L N (f36.X0_e0 κ) n s0 s1 s2 s3 s4 s5 := by
  intro n
  induction n with
  | zero => intros; rfl
  | succ n ih =>
    intro s0 s1 s2 s3 s4 s5
    rw [evLp_succ, f36.s0_eq]
    delta f36.R0
    simp only [ih]
    rfl
theorem f36.p0_e0_eq {R : Type} (L N : Nat) (κ : RN.Den .row → List Int → Option R) (z6 : LLM) (z7 : LI) :
    (contAt (E36 L N) (evCallI (E36 L N) 1 2000) 1000 36 43 0 (codeOf Tryd.f36) (finK (E36 L N) 1000 Tryd.f36 (finN .row none 3 i64 κ))) (.exit 0) (f36.T0_e0 z6 z7) (f36.H0_e0 z6 z7)
    = f36.p0_e0 L N (fun a0 => κ () a0) z6 z7 := by kernel_rfl
theorem f36.b_eq {R : Type} (L N : Nat) (κ : RN.Den .row → List Int → Option R) (x0 : Graph) (x1 : LI) (x2 : Int) :
    evBody (E36 L N) (evCallI (E36 L N) 1 2000) 1000 36 Tryd.f36 [(.tv (.st 2) x0), (.tv (.sl i64) x1), (.tv i64 x2)] [] [] (finN .row none 3 i64 κ)
    = f36.b L N (fun a0 => κ () a0) x0 x1 x2 := by
  refine Eq.trans (b := f36.b' L N (fun a0 => κ () a0) (fun s0 s1 s2 s3 s4 s5 => evLp (E36 L N) (evCallI (E36 L N) 1 2000) 1000 36 43 0 f36.c0 (contAt (E36 L N) (evCallI (E36 L N) 1 2000) 1000 36 43 0 (codeOf Tryd.f36) (finK (E36 L N) 1000 Tryd.f36 (finN .row none 3 i64 κ))) L (f36.T0 s0 s1 s2 s3 s4 s5) (f36.H0 s0 s1 s2 s3 s4 s5)) x0 x1 x2) (by kernel_rfl) ?_
  unfold f36.b
  simp only [f36.l0_eq]
  delta f36.X0_e0
  simp only [f36.p0_e0_eq]
theorem f36.ok (L N : Nat) (hΦ : TellsOk Tryd.prog ((Φ64 L N))) : EntOk Tryd.prog 36 (f36.ent L N) := by
  intro args vw site h
  unfold f36.ent
  split
  · rename_i d ha
    intro y hy hs
    refine call_ron (y := y) (dep := 1000) (E := (E36 L N)) (ts := [(.st 2), (.sl i64), i64]) (rn := .row) (q := none) (el := 3) (ty := i64) (d1 := ()) (xs := y) (κ := (fun d xs => some xs)) (sound_of hΦ) okP (callI_sound (sound_of hΦ) okP 1 2000) (f := Tryd.f36) rfl hs ha ?_ (fun _ _ h => by obtain rfl := Option.some.inj h; exact ⟨rfl, rfl⟩) rfl site
    exact (f36.b_eq L N (fun d xs => some xs) d.1 d.2.1 d.2.2.1).trans (Eq.trans (b := f36.b L N some d.1 d.2.1 d.2.2.1) (by kernel_rfl) hy)
  · intro y hy
    cases hy
def Φ36 (L N : Nat) : Tells := (addT (Φ64 L N) 36 (f36.ent L N))
theorem Φ36_ok (L N : Nat) : TellsOk Tryd.prog (Φ36 L N) := addT_ok (Φ64_ok L N) (f36.ok L N (Φ64_ok L N))
def f33.s0' {R : Type} (L N : Nat) (k0_e0 : LI → Option R) (rec0 : LI → Int → Int → LLM → LI → Option R) (s1 : LI) (s2 : Int) (s3 : Int) (s4 : LLM) (s5 : LI) : Option R :=
  bif (decide (s3 < s2)) then
    bif (decide (0 ≤ s3) && decide (s3 < (s1.length : Int))) then
      (f36 L N (Graph.mk s4) s5 (listAt s1 (0 : Int) s3.toNat)).bind fun y7 =>
      rec0 s1 s2 (wi (s3 + (1 : Int))) s4 y7
    else none
  else k0_e0 s5
def f33.s0 {R : Type} (L N : Nat) (k0_e0 : LI → Option R) (rec0 : LI → Int → Int → LLM → LI → Option R) (s1 : LI) (s2 : Int) (s3 : Int) (s4 : LLM) (s5 : LI) : Option R :=
  f33.s0' L N k0_e0 rec0 s1 s2 s3 s4 s5
def f33.l0 {R : Type} (L N : Nat) (k0_e0 : LI → Option R) : Nat → LI → Int → Int → LLM → LI → Option R
  | 0, _, _, _, _, _ => none
  | n + 1, s1, s2, s3, s4, s5 => f33.s0 L N k0_e0 (f33.l0 L N k0_e0 n) s1 s2 s3 s4 s5
def f33.T0 (s1 : LI) (s2 : Int) (s3 : Int) (s4 : LLM) (s5 : LI) : T := mkT 23 [(2, (.ptr 1002 0)), (5, (.row 1010)), (11, (.tv (.sl i64) s1)), (12, (.tv i64 s2)), (13, (.tv i64 s3))]
def f33.H0 (s1 : LI) (s2 : Int) (s3 : Int) (s4 : LLM) (s5 : LI) : H := [(1002, (.box [(.tv (.sl (.sl (.st 0))) s4)])), (1010, (.row 3 i64 s5))]
def f33.T0_e0 (z6 : LI) : T := mkT 23 [(5, (.row 1010))]
def f33.H0_e0 (z6 : LI) : H := [(1010, (.row 3 i64 z6))]
def f33.p0_e0' {R : Type} (L N : Nat) (k : LI → Option R) (z6 : LI) : Option R :=
  k z6
def f33.p0_e0 {R : Type} (L N : Nat) (k : LI → Option R) (z6 : LI) : Option R :=
  f33.p0_e0' L N k z6
def f33.b' {R : Type} (L N : Nat) (k : LI → Option R) (w0 : LI → Int → Int → LLM → LI → Option R) (x0 : Graph) (x1 : LI) : Option R :=
  (f64 L N (Graph.mk x0.moves) ([(0 : Int)] : LI)).bind fun y0 =>
  w0 x1 (x1.length : Int) (0 : Int) x0.moves y0
def f33.b {R : Type} (L N : Nat) (k : LI → Option R) (x0 : Graph) (x1 : LI) : Option R :=
  f33.b' L N k (fun s1 s2 s3 s4 s5 => f33.l0 L N (fun z6 => f33.p0_e0 L N k z6) L s1 s2 s3 s4 s5) x0 x1
def f33 (L N : Nat) (x0 : Graph) (x1 : LI) : Option (LI) := f33.b L N some x0 x1
def f33.ent (L N : Nat) (args : List AV) (vw : View) (site : Nat) : Ans := match roD [(.st 2), (.sl i64)] vw args with
  | some d => ⟨LI, f33 L N d.1 d.2.1, fun y => (RN.av site .row (), [(site, some (mkO none 3 i64 y))], [])⟩
  | none => Ans.no
noncomputable def E33 (L N : Nat) : Env := { P := Tryd.prog, ty := tyOf, Φ := (Φ36 L N), inl := inlT, live := lives, liveX := livesX, L := L, dp := none, prom := promT, heal := healT, ren := renT }
noncomputable def f33.c0 : Code := loopAt 0 (codeOf Tryd.f33)
def f33.X0_e0 {R : Type} (κ : KX R) := fun z6 => κ (.exit 0) (f33.T0_e0 z6) (f33.H0_e0 z6)
def f33.R0 {R : Type} (rec : KT R) := fun s1 s2 s3 s4 s5 => rec (f33.T0 s1 s2 s3 s4 s5) (f33.H0 s1 s2 s3 s4 s5)
theorem f33.s0_eq {R : Type} (L N : Nat) (κ : KX R) (rec : KT R) (s1 : LI) (s2 : Int) (s3 : Int) (s4 : LLM) (s5 : LI) :
    evRd (E33 L N) (evCallI (E33 L N) 1 2000) 1000 33 23 0 f33.c0 κ rec (f33.T0 s1 s2 s3 s4 s5) (f33.H0 s1 s2 s3 s4 s5)
    = f33.s0 L N (f33.X0_e0 κ) (f33.R0 rec) s1 s2 s3 s4 s5 := by kernel_rfl
theorem f33.l0_eq {R : Type} (L N : Nat) (κ : KX R) : ∀ (n : Nat) (s1 : LI) (s2 : Int) (s3 : Int) (s4 : LLM) (s5 : LI),
    evLp (E33 L N) (evCallI (E33 L N) 1 2000) 1000 33 23 0 f33.c0 κ n (f33.T0 s1 s2 s3 s4 s5) (f33.H0 s1 s2 s3 s4 s5)
    = f33.l0 L N (f33.X0_e0 κ) n s1 s2 s3 s4 s5 := by
  intro n
  induction n with
  | zero => intros; rfl
  | succ n ih =>
    intro s1 s2 s3 s4 s5
    rw [evLp_succ, f33.s0_eq]
    delta f33.R0
    simp only [ih]
    rfl
theorem f33.p0_e0_eq {R : Type} (L N : Nat) (κ : RN.Den .row → List Int → Option R) (z6 : LI) :
    (contAt (E33 L N) (evCallI (E33 L N) 1 2000) 1000 33 23 0 (codeOf Tryd.f33) (finK (E33 L N) 1000 Tryd.f33 (finN .row none 3 i64 κ))) (.exit 0) (f33.T0_e0 z6) (f33.H0_e0 z6)
    = f33.p0_e0 L N (fun a0 => κ () a0) z6 := by kernel_rfl
theorem f33.b_eq {R : Type} (L N : Nat) (κ : RN.Den .row → List Int → Option R) (x0 : Graph) (x1 : LI) :
    evBody (E33 L N) (evCallI (E33 L N) 1 2000) 1000 33 Tryd.f33 [(.tv (.st 2) x0), (.tv (.sl i64) x1)] [] [] (finN .row none 3 i64 κ)
    = f33.b L N (fun a0 => κ () a0) x0 x1 := by
  refine Eq.trans (b := f33.b' L N (fun a0 => κ () a0) (fun s1 s2 s3 s4 s5 => evLp (E33 L N) (evCallI (E33 L N) 1 2000) 1000 33 23 0 f33.c0 (contAt (E33 L N) (evCallI (E33 L N) 1 2000) 1000 33 23 0 (codeOf Tryd.f33) (finK (E33 L N) 1000 Tryd.f33 (finN .row none 3 i64 κ))) L (f33.T0 s1 s2 s3 s4 s5) (f33.H0 s1 s2 s3 s4 s5)) x0 x1) (by kernel_rfl) ?_
  unfold f33.b
  simp only [f33.l0_eq]
  delta f33.X0_e0
  simp only [f33.p0_e0_eq]
theorem f33.ok (L N : Nat) (hΦ : TellsOk Tryd.prog ((Φ36 L N))) : EntOk Tryd.prog 33 (f33.ent L N) := by
  intro args vw site h
  unfold f33.ent
  split
  · rename_i d ha
    intro y hy hs
    refine call_ron (y := y) (dep := 1000) (E := (E33 L N)) (ts := [(.st 2), (.sl i64)]) (rn := .row) (q := none) (el := 3) (ty := i64) (d1 := ()) (xs := y) (κ := (fun d xs => some xs)) (sound_of hΦ) okP (callI_sound (sound_of hΦ) okP 1 2000) (f := Tryd.f33) rfl hs ha ?_ (fun _ _ h => by obtain rfl := Option.some.inj h; exact ⟨rfl, rfl⟩) rfl site
    exact (f33.b_eq L N (fun d xs => some xs) d.1 d.2.1).trans (Eq.trans (b := f33.b L N some d.1 d.2.1) (by kernel_rfl) hy)
  · intro y hy
    cases hy
def Φ33 (L N : Nat) : Tells := (addT (Φ36 L N) 33 (f33.ent L N))
theorem Φ33_ok (L N : Nat) : TellsOk Tryd.prog (Φ33 L N) := addT_ok (Φ36_ok L N) (f33.ok L N (Φ36_ok L N))
def f34.s0' {R : Type} (L N : Nat) (k0_e0 : ByteArray → Option R) (rec0 : ByteArray → LI → Int → Int → Option R) (s0 : ByteArray) (s1 : LI) (s2 : Int) (s3 : Int) : Option R :=
  bif (decide (s3 < s2)) then
    bif (decide (0 ≤ s3) && decide (s3 < (s1.length : Int))) then
      ((fitoa (listAt s1 (0 : Int) s3.toNat))).bind fun y5 =>
      bif (decide (y5.size + (ByteArray.mk #[32]).size ≤ 4611686018427387904)) then
        bif (decide (s0.size + (y5 ++ (ByteArray.mk #[32])).size ≤ 4611686018427387904)) then
          rec0 (s0 ++ (y5 ++ (ByteArray.mk #[32]))) s1 s2 (wi (s3 + (1 : Int)))
        else none
      else none
    else none
  else k0_e0 s0
def f34.s0 {R : Type} (L N : Nat) (k0_e0 : ByteArray → Option R) (rec0 : ByteArray → LI → Int → Int → Option R) (s0 : ByteArray) (s1 : LI) (s2 : Int) (s3 : Int) : Option R :=
  f34.s0' L N k0_e0 rec0 s0 s1 s2 s3
def f34.l0 {R : Type} (L N : Nat) (k0_e0 : ByteArray → Option R) : Nat → ByteArray → LI → Int → Int → Option R
  | 0, _, _, _, _ => none
  | n + 1, s0, s1, s2, s3 => f34.s0 L N k0_e0 (f34.l0 L N k0_e0 n) s0 s1 s2 s3
def f34.T0 (s0 : ByteArray) (s1 : LI) (s2 : Int) (s3 : Int) : T := mkT 20 [(3, (.tv .str s0)), (6, (.tv (.sl i64) s1)), (7, (.tv i64 s2)), (8, (.tv i64 s3))]
def f34.H0 (s0 : ByteArray) (s1 : LI) (s2 : Int) (s3 : Int) : H := []
def f34.T0_e0 (z4 : ByteArray) : T := mkT 20 [(3, (.tv .str z4))]
def f34.H0_e0 (z4 : ByteArray) : H := []
def f34.p0_e0' {R : Type} (L N : Nat) (k : ByteArray → Option R) (z4 : ByteArray) : Option R :=
  bif (decide (z4.size + (ByteArray.mk #[93]).size ≤ 4611686018427387904)) then
    k (z4 ++ (ByteArray.mk #[93]))
  else none
def f34.p0_e0 {R : Type} (L N : Nat) (k : ByteArray → Option R) (z4 : ByteArray) : Option R :=
  f34.p0_e0' L N k z4
def f34.b' {R : Type} (L N : Nat) (k : ByteArray → Option R) (w0 : ByteArray → LI → Int → Int → Option R) (x0 : LI) : Option R :=
  w0 (ByteArray.mk #[91]) x0 (x0.length : Int) (0 : Int)
def f34.b {R : Type} (L N : Nat) (k : ByteArray → Option R) (x0 : LI) : Option R :=
  f34.b' L N k (fun s0 s1 s2 s3 => f34.l0 L N (fun z4 => f34.p0_e0 L N k z4) L s0 s1 s2 s3) x0
def f34 (L N : Nat) (x0 : LI) : Option (ByteArray) := f34.b L N some x0
def f34.ent (L N : Nat) := entRo [(.sl i64)] (.one .str) fun d => f34 L N d.1
noncomputable def E34 (L N : Nat) : Env := { P := Tryd.prog, ty := tyOf, Φ := (Φ33 L N), inl := inlT, live := lives, liveX := livesX, L := L, dp := none, prom := promT, heal := healT, ren := renT }
noncomputable def f34.c0 : Code := loopAt 0 (codeOf Tryd.f34)
def f34.X0_e0 {R : Type} (κ : KX R) := fun z4 => κ (.exit 0) (f34.T0_e0 z4) (f34.H0_e0 z4)
def f34.R0 {R : Type} (rec : KT R) := fun s0 s1 s2 s3 => rec (f34.T0 s0 s1 s2 s3) (f34.H0 s0 s1 s2 s3)
theorem f34.s0_eq {R : Type} (L N : Nat) (κ : KX R) (rec : KT R) (s0 : ByteArray) (s1 : LI) (s2 : Int) (s3 : Int) :
    evRd (E34 L N) (evCallI (E34 L N) 1 2000) 1000 34 20 0 f34.c0 κ rec (f34.T0 s0 s1 s2 s3) (f34.H0 s0 s1 s2 s3)
    = f34.s0 L N (f34.X0_e0 κ) (f34.R0 rec) s0 s1 s2 s3 := by kernel_rfl
theorem f34.l0_eq {R : Type} (L N : Nat) (κ : KX R) : ∀ (n : Nat) (s0 : ByteArray) (s1 : LI) (s2 : Int) (s3 : Int),
    evLp (E34 L N) (evCallI (E34 L N) 1 2000) 1000 34 20 0 f34.c0 κ n (f34.T0 s0 s1 s2 s3) (f34.H0 s0 s1 s2 s3)
    = f34.l0 L N (f34.X0_e0 κ) n s0 s1 s2 s3 := by
  intro n
  induction n with
  | zero => intros; rfl
  | succ n ih =>
    intro s0 s1 s2 s3
    rw [evLp_succ, f34.s0_eq]
    delta f34.R0
    simp only [ih]
    rfl
theorem f34.p0_e0_eq {R : Type} (L N : Nat) (κ : AV → Option R) (z4 : ByteArray) :
    (contAt (E34 L N) (evCallI (E34 L N) 1 2000) 1000 34 20 0 (codeOf Tryd.f34) (finK (E34 L N) 1000 Tryd.f34 (finC (.one .str) κ))) (.exit 0) (f34.T0_e0 z4) (f34.H0_e0 z4)
    = f34.p0_e0 L N (fun a0 => κ (.tv .str a0)) z4 := by kernel_rfl
theorem f34.b_eq {R : Type} (L N : Nat) (κ : AV → Option R) (x0 : LI) :
    evBody (E34 L N) (evCallI (E34 L N) 1 2000) 1000 34 Tryd.f34 [(.tv (.sl i64) x0)] [] [] (finC (.one .str) κ)
    = f34.b L N (fun a0 => κ (.tv .str a0)) x0 := by
  refine Eq.trans (b := f34.b' L N (fun a0 => κ (.tv .str a0)) (fun s0 s1 s2 s3 => evLp (E34 L N) (evCallI (E34 L N) 1 2000) 1000 34 20 0 f34.c0 (contAt (E34 L N) (evCallI (E34 L N) 1 2000) 1000 34 20 0 (codeOf Tryd.f34) (finK (E34 L N) 1000 Tryd.f34 (finC (.one .str) κ))) L (f34.T0 s0 s1 s2 s3) (f34.H0 s0 s1 s2 s3)) x0) (by kernel_rfl) ?_
  unfold f34.b
  simp only [f34.l0_eq]
  delta f34.X0_e0
  simp only [f34.p0_e0_eq]
theorem f34.ok (L N : Nat) (hΦ : TellsOk Tryd.prog ((Φ33 L N))) : EntOk Tryd.prog 34 (f34.ent L N) := entRo_ok (E := (E34 L N)) (dep := 1000) (f := Tryd.f34) (sound_of hΦ) okP (callI_sound (sound_of hΦ) okP 1 2000) rfl rfl fun d _ hy => (f34.b_eq L N (unR (.one .str)) d.1).trans (Eq.trans (b := f34.b L N some d.1) (by kernel_rfl) hy)
def Φ34 (L N : Nat) : Tells := (addT (Φ33 L N) 34 (f34.ent L N))
theorem Φ34_ok (L N : Nat) : TellsOk Tryd.prog (Φ34 L N) := addT_ok (Φ33_ok L N) (f34.ok L N (Φ33_ok L N))
def f27.s1' {R : Type} (L N : Nat) (k1_e2 : LI → Int → Int → LLM → LI → Option R) (rec1 : LI → Int → Int → LM → Int → Int → LLM → LI → Option R) (s6 : LI) (s7 : Int) (s8 : Int) (s9 : LM) (s10 : Int) (s11 : Int) (s12 : LLM) (s13 : LI) : Option R :=
  bif (decide (s11 < s10)) then
    bif (decide (0 ≤ s11) && decide (s11 < (s9.length : Int))) then
      bif ((listAt s9 (Ty.dflt (.st 0)) s11.toNat).act != (0 : Int)) then
        bif (decide (s13.length + ([(listAt s9 (Ty.dflt (.st 0)) s11.toNat).act] : LI).length ≤ lim)) then
          rec1 s6 s7 s8 s9 s10 (wi (s11 + (1 : Int))) s12 (s13 ++ ([(listAt s9 (Ty.dflt (.st 0)) s11.toNat).act] : LI))
        else none
      else rec1 s6 s7 s8 s9 s10 (wi (s11 + (1 : Int))) s12 s13
    else none
  else k1_e2 s6 s7 s8 s12 s13
def f27.s1 {R : Type} (L N : Nat) (k1_e2 : LI → Int → Int → LLM → LI → Option R) (rec1 : LI → Int → Int → LM → Int → Int → LLM → LI → Option R) (s6 : LI) (s7 : Int) (s8 : Int) (s9 : LM) (s10 : Int) (s11 : Int) (s12 : LLM) (s13 : LI) : Option R :=
  f27.s1' L N k1_e2 rec1 s6 s7 s8 s9 s10 s11 s12 s13
def f27.l1 {R : Type} (L N : Nat) (k1_e2 : LI → Int → Int → LLM → LI → Option R) : Nat → LI → Int → Int → LM → Int → Int → LLM → LI → Option R
  | 0, _, _, _, _, _, _, _, _ => none
  | n + 1, s6, s7, s8, s9, s10, s11, s12, s13 => f27.s1 L N k1_e2 (f27.l1 L N k1_e2 n) s6 s7 s8 s9 s10 s11 s12 s13
def f27.T1 (s6 : LI) (s7 : Int) (s8 : Int) (s9 : LM) (s10 : Int) (s11 : Int) (s12 : LLM) (s13 : LI) : T := mkT 41 [(2, (.ptr 1002 0)), (5, (.row 1010)), (11, (.tv (.sl i64) s6)), (12, (.tv i64 s7)), (13, (.tv i64 s8)), (21, (.tv (.sl (.st 0)) s9)), (22, (.tv i64 s10)), (23, (.tv i64 s11))]
def f27.H1 (s6 : LI) (s7 : Int) (s8 : Int) (s9 : LM) (s10 : Int) (s11 : Int) (s12 : LLM) (s13 : LI) : H := [(1002, (.box [(.tv (.sl (.sl (.st 0))) s12)])), (1010, (.row 3 i64 s13))]
def f27.T1_e2 (z14 : LI) (z15 : Int) (z16 : Int) (z17 : LLM) (z18 : LI) : T := mkT 41 [(2, (.ptr 1002 0)), (5, (.row 1010)), (11, (.tv (.sl i64) z14)), (12, (.tv i64 z15)), (13, (.tv i64 z16))]
def f27.H1_e2 (z14 : LI) (z15 : Int) (z16 : Int) (z17 : LLM) (z18 : LI) : H := [(1002, (.box [(.tv (.sl (.sl (.st 0))) z17)])), (1010, (.row 3 i64 z18))]
def f27.p1_e2' {R : Type} (L N : Nat) (k0_e0 : LI → Option R) (rec0 : LI → Int → Int → LLM → LI → Option R) (z14 : LI) (z15 : Int) (z16 : Int) (z17 : LLM) (z18 : LI) : Option R :=
  rec0 z14 z15 (wi (z16 + (1 : Int))) z17 z18
def f27.p1_e2 {R : Type} (L N : Nat) (k0_e0 : LI → Option R) (rec0 : LI → Int → Int → LLM → LI → Option R) (z14 : LI) (z15 : Int) (z16 : Int) (z17 : LLM) (z18 : LI) : Option R :=
  f27.p1_e2' L N k0_e0 rec0 z14 z15 z16 z17 z18
def f27.s0' {R : Type} (L N : Nat) (k0_e0 : LI → Option R) (rec0 : LI → Int → Int → LLM → LI → Option R) (w1 : LI → Int → Int → LM → Int → Int → LLM → LI → Option R) (s0 : LI) (s1 : Int) (s2 : Int) (s3 : LLM) (s4 : LI) : Option R :=
  bif (decide (s2 < s1)) then
    bif (decide (0 ≤ s2) && decide (s2 < (s0.length : Int))) then
      bif (decide (0 ≤ (listAt s0 (0 : Int) s2.toNat)) && decide ((listAt s0 (0 : Int) s2.toNat) < (s3.length : Int))) then
        w1 s0 s1 s2 (listAt s3 [] (listAt s0 (0 : Int) s2.toNat).toNat) ((listAt s3 [] (listAt s0 (0 : Int) s2.toNat).toNat).length : Int) (0 : Int) s3 s4
      else none
    else none
  else k0_e0 s4
def f27.s0 {R : Type} (L N : Nat) (k0_e0 : LI → Option R) (rec0 : LI → Int → Int → LLM → LI → Option R) (s0 : LI) (s1 : Int) (s2 : Int) (s3 : LLM) (s4 : LI) : Option R :=
  f27.s0' L N k0_e0 rec0 (fun s6 s7 s8 s9 s10 s11 s12 s13 => f27.l1 L N (fun z14 z15 z16 z17 z18 => f27.p1_e2 L N k0_e0 rec0 z14 z15 z16 z17 z18) L s6 s7 s8 s9 s10 s11 s12 s13) s0 s1 s2 s3 s4
def f27.l0 {R : Type} (L N : Nat) (k0_e0 : LI → Option R) : Nat → LI → Int → Int → LLM → LI → Option R
  | 0, _, _, _, _, _ => none
  | n + 1, s0, s1, s2, s3, s4 => f27.s0 L N k0_e0 (f27.l0 L N k0_e0 n) s0 s1 s2 s3 s4
def f27.T0 (s0 : LI) (s1 : Int) (s2 : Int) (s3 : LLM) (s4 : LI) : T := mkT 41 [(2, (.ptr 1002 0)), (5, (.row 1010)), (11, (.tv (.sl i64) s0)), (12, (.tv i64 s1)), (13, (.tv i64 s2))]
def f27.H0 (s0 : LI) (s1 : Int) (s2 : Int) (s3 : LLM) (s4 : LI) : H := [(1002, (.box [(.tv (.sl (.sl (.st 0))) s3)])), (1010, (.row 3 i64 s4))]
def f27.T0_e0 (z5 : LI) : T := mkT 41 [(5, (.row 1010))]
def f27.H0_e0 (z5 : LI) : H := [(1010, (.row 3 i64 z5))]
def f27.p0_e0' {R : Type} (L N : Nat) (k : LI → Option R) (z5 : LI) : Option R :=
  ((fsort z5)).bind fun y27 =>
  ((fsort (sortI z5))).bind fun y28 =>
  k (Go.Lib.compact (sortI z5))
def f27.p0_e0 {R : Type} (L N : Nat) (k : LI → Option R) (z5 : LI) : Option R :=
  f27.p0_e0' L N k z5
def f27.b' {R : Type} (L N : Nat) (k : LI → Option R) (w0 : LI → Int → Int → LLM → LI → Option R) (x0 : Graph) (x1 : LI) : Option R :=
  w0 x1 (x1.length : Int) (0 : Int) x0.moves ([] : LI)
def f27.b {R : Type} (L N : Nat) (k : LI → Option R) (x0 : Graph) (x1 : LI) : Option R :=
  f27.b' L N k (fun s0 s1 s2 s3 s4 => f27.l0 L N (fun z5 => f27.p0_e0 L N k z5) L s0 s1 s2 s3 s4) x0 x1
def f27 (L N : Nat) (x0 : Graph) (x1 : LI) : Option (LI) := f27.b L N some x0 x1
def f27.ent (L N : Nat) := entDa [(.st 2), (.sl i64)] (.one (.sl i64)) fun d => f27 L N d.1 d.2.1
noncomputable def E27 (L N : Nat) : Env := { P := Tryd.prog, ty := tyOf, Φ := (Φ34 L N), inl := inlT, live := lives, liveX := livesX, L := L, dp := none, prom := promT, heal := healT, ren := renT }
noncomputable def f27.c0 : Code := loopAt 0 (codeOf Tryd.f27)
noncomputable def f27.c1 : Code := loopAt 2 f27.c0
def f27.X1_e2 {R : Type} (κ : KX R) := fun z14 z15 z16 z17 z18 => κ (.exit 2) (f27.T1_e2 z14 z15 z16 z17 z18) (f27.H1_e2 z14 z15 z16 z17 z18)
def f27.R1 {R : Type} (rec : KT R) := fun s6 s7 s8 s9 s10 s11 s12 s13 => rec (f27.T1 s6 s7 s8 s9 s10 s11 s12 s13) (f27.H1 s6 s7 s8 s9 s10 s11 s12 s13)
theorem f27.s1_eq {R : Type} (L N : Nat) (κ : KX R) (rec : KT R) (s6 : LI) (s7 : Int) (s8 : Int) (s9 : LM) (s10 : Int) (s11 : Int) (s12 : LLM) (s13 : LI) :
    evRd (E27 L N) (evCallI (E27 L N) 1 2000) 1000 27 41 2 f27.c1 κ rec (f27.T1 s6 s7 s8 s9 s10 s11 s12 s13) (f27.H1 s6 s7 s8 s9 s10 s11 s12 s13)
    = f27.s1 L N (f27.X1_e2 κ) (f27.R1 rec) s6 s7 s8 s9 s10 s11 s12 s13 := by kernel_rfl
theorem f27.l1_eq {R : Type} (L N : Nat) (κ : KX R) : ∀ (n : Nat) (s6 : LI) (s7 : Int) (s8 : Int) (s9 : LM) (s10 : Int) (s11 : Int) (s12 : LLM) (s13 : LI),
    evLp (E27 L N) (evCallI (E27 L N) 1 2000) 1000 27 41 2 f27.c1 κ n (f27.T1 s6 s7 s8 s9 s10 s11 s12 s13) (f27.H1 s6 s7 s8 s9 s10 s11 s12 s13)
    = f27.l1 L N (f27.X1_e2 κ) n s6 s7 s8 s9 s10 s11 s12 s13 := by
  intro n
  induction n with
  | zero => intros; rfl
  | succ n ih =>
    intro s6 s7 s8 s9 s10 s11 s12 s13
    rw [evLp_succ, f27.s1_eq]
    delta f27.R1
    simp only [ih]
    rfl
def f27.X0_e0 {R : Type} (κ : KX R) := fun z5 => κ (.exit 0) (f27.T0_e0 z5) (f27.H0_e0 z5)
def f27.R0 {R : Type} (rec : KT R) := fun s0 s1 s2 s3 s4 => rec (f27.T0 s0 s1 s2 s3 s4) (f27.H0 s0 s1 s2 s3 s4)
theorem f27.p1_e2_eq {R : Type} (L N : Nat) (κ : KX R) (rec : KT R) (z14 : LI) (z15 : Int) (z16 : Int) (z17 : LLM) (z18 : LI) :
    (contAt (E27 L N) (evCallI (E27 L N) 1 2000) 1000 27 41 2 f27.c0 (rdK (E27 L N) 1000 27 41 0 κ rec)) (.exit 2) (f27.T1_e2 z14 z15 z16 z17 z18) (f27.H1_e2 z14 z15 z16 z17 z18)
    = f27.p1_e2 L N (f27.X0_e0 κ) (f27.R0 rec) z14 z15 z16 z17 z18 := by kernel_rfl
theorem f27.s0_eq {R : Type} (L N : Nat) (κ : KX R) (rec : KT R) (s0 : LI) (s1 : Int) (s2 : Int) (s3 : LLM) (s4 : LI) :
    evRd (E27 L N) (evCallI (E27 L N) 1 2000) 1000 27 41 0 f27.c0 κ rec (f27.T0 s0 s1 s2 s3 s4) (f27.H0 s0 s1 s2 s3 s4)
    = f27.s0 L N (f27.X0_e0 κ) (f27.R0 rec) s0 s1 s2 s3 s4 := by
  refine Eq.trans (b := f27.s0' L N (f27.X0_e0 κ) (f27.R0 rec) (fun s6 s7 s8 s9 s10 s11 s12 s13 => evLp (E27 L N) (evCallI (E27 L N) 1 2000) 1000 27 41 2 f27.c1 (contAt (E27 L N) (evCallI (E27 L N) 1 2000) 1000 27 41 2 f27.c0 (rdK (E27 L N) 1000 27 41 0 κ rec)) L (f27.T1 s6 s7 s8 s9 s10 s11 s12 s13) (f27.H1 s6 s7 s8 s9 s10 s11 s12 s13)) s0 s1 s2 s3 s4) (by kernel_rfl) ?_
  unfold f27.s0
  simp only [f27.l1_eq]
  delta f27.X1_e2
  simp only [f27.p1_e2_eq]
theorem f27.l0_eq {R : Type} (L N : Nat) (κ : KX R) : ∀ (n : Nat) (s0 : LI) (s1 : Int) (s2 : Int) (s3 : LLM) (s4 : LI),
    evLp (E27 L N) (evCallI (E27 L N) 1 2000) 1000 27 41 0 f27.c0 κ n (f27.T0 s0 s1 s2 s3 s4) (f27.H0 s0 s1 s2 s3 s4)
    = f27.l0 L N (f27.X0_e0 κ) n s0 s1 s2 s3 s4 := by
  intro n
  induction n with
  | zero => intros; rfl
  | succ n ih =>
    intro s0 s1 s2 s3 s4
    rw [evLp_succ, f27.s0_eq]
    delta f27.R0
    simp only [ih]
    rfl
theorem f27.p0_e0_eq {R : Type} (L N : Nat) (κ : AV → Option R) (z5 : LI) :
    (contAt (E27 L N) (evCallI (E27 L N) 1 2000) 1000 27 41 0 (codeOf Tryd.f27) (finK (E27 L N) 1000 Tryd.f27 (finC (.one (.sl i64)) κ))) (.exit 0) (f27.T0_e0 z5) (f27.H0_e0 z5)
    = f27.p0_e0 L N (fun a0 => κ (.tv (.sl i64) a0)) z5 := by kernel_rfl
theorem f27.b_eq {R : Type} (L N : Nat) (κ : AV → Option R) (x0 : Graph) (x1 : LI) :
    evBody (E27 L N) (evCallI (E27 L N) 1 2000) 1000 27 Tryd.f27 [(.tv (.st 2) x0), (.tv (.sl i64) x1)] [] [] (finC (.one (.sl i64)) κ)
    = f27.b L N (fun a0 => κ (.tv (.sl i64) a0)) x0 x1 := by
  refine Eq.trans (b := f27.b' L N (fun a0 => κ (.tv (.sl i64) a0)) (fun s0 s1 s2 s3 s4 => evLp (E27 L N) (evCallI (E27 L N) 1 2000) 1000 27 41 0 f27.c0 (contAt (E27 L N) (evCallI (E27 L N) 1 2000) 1000 27 41 0 (codeOf Tryd.f27) (finK (E27 L N) 1000 Tryd.f27 (finC (.one (.sl i64)) κ))) L (f27.T0 s0 s1 s2 s3 s4) (f27.H0 s0 s1 s2 s3 s4)) x0 x1) (by kernel_rfl) ?_
  unfold f27.b
  simp only [f27.l0_eq]
  delta f27.X0_e0
  simp only [f27.p0_e0_eq]
theorem f27.ok (L N : Nat) (hΦ : TellsOk Tryd.prog ((Φ34 L N))) : EntOk Tryd.prog 27 (f27.ent L N) := entDa_ok (E := (E27 L N)) (dep := 1000) (f := Tryd.f27) (sound_of hΦ) okP (callI_sound (sound_of hΦ) okP 1 2000) rfl fun d _ hy => (f27.b_eq L N (unR (.one (.sl i64))) d.1 d.2.1).trans (Eq.trans (b := f27.b L N some d.1 d.2.1) (by kernel_rfl) hy)
def Φ27 (L N : Nat) : Tells := (addT (Φ34 L N) 27 (f27.ent L N))
theorem Φ27_ok (L N : Nat) : TellsOk Tryd.prog (Φ27 L N) := addT_ok (Φ34_ok L N) (f27.ok L N (Φ34_ok L N))
def f35_1.s0' {R : Type} (L N : Nat) (k0_e0 : LI → LLI → Option R) (rec0 : LI → LLM → LI → LI → Int → Int → LLI → Option R) (s1 : LI) (s2 : LLM) (s3 : LI) (s4 : LI) (s5 : Int) (s6 : Int) (s7 : LLI) : Option R :=
  bif (decide (s6 < s5)) then
    bif (decide (0 ≤ s6) && decide (s6 < (s4.length : Int))) then
      (f36 L N (Graph.mk s2) s1 (listAt s4 (0 : Int) s6.toNat)).bind fun y10 =>
      bif (decide (s7.length + ([y10] : LLI).length ≤ lim)) then
        rec0 s1 s2 s3 s4 s5 (wi (s6 + (1 : Int))) (s7 ++ ([y10] : LLI))
      else none
    else none
  else k0_e0 s3 s7
def f35_1.s0 {R : Type} (L N : Nat) (k0_e0 : LI → LLI → Option R) (rec0 : LI → LLM → LI → LI → Int → Int → LLI → Option R) (s1 : LI) (s2 : LLM) (s3 : LI) (s4 : LI) (s5 : Int) (s6 : Int) (s7 : LLI) : Option R :=
  f35_1.s0' L N k0_e0 rec0 s1 s2 s3 s4 s5 s6 s7
def f35_1.l0 {R : Type} (L N : Nat) (k0_e0 : LI → LLI → Option R) : Nat → LI → LLM → LI → LI → Int → Int → LLI → Option R
  | 0, _, _, _, _, _, _, _ => none
  | n + 1, s1, s2, s3, s4, s5, s6, s7 => f35_1.s0 L N k0_e0 (f35_1.l0 L N k0_e0 n) s1 s2 s3 s4 s5 s6 s7
def f35_1.T0 (s1 : LI) (s2 : LLM) (s3 : LI) (s4 : LI) (s5 : Int) (s6 : Int) (s7 : LLI) : T := mkT 30 [(0, (.tv (.sl i64) s1)), (1, (.imp (.sl (.sl (.st 0))) s2 0)), (6, (.tv (.sl i64) s3)), (7, (.row 1013)), (14, (.tv (.sl i64) s4)), (15, (.tv i64 s5)), (16, (.tv i64 s6))]
def f35_1.H0 (s1 : LI) (s2 : LLM) (s3 : LI) (s4 : LI) (s5 : Int) (s6 : Int) (s7 : LLI) : H := [(1013, (.row 48 (.sl i64) s7))]
def f35_1.T0_e0 (z8 : LI) (z9 : LLI) : T := mkT 30 [(6, (.tv (.sl i64) z8)), (7, (.row 1013))]
def f35_1.H0_e0 (z8 : LI) (z9 : LLI) : H := [(1013, (.row 48 (.sl i64) z9))]
def f35_1.p0_e0' {R : Type} (L N : Nat) (k : LI → LLI → Bool → Option R) (z8 : LI) (z9 : LLI) : Option R :=
  k z8 z9 true
def f35_1.p0_e0 {R : Type} (L N : Nat) (k : LI → LLI → Bool → Option R) (z8 : LI) (z9 : LLI) : Option R :=
  f35_1.p0_e0' L N k z8 z9
def f35_1.b' {R : Type} (L N : Nat) (k : LI → LLI → Bool → Option R) (w0 : LI → LLM → LI → LI → Int → Int → LLI → Option R) (x0 : LI) (x1 : LLM) : Option R :=
  (f27 L N (Graph.mk x1) x0).bind fun y0 =>
  w0 x0 x1 y0 y0 (y0.length : Int) (0 : Int) ([] : LLI)
def f35_1.b {R : Type} (L N : Nat) (k : LI → LLI → Bool → Option R) (x0 : LI) (x1 : LLM) : Option R :=
  f35_1.b' L N k (fun s1 s2 s3 s4 s5 s6 s7 => f35_1.l0 L N (fun z8 z9 => f35_1.p0_e0 L N k z8 z9) L s1 s2 s3 s4 s5 s6 s7) x0 x1
def f35_1 (L N : Nat) (x0 : LI) (x1 : LLM) : Option (LI × LLI × Bool) := f35_1.b L N (fun a0 a1 a2 => some (a0, a1, a2)) x0 x1
def f35_1.ent (L N : Nat) := entDf [(.dat (.sl i64)), (.imp (.sl (.sl (.st 0))) 0)] (.many [(.sl i64), (.sl (.sl i64)), .bool]) fun d => f35_1 L N d.1 d.2.1
noncomputable def E35_1 (L N : Nat) : Env := { P := Tryd.prog, ty := tyOf, Φ := (Φ27 L N), inl := inlT, live := lives, liveX := livesX, L := L, dp := none, prom := promT, heal := healT, ren := renT }
noncomputable def f35_1.c0 : Code := loopAt 0 (codeOf Tryd.f35)
def f35_1.X0_e0 {R : Type} (κ : KX R) := fun z8 z9 => κ (.exit 0) (f35_1.T0_e0 z8 z9) (f35_1.H0_e0 z8 z9)
def f35_1.R0 {R : Type} (rec : KT R) := fun s1 s2 s3 s4 s5 s6 s7 => rec (f35_1.T0 s1 s2 s3 s4 s5 s6 s7) (f35_1.H0 s1 s2 s3 s4 s5 s6 s7)
theorem f35_1.s0_eq {R : Type} (L N : Nat) (κ : KX R) (rec : KT R) (s1 : LI) (s2 : LLM) (s3 : LI) (s4 : LI) (s5 : Int) (s6 : Int) (s7 : LLI) :
    evRd (E35_1 L N) (evCallI (E35_1 L N) 1 2000) 1000 35 30 0 f35_1.c0 κ rec (f35_1.T0 s1 s2 s3 s4 s5 s6 s7) (f35_1.H0 s1 s2 s3 s4 s5 s6 s7)
    = f35_1.s0 L N (f35_1.X0_e0 κ) (f35_1.R0 rec) s1 s2 s3 s4 s5 s6 s7 := by kernel_rfl
theorem f35_1.l0_eq {R : Type} (L N : Nat) (κ : KX R) : ∀ (n : Nat) (s1 : LI) (s2 : LLM) (s3 : LI) (s4 : LI) (s5 : Int) (s6 : Int) (s7 : LLI),
    evLp (E35_1 L N) (evCallI (E35_1 L N) 1 2000) 1000 35 30 0 f35_1.c0 κ n (f35_1.T0 s1 s2 s3 s4 s5 s6 s7) (f35_1.H0 s1 s2 s3 s4 s5 s6 s7)
    = f35_1.l0 L N (f35_1.X0_e0 κ) n s1 s2 s3 s4 s5 s6 s7 := by
  intro n
  induction n with
  | zero => intros; rfl
  | succ n ih =>
    intro s1 s2 s3 s4 s5 s6 s7
    rw [evLp_succ, f35_1.s0_eq]
    delta f35_1.R0
    simp only [ih]
    rfl
theorem f35_1.p0_e0_eq {R : Type} (L N : Nat) (κ : AV → Option R) (z8 : LI) (z9 : LLI) :
    (contAt (E35_1 L N) (evCallI (E35_1 L N) 1 2000) 1000 35 30 0 (codeOf Tryd.f35) (finK (E35_1 L N) 1000 Tryd.f35 (finC (.many [(.sl i64), (.sl (.sl i64)), .bool]) κ))) (.exit 0) (f35_1.T0_e0 z8 z9) (f35_1.H0_e0 z8 z9)
    = f35_1.p0_e0 L N (fun a0 a1 a2 => κ (.tup [(.tv (.sl i64) a0), (.tv (.sl (.sl i64)) a1), (.tv .bool a2)])) z8 z9 := by kernel_rfl
theorem f35_1.b_eq {R : Type} (L N : Nat) (κ : AV → Option R) (x0 : LI) (x1 : LLM) :
    evBody (E35_1 L N) (evCallI (E35_1 L N) 1 2000) 1000 35 Tryd.f35 [(.tv (.sl i64) x0), (.imp (.sl (.sl (.st 0))) x1 0)] [] [] (finC (.many [(.sl i64), (.sl (.sl i64)), .bool]) κ)
    = f35_1.b L N (fun a0 a1 a2 => κ (.tup [(.tv (.sl i64) a0), (.tv (.sl (.sl i64)) a1), (.tv .bool a2)])) x0 x1 := by
  refine Eq.trans (b := f35_1.b' L N (fun a0 a1 a2 => κ (.tup [(.tv (.sl i64) a0), (.tv (.sl (.sl i64)) a1), (.tv .bool a2)])) (fun s1 s2 s3 s4 s5 s6 s7 => evLp (E35_1 L N) (evCallI (E35_1 L N) 1 2000) 1000 35 30 0 f35_1.c0 (contAt (E35_1 L N) (evCallI (E35_1 L N) 1 2000) 1000 35 30 0 (codeOf Tryd.f35) (finK (E35_1 L N) 1000 Tryd.f35 (finC (.many [(.sl i64), (.sl (.sl i64)), .bool]) κ))) L (f35_1.T0 s1 s2 s3 s4 s5 s6 s7) (f35_1.H0 s1 s2 s3 s4 s5 s6 s7)) x0 x1) (by kernel_rfl) ?_
  unfold f35_1.b
  simp only [f35_1.l0_eq]
  delta f35_1.X0_e0
  simp only [f35_1.p0_e0_eq]
theorem f35_1.ok (L N : Nat) (hΦ : TellsOk Tryd.prog ((Φ27 L N))) : EntOkO Tryd.prog 35 (f35_1.ent L N) := entDf_ok (E := (E35_1 L N)) (dep := 1000) (f := Tryd.f35) (sound_of hΦ) okP (callI_sound (sound_of hΦ) okP 1 2000) rfl fun d _ hy => (f35_1.b_eq L N (unR (.many [(.sl i64), (.sl (.sl i64)), .bool])) d.1 d.2.1).trans (Eq.trans (b := f35_1.b L N (fun a0 a1 a2 => some (a0, a1, a2)) d.1 d.2.1) (by kernel_rfl) hy)
def Φ35_1 (L N : Nat) : Tells := (addO (Φ27 L N) 35 (f35_1.ent L N))
theorem Φ35_1_ok (L N : Nat) : TellsOk Tryd.prog (Φ35_1 L N) := addO_ok (Φ27_ok L N) (f35_1.ok L N (Φ27_ok L N))
def f32_1.j0' {R : Type} (L N : Nat) (k1_e2 : LLM → Int → LLI → (List (ByteArray × Int)) → LM → LLM → LLM → Option R) (k1_r : LLM → Bool → Int → LLI → (List (ByteArray × Int)) → LM → LLM → LLM → Option R) (rec1 : LLM → Int → LI → LLI → Int → Int → LLI → (List (ByteArray × Int)) → LM → LLM → LLM → Option R) (v40 : LLM) (v41 : Int) (v42 : LI) (v43 : Int) (v44 : Int) (v45 : LLI) (v46 : Int) (v47 : Int) (v48 : LLI) (v49 : (List (ByteArray × Int))) (v50 : LM) (v51 : LLM) (v52 : LLM) : Option R :=
  bif (decide (0 ≤ v43) && decide (v43 < (v42.length : Int))) then
    bif (decide (v50.length + ([(Move.mk (listAt v42 (0 : Int) v43.toNat) v44)] : LM).length ≤ lim)) then
      rec1 v40 v41 v42 v45 v46 (wi (v47 + (1 : Int))) v48 v49 (v50 ++ ([(Move.mk (listAt v42 (0 : Int) v43.toNat) v44)] : LM)) v51 v52
    else none
  else none
def f32_1.s1' {R : Type} (L N : Nat) (k1_e2 : LLM → Int → LLI → (List (ByteArray × Int)) → LM → LLM → LLM → Option R) (k1_r : LLM → Bool → Int → LLI → (List (ByteArray × Int)) → LM → LLM → LLM → Option R) (rec1 : LLM → Int → LI → LLI → Int → Int → LLI → (List (ByteArray × Int)) → LM → LLM → LLM → Option R) (s13 : LLM) (s14 : Int) (s15 : LI) (s16 : LLI) (s17 : Int) (s18 : Int) (s19 : LLI) (s20 : (List (ByteArray × Int))) (s21 : LM) (s22 : LLM) (s23 : LLM) : Option R :=
  bif (decide (s18 < s17)) then
    bif (decide (0 ≤ s18) && decide (s18 < (s16.length : Int))) then
      (f34 L N (listAt s16 [] s18.toNat)).bind fun y31 =>
      bif (!(Option.isSome (mapFind .str i64 y31 s20))) then
        bif ((s19.length : Int) == (60 : Int)) then
          k1_r s13 false s14 s19 s20 s21 s22 s23
        else bif (decide (s19.length + ([(listAt s16 [] s18.toNat)] : LLI).length ≤ lim)) then
          f32_1.j0' L N k1_e2 k1_r rec1 s13 s14 s15 s18 (s19.length : Int) s16 s17 s18 (s19 ++ ([(listAt s16 [] s18.toNat)] : LLI)) (mapPut .str i64 y31 (s19.length : Int) s20) s21 s22 s23
        else none
      else f32_1.j0' L N k1_e2 k1_r rec1 s13 s14 s15 s18 ((mapFind .str i64 y31 s20).getD (Ty.dflt i64)) s16 s17 s18 s19 s20 s21 s22 s23
    else none
  else k1_e2 s13 s14 s19 s20 s21 s22 s23
def f32_1.s1 {R : Type} (L N : Nat) (k1_e2 : LLM → Int → LLI → (List (ByteArray × Int)) → LM → LLM → LLM → Option R) (k1_r : LLM → Bool → Int → LLI → (List (ByteArray × Int)) → LM → LLM → LLM → Option R) (rec1 : LLM → Int → LI → LLI → Int → Int → LLI → (List (ByteArray × Int)) → LM → LLM → LLM → Option R) (s13 : LLM) (s14 : Int) (s15 : LI) (s16 : LLI) (s17 : Int) (s18 : Int) (s19 : LLI) (s20 : (List (ByteArray × Int))) (s21 : LM) (s22 : LLM) (s23 : LLM) : Option R :=
  f32_1.s1' L N k1_e2 k1_r rec1 s13 s14 s15 s16 s17 s18 s19 s20 s21 s22 s23
def f32_1.l1 {R : Type} (L N : Nat) (k1_e2 : LLM → Int → LLI → (List (ByteArray × Int)) → LM → LLM → LLM → Option R) (k1_r : LLM → Bool → Int → LLI → (List (ByteArray × Int)) → LM → LLM → LLM → Option R) : Nat → LLM → Int → LI → LLI → Int → Int → LLI → (List (ByteArray × Int)) → LM → LLM → LLM → Option R
  | 0, _, _, _, _, _, _, _, _, _, _, _ => none
  | n + 1, s13, s14, s15, s16, s17, s18, s19, s20, s21, s22, s23 => f32_1.s1 L N k1_e2 k1_r (f32_1.l1 L N k1_e2 k1_r n) s13 s14 s15 s16 s17 s18 s19 s20 s21 s22 s23
def f32_1.T1 (s13 : LLM) (s14 : Int) (s15 : LI) (s16 : LLI) (s17 : Int) (s18 : Int) (s19 : LLI) (s20 : (List (ByteArray × Int))) (s21 : LM) (s22 : LLM) (s23 : LLM) : T := mkT 97 [(1, (.fn 34 [])), (2, (.fn 35 [(.imp (.sl (.sl (.st 0))) s13 0)])), (6, (.ptr 1006 0)), (8, (.row 1022)), (9, (.mp 1023)), (10, (.ptr 1010 0)), (11, (.tv i64 s14)), (12, (.tv (.sl i64) s15)), (15, (.row 1048)), (49, (.tv (.sl (.sl i64)) s16)), (50, (.tv i64 s17)), (51, (.tv i64 s18))]
def f32_1.H1 (s13 : LLM) (s14 : Int) (s15 : LI) (s16 : LLI) (s17 : Int) (s18 : Int) (s19 : LLI) (s20 : (List (ByteArray × Int))) (s21 : LM) (s22 : LLM) (s23 : LLM) : H := [(1006, (.box [(.row 1900)])), (1010, (.box [(.row 1901)])), (1022, (.row 48 (.sl i64) s19)), (1023, (.map .str i64 s20)), (1048, (.row 56 (.st 0) s21)), (1900, (.deep 0 (.sl (.st 0)) s22 none)), (1901, (.deep 0 (.sl (.st 0)) s23 none))]
def f32_1.T1_e2 (z24 : LLM) (z25 : Int) (z26 : LLI) (z27 : (List (ByteArray × Int))) (z28 : LM) (z29 : LLM) (z30 : LLM) : T := mkT 97 [(1, (.fn 34 [])), (2, (.fn 35 [(.imp (.sl (.sl (.st 0))) z24 0)])), (6, (.ptr 1006 0)), (8, (.row 1022)), (9, (.mp 1023)), (10, (.ptr 1010 0)), (11, (.tv i64 z25)), (15, (.row 1048))]
def f32_1.H1_e2 (z24 : LLM) (z25 : Int) (z26 : LLI) (z27 : (List (ByteArray × Int))) (z28 : LM) (z29 : LLM) (z30 : LLM) : H := [(1006, (.box [(.row 1900)])), (1010, (.box [(.row 1901)])), (1022, (.row 48 (.sl i64) z26)), (1023, (.map .str i64 z27)), (1048, (.row 56 (.st 0) z28)), (1900, (.deep 0 (.sl (.st 0)) z29 none)), (1901, (.deep 0 (.sl (.st 0)) z30 none))]
def f32_1.T1_r (z32 : LLM) (z33 : Bool) (z34 : Int) (z35 : LLI) (z36 : (List (ByteArray × Int))) (z37 : LM) (z38 : LLM) (z39 : LLM) : T := mkT 97 [(1, (.fn 34 [])), (2, (.fn 35 [(.imp (.sl (.sl (.st 0))) z32 0)])), (6, (.ptr 1006 0)), (7, (.tv .bool z33)), (8, (.row 1022)), (9, (.mp 1023)), (10, (.ptr 1010 0)), (11, (.tv i64 z34)), (15, (.row 1048))]
def f32_1.H1_r (z32 : LLM) (z33 : Bool) (z34 : Int) (z35 : LLI) (z36 : (List (ByteArray × Int))) (z37 : LM) (z38 : LLM) (z39 : LLM) : H := [(1006, (.box [.nil])), (1010, (.box [(.row 1901)])), (1022, (.row 48 (.sl i64) z35)), (1023, (.map .str i64 z36)), (1048, (.row 56 (.st 0) z37)), (1900, (.deep 0 (.sl (.st 0)) z38 none)), (1901, (.deep 0 (.sl (.st 0)) z39 none))]
def f32_1.p1_e2' {R : Type} (L N : Nat) (k0_e0 : LLM → LLM → Option R) (k0_r : Bool → LLM → LLM → Option R) (rec0 : LLM → Int → LLI → (List (ByteArray × Int)) → LLM → LLM → Option R) (z24 : LLM) (z25 : Int) (z26 : LLI) (z27 : (List (ByteArray × Int))) (z28 : LM) (z29 : LLM) (z30 : LLM) : Option R :=
  ((fsortM z28)).bind fun y53 =>
  bif (decide (z30.length + ([(tidyM z28)] : LLM).length ≤ lim)) then
    rec0 z24 (wi (z25 + (1 : Int))) z26 z27 z29 (z30 ++ ([(tidyM z28)] : LLM))
  else none
def f32_1.p1_e2 {R : Type} (L N : Nat) (k0_e0 : LLM → LLM → Option R) (k0_r : Bool → LLM → LLM → Option R) (rec0 : LLM → Int → LLI → (List (ByteArray × Int)) → LLM → LLM → Option R) (z24 : LLM) (z25 : Int) (z26 : LLI) (z27 : (List (ByteArray × Int))) (z28 : LM) (z29 : LLM) (z30 : LLM) : Option R :=
  f32_1.p1_e2' L N k0_e0 k0_r rec0 z24 z25 z26 z27 z28 z29 z30
def f32_1.p1_r' {R : Type} (L N : Nat) (k0_e0 : LLM → LLM → Option R) (k0_r : Bool → LLM → LLM → Option R) (rec0 : LLM → Int → LLI → (List (ByteArray × Int)) → LLM → LLM → Option R) (z32 : LLM) (z33 : Bool) (z34 : Int) (z35 : LLI) (z36 : (List (ByteArray × Int))) (z37 : LM) (z38 : LLM) (z39 : LLM) : Option R :=
  k0_r z33 z38 z39
def f32_1.p1_r {R : Type} (L N : Nat) (k0_e0 : LLM → LLM → Option R) (k0_r : Bool → LLM → LLM → Option R) (rec0 : LLM → Int → LLI → (List (ByteArray × Int)) → LLM → LLM → Option R) (z32 : LLM) (z33 : Bool) (z34 : Int) (z35 : LLI) (z36 : (List (ByteArray × Int))) (z37 : LM) (z38 : LLM) (z39 : LLM) : Option R :=
  f32_1.p1_r' L N k0_e0 k0_r rec0 z32 z33 z34 z35 z36 z37 z38 z39
def f32_1.s0' {R : Type} (L N : Nat) (k0_e0 : LLM → LLM → Option R) (k0_r : Bool → LLM → LLM → Option R) (rec0 : LLM → Int → LLI → (List (ByteArray × Int)) → LLM → LLM → Option R) (w1 : LLM → Int → LI → LLI → Int → Int → LLI → (List (ByteArray × Int)) → LM → LLM → LLM → Option R) (s1 : LLM) (s2 : Int) (s3 : LLI) (s4 : (List (ByteArray × Int))) (s5 : LLM) (s6 : LLM) : Option R :=
  bif (decide (s2 < (s3.length : Int))) then
    bif (decide (0 ≤ s2) && decide (s2 < (s3.length : Int))) then
      (f35_1 L N (listAt s3 [] s2.toNat) s1).bind fun y9 =>
      bif (!y9.2.2) then
        k0_r false s5 s6
      else w1 s1 s2 y9.1 y9.2.1 (y9.2.1.length : Int) (0 : Int) s3 s4 ([] : LM) s5 s6
    else none
  else k0_e0 s5 s6
def f32_1.s0 {R : Type} (L N : Nat) (k0_e0 : LLM → LLM → Option R) (k0_r : Bool → LLM → LLM → Option R) (rec0 : LLM → Int → LLI → (List (ByteArray × Int)) → LLM → LLM → Option R) (s1 : LLM) (s2 : Int) (s3 : LLI) (s4 : (List (ByteArray × Int))) (s5 : LLM) (s6 : LLM) : Option R :=
  f32_1.s0' L N k0_e0 k0_r rec0 (fun s13 s14 s15 s16 s17 s18 s19 s20 s21 s22 s23 => f32_1.l1 L N (fun z24 z25 z26 z27 z28 z29 z30 => f32_1.p1_e2 L N k0_e0 k0_r rec0 z24 z25 z26 z27 z28 z29 z30) (fun z32 z33 z34 z35 z36 z37 z38 z39 => f32_1.p1_r L N k0_e0 k0_r rec0 z32 z33 z34 z35 z36 z37 z38 z39) L s13 s14 s15 s16 s17 s18 s19 s20 s21 s22 s23) s1 s2 s3 s4 s5 s6
def f32_1.l0 {R : Type} (L N : Nat) (k0_e0 : LLM → LLM → Option R) (k0_r : Bool → LLM → LLM → Option R) : Nat → LLM → Int → LLI → (List (ByteArray × Int)) → LLM → LLM → Option R
  | 0, _, _, _, _, _, _ => none
  | n + 1, s1, s2, s3, s4, s5, s6 => f32_1.s0 L N k0_e0 k0_r (f32_1.l0 L N k0_e0 k0_r n) s1 s2 s3 s4 s5 s6
def f32_1.T0 (s1 : LLM) (s2 : Int) (s3 : LLI) (s4 : (List (ByteArray × Int))) (s5 : LLM) (s6 : LLM) : T := mkT 97 [(1, (.fn 34 [])), (2, (.fn 35 [(.imp (.sl (.sl (.st 0))) s1 0)])), (6, (.ptr 1006 0)), (8, (.row 1022)), (9, (.mp 1023)), (10, (.ptr 1010 0)), (11, (.tv i64 s2))]
def f32_1.H0 (s1 : LLM) (s2 : Int) (s3 : LLI) (s4 : (List (ByteArray × Int))) (s5 : LLM) (s6 : LLM) : H := [(1006, (.box [(.row 1900)])), (1010, (.box [(.row 1901)])), (1022, (.row 48 (.sl i64) s3)), (1023, (.map .str i64 s4)), (1900, (.deep 0 (.sl (.st 0)) s5 none)), (1901, (.deep 0 (.sl (.st 0)) s6 none))]
def f32_1.T0_e0 (z7 : LLM) (z8 : LLM) : T := mkT 97 [(6, (.ptr 1006 0)), (10, (.ptr 1010 0))]
def f32_1.H0_e0 (z7 : LLM) (z8 : LLM) : H := [(1006, (.box [(.row 1900)])), (1010, (.box [(.row 1901)])), (1900, (.deep 0 (.sl (.st 0)) z7 none)), (1901, (.deep 0 (.sl (.st 0)) z8 none))]
def f32_1.T0_r (z10 : Bool) (z11 : LLM) (z12 : LLM) : T := mkT 97 [(6, (.ptr 1006 0)), (7, (.tv .bool z10)), (10, (.ptr 1010 0))]
def f32_1.H0_r (z10 : Bool) (z11 : LLM) (z12 : LLM) : H := [(1006, (.box [.nil])), (1010, (.box [(.row 1901)])), (1900, (.deep 0 (.sl (.st 0)) z11 none)), (1901, (.deep 0 (.sl (.st 0)) z12 none))]
def f32_1.p0_e0' {R : Type} (L N : Nat) (k : LLM → Bool → Option R) (z7 : LLM) (z8 : LLM) : Option R :=
  k z8 true
def f32_1.p0_e0 {R : Type} (L N : Nat) (k : LLM → Bool → Option R) (z7 : LLM) (z8 : LLM) : Option R :=
  f32_1.p0_e0' L N k z7 z8
def f32_1.p0_r' {R : Type} (L N : Nat) (k : LLM → Bool → Option R) (z10 : Bool) (z11 : LLM) (z12 : LLM) : Option R :=
  k [] z10
def f32_1.p0_r {R : Type} (L N : Nat) (k : LLM → Bool → Option R) (z10 : Bool) (z11 : LLM) (z12 : LLM) : Option R :=
  f32_1.p0_r' L N k z10 z11 z12
def f32_1.b' {R : Type} (L N : Nat) (k : LLM → Bool → Option R) (w0 : LLM → Int → LLI → (List (ByteArray × Int)) → LLM → LLM → Option R) (x0 : LI) (x1 : LLM) : Option R :=
  (f34 L N x0).bind fun y0 =>
  w0 x1 (0 : Int) ([x0] : LLI) (mapPut .str i64 y0 (0 : Int) ([] : (List (ByteArray × Int)))) ([] : LLM) ([] : LLM)
def f32_1.b {R : Type} (L N : Nat) (k : LLM → Bool → Option R) (x0 : LI) (x1 : LLM) : Option R :=
  f32_1.b' L N k (fun s1 s2 s3 s4 s5 s6 => f32_1.l0 L N (fun z7 z8 => f32_1.p0_e0 L N k z7 z8) (fun z10 z11 z12 => f32_1.p0_r L N k z10 z11 z12) L s1 s2 s3 s4 s5 s6) x0 x1
def f32_1 (L N : Nat) (x0 : LI) (x1 : LLM) : Option (LLM × Bool) := f32_1.b L N (fun a0 a1 => some (a0, a1)) x0 x1
def f32_1.ent (L N : Nat) (args : List AV) (vw : View) (site : Nat) : Option Ans := match shD [(.dat (.sl i64)), (.fn 34 []), (.fn 35 [(.imp (.sl (.sl (.st 0))) 0)])] vw args with
  | some d => some ⟨LLM × Bool, f32_1 L N d.1 d.2.2.1.1, fun y => (RN.av site (.tup (.agg []) [.bool]) ((()), (y.2, ())), [(site, some (mkO (some 0) 54 (.sl (.st 0)) y.1))], [])⟩
  | none => none
noncomputable def E32_1 (L N : Nat) : Env := { P := Tryd.prog, ty := tyOf, Φ := (Φ35_1 L N), inl := inlT, live := lives, liveX := livesX, L := L, dp := (some 100), prom := promT, heal := healT, ren := renT }
noncomputable def f32_1.c0 : Code := loopAt 0 (codeOf Tryd.f32)
noncomputable def f32_1.c1 : Code := loopAt 2 f32_1.c0
def f32_1.X1_e2 {R : Type} (κ : KX R) := fun z24 z25 z26 z27 z28 z29 z30 => κ (.exit 2) (f32_1.T1_e2 z24 z25 z26 z27 z28 z29 z30) (f32_1.H1_e2 z24 z25 z26 z27 z28 z29 z30)
def f32_1.X1_r {R : Type} (κ : KX R) := fun z32 z33 z34 z35 z36 z37 z38 z39 => κ .ret (f32_1.T1_r z32 z33 z34 z35 z36 z37 z38 z39) (f32_1.H1_r z32 z33 z34 z35 z36 z37 z38 z39)
def f32_1.R1 {R : Type} (rec : KT R) := fun s13 s14 s15 s16 s17 s18 s19 s20 s21 s22 s23 => rec (f32_1.T1 s13 s14 s15 s16 s17 s18 s19 s20 s21 s22 s23) (f32_1.H1 s13 s14 s15 s16 s17 s18 s19 s20 s21 s22 s23)
theorem f32_1.s1_eq {R : Type} (L N : Nat) (κ : KX R) (rec : KT R) (s13 : LLM) (s14 : Int) (s15 : LI) (s16 : LLI) (s17 : Int) (s18 : Int) (s19 : LLI) (s20 : (List (ByteArray × Int))) (s21 : LM) (s22 : LLM) (s23 : LLM) :
    evRd (E32_1 L N) (evCallI (E32_1 L N) 1 2000) 1000 32 97 2 f32_1.c1 κ rec (f32_1.T1 s13 s14 s15 s16 s17 s18 s19 s20 s21 s22 s23) (f32_1.H1 s13 s14 s15 s16 s17 s18 s19 s20 s21 s22 s23)
    = f32_1.s1 L N (f32_1.X1_e2 κ) (f32_1.X1_r κ) (f32_1.R1 rec) s13 s14 s15 s16 s17 s18 s19 s20 s21 s22 s23 := by kernel_rfl
theorem f32_1.l1_eq {R : Type} (L N : Nat) (κ : KX R) : ∀ (n : Nat) (s13 : LLM) (s14 : Int) (s15 : LI) (s16 : LLI) (s17 : Int) (s18 : Int) (s19 : LLI) (s20 : (List (ByteArray × Int))) (s21 : LM) (s22 : LLM) (s23 : LLM),
    evLp (E32_1 L N) (evCallI (E32_1 L N) 1 2000) 1000 32 97 2 f32_1.c1 κ n (f32_1.T1 s13 s14 s15 s16 s17 s18 s19 s20 s21 s22 s23) (f32_1.H1 s13 s14 s15 s16 s17 s18 s19 s20 s21 s22 s23)
    = f32_1.l1 L N (f32_1.X1_e2 κ) (f32_1.X1_r κ) n s13 s14 s15 s16 s17 s18 s19 s20 s21 s22 s23 := by
  intro n
  induction n with
  | zero => intros; rfl
  | succ n ih =>
    intro s13 s14 s15 s16 s17 s18 s19 s20 s21 s22 s23
    rw [evLp_succ, f32_1.s1_eq]
    delta f32_1.R1
    simp only [ih]
    rfl
def f32_1.X0_e0 {R : Type} (κ : KX R) := fun z7 z8 => κ (.exit 0) (f32_1.T0_e0 z7 z8) (f32_1.H0_e0 z7 z8)
def f32_1.X0_r {R : Type} (κ : KX R) := fun z10 z11 z12 => κ .ret (f32_1.T0_r z10 z11 z12) (f32_1.H0_r z10 z11 z12)
def f32_1.R0 {R : Type} (rec : KT R) := fun s1 s2 s3 s4 s5 s6 => rec (f32_1.T0 s1 s2 s3 s4 s5 s6) (f32_1.H0 s1 s2 s3 s4 s5 s6)
theorem f32_1.p1_e2_eq {R : Type} (L N : Nat) (κ : KX R) (rec : KT R) (z24 : LLM) (z25 : Int) (z26 : LLI) (z27 : (List (ByteArray × Int))) (z28 : LM) (z29 : LLM) (z30 : LLM) :
    (contAt (E32_1 L N) (evCallI (E32_1 L N) 1 2000) 1000 32 97 2 f32_1.c0 (rdK (E32_1 L N) 1000 32 97 0 κ rec)) (.exit 2) (f32_1.T1_e2 z24 z25 z26 z27 z28 z29 z30) (f32_1.H1_e2 z24 z25 z26 z27 z28 z29 z30)
    = f32_1.p1_e2 L N (f32_1.X0_e0 κ) (f32_1.X0_r κ) (f32_1.R0 rec) z24 z25 z26 z27 z28 z29 z30 := by kernel_rfl
theorem f32_1.p1_r_eq {R : Type} (L N : Nat) (κ : KX R) (rec : KT R) (z32 : LLM) (z33 : Bool) (z34 : Int) (z35 : LLI) (z36 : (List (ByteArray × Int))) (z37 : LM) (z38 : LLM) (z39 : LLM) :
    (contAt (E32_1 L N) (evCallI (E32_1 L N) 1 2000) 1000 32 97 2 f32_1.c0 (rdK (E32_1 L N) 1000 32 97 0 κ rec)) .ret (f32_1.T1_r z32 z33 z34 z35 z36 z37 z38 z39) (f32_1.H1_r z32 z33 z34 z35 z36 z37 z38 z39)
    = f32_1.p1_r L N (f32_1.X0_e0 κ) (f32_1.X0_r κ) (f32_1.R0 rec) z32 z33 z34 z35 z36 z37 z38 z39 := by kernel_rfl
theorem f32_1.s0_eq {R : Type} (L N : Nat) (κ : KX R) (rec : KT R) (s1 : LLM) (s2 : Int) (s3 : LLI) (s4 : (List (ByteArray × Int))) (s5 : LLM) (s6 : LLM) :
    evRd (E32_1 L N) (evCallI (E32_1 L N) 1 2000) 1000 32 97 0 f32_1.c0 κ rec (f32_1.T0 s1 s2 s3 s4 s5 s6) (f32_1.H0 s1 s2 s3 s4 s5 s6)
    = f32_1.s0 L N (f32_1.X0_e0 κ) (f32_1.X0_r κ) (f32_1.R0 rec) s1 s2 s3 s4 s5 s6 := by
  refine Eq.trans (b := f32_1.s0' L N (f32_1.X0_e0 κ) (f32_1.X0_r κ) (f32_1.R0 rec) (fun s13 s14 s15 s16 s17 s18 s19 s20 s21 s22 s23 => evLp (E32_1 L N) (evCallI (E32_1 L N) 1 2000) 1000 32 97 2 f32_1.c1 (contAt (E32_1 L N) (evCallI (E32_1 L N) 1 2000) 1000 32 97 2 f32_1.c0 (rdK (E32_1 L N) 1000 32 97 0 κ rec)) L (f32_1.T1 s13 s14 s15 s16 s17 s18 s19 s20 s21 s22 s23) (f32_1.H1 s13 s14 s15 s16 s17 s18 s19 s20 s21 s22 s23)) s1 s2 s3 s4 s5 s6) (by kernel_rfl) ?_
  unfold f32_1.s0
  simp only [f32_1.l1_eq]
  delta f32_1.X1_e2 f32_1.X1_r
  simp only [f32_1.p1_e2_eq, f32_1.p1_r_eq]
theorem f32_1.l0_eq {R : Type} (L N : Nat) (κ : KX R) : ∀ (n : Nat) (s1 : LLM) (s2 : Int) (s3 : LLI) (s4 : (List (ByteArray × Int))) (s5 : LLM) (s6 : LLM),
    evLp (E32_1 L N) (evCallI (E32_1 L N) 1 2000) 1000 32 97 0 f32_1.c0 κ n (f32_1.T0 s1 s2 s3 s4 s5 s6) (f32_1.H0 s1 s2 s3 s4 s5 s6)
    = f32_1.l0 L N (f32_1.X0_e0 κ) (f32_1.X0_r κ) n s1 s2 s3 s4 s5 s6 := by
  intro n
  induction n with
  | zero => intros; rfl
  | succ n ih =>
    intro s1 s2 s3 s4 s5 s6
    rw [evLp_succ, f32_1.s0_eq]
    delta f32_1.R0
    simp only [ih]
    rfl
theorem f32_1.p0_e0_eq {R : Type} (L N : Nat) (κ : RN.Den (.tup (.agg []) [.bool]) → List LM → Option R) (z7 : LLM) (z8 : LLM) :
    (contAt (E32_1 L N) (evCallI (E32_1 L N) 1 2000) 1000 32 97 0 (codeOf Tryd.f32) (finK (E32_1 L N) 1000 Tryd.f32 (finN (.tup (.agg []) [.bool]) (some 0) 54 (.sl (.st 0)) κ))) (.exit 0) (f32_1.T0_e0 z7 z8) (f32_1.H0_e0 z7 z8)
    = f32_1.p0_e0 L N (fun a0 a1 => κ ((()), (a1, ())) a0) z7 z8 := by kernel_rfl
theorem f32_1.p0_r_eq {R : Type} (L N : Nat) (κ : RN.Den (.tup (.agg []) [.bool]) → List LM → Option R) (z10 : Bool) (z11 : LLM) (z12 : LLM) :
    (contAt (E32_1 L N) (evCallI (E32_1 L N) 1 2000) 1000 32 97 0 (codeOf Tryd.f32) (finK (E32_1 L N) 1000 Tryd.f32 (finN (.tup (.agg []) [.bool]) (some 0) 54 (.sl (.st 0)) κ))) .ret (f32_1.T0_r z10 z11 z12) (f32_1.H0_r z10 z11 z12)
    = f32_1.p0_r L N (fun a0 a1 => κ ((()), (a1, ())) a0) z10 z11 z12 := by kernel_rfl
theorem f32_1.b_eq {R : Type} (L N : Nat) (κ : RN.Den (.tup (.agg []) [.bool]) → List LM → Option R) (x0 : LI) (x1 : LLM) :
    evBody (E32_1 L N) (evCallI (E32_1 L N) 1 2000) 1000 32 Tryd.f32 [(.tv (.sl i64) x0), (.fn 34 []), (.fn 35 [(.imp (.sl (.sl (.st 0))) x1 0)])] [] [] (finN (.tup (.agg []) [.bool]) (some 0) 54 (.sl (.st 0)) κ)
    = f32_1.b L N (fun a0 a1 => κ ((()), (a1, ())) a0) x0 x1 := by
  refine Eq.trans (b := f32_1.b' L N (fun a0 a1 => κ ((()), (a1, ())) a0) (fun s1 s2 s3 s4 s5 s6 => evLp (E32_1 L N) (evCallI (E32_1 L N) 1 2000) 1000 32 97 0 f32_1.c0 (contAt (E32_1 L N) (evCallI (E32_1 L N) 1 2000) 1000 32 97 0 (codeOf Tryd.f32) (finK (E32_1 L N) 1000 Tryd.f32 (finN (.tup (.agg []) [.bool]) (some 0) 54 (.sl (.st 0)) κ))) L (f32_1.T0 s1 s2 s3 s4 s5 s6) (f32_1.H0 s1 s2 s3 s4 s5 s6)) x0 x1) (by kernel_rfl) ?_
  unfold f32_1.b
  simp only [f32_1.l0_eq]
  delta f32_1.X0_e0 f32_1.X0_r
  simp only [f32_1.p0_e0_eq, f32_1.p0_r_eq]
theorem f32_1.ok (L N : Nat) (hΦ : TellsOk Tryd.prog ((Φ35_1 L N))) : EntOkO Tryd.prog 32 (f32_1.ent L N) := by
  intro args vw site h a ha
  unfold f32_1.ent at ha
  split at ha
  · rename_i d hd
    obtain rfl := Option.some.inj ha
    intro y hy hs
    refine call_ronF (y := y) (dep := 1000) (E := (E32_1 L N)) (rn := (.tup (.agg []) [.bool])) (q := (some 0)) (el := 54) (ty := (.sl (.st 0))) (d1 := ((()), (y.2, ()))) (xs := y.1) (κ := (fun d xs => some (xs, d.2.1))) (sound_of hΦ) okP (callI_sound (sound_of hΦ) okP 1 2000) (f := Tryd.f32) rfl hs hd ?_ (fun _ _ h => by obtain rfl := Option.some.inj h; exact ⟨rfl, rfl⟩) rfl site
    exact (f32_1.b_eq L N (fun d xs => some (xs, d.2.1)) d.1 d.2.2.1.1).trans (Eq.trans (b := f32_1.b L N (fun a0 a1 => some (a0, a1)) d.1 d.2.2.1.1) (by kernel_rfl) hy)
  · cases ha
def Φ32_1 (L N : Nat) : Tells := (addO (Φ35_1 L N) 32 (f32_1.ent L N))
theorem Φ32_1_ok (L N : Nat) : TellsOk Tryd.prog (Φ32_1 L N) := addO_ok (Φ35_1_ok L N) (f32_1.ok L N (Φ35_1_ok L N))
def f11.b' {R : Type} (L N : Nat) (k : LLM → Bool → Option R) (x0 : Graph) : Option R :=
  (f23 L N (Graph.mk x0.moves)).bind fun y0 =>
  bif (!y0) then
    k [] false
  else (f33 L N (Graph.mk x0.moves) []).bind fun y1 =>
  (f32_1 L N y1 x0.moves).bind fun y2 =>
  k y2.1 y2.2
def f11.b {R : Type} (L N : Nat) (k : LLM → Bool → Option R) (x0 : Graph) : Option R :=
  f11.b' L N k x0
def f11 (L N : Nat) (x0 : Graph) : Option (LLM × Bool) := f11.b L N (fun a0 a1 => some (a0, a1)) x0
def f11.ent (L N : Nat) (args : List AV) (vw : View) (site : Nat) : Ans := match roD [(.st 2)] vw args with
  | some d => ⟨LLM × Bool, f11 L N d.1, fun y => (RN.av site (.tup (.agg []) [.bool]) ((()), (y.2, ())), [(site, some (mkO (some 0) 54 (.sl (.st 0)) y.1))], [])⟩
  | none => Ans.no
noncomputable def E11 (L N : Nat) : Env := { P := Tryd.prog, ty := tyOf, Φ := (Φ32_1 L N), inl := inlT, live := lives, liveX := livesX, L := L, dp := (some 0), prom := promT, heal := healT, ren := renT }
theorem f11.b_eq {R : Type} (L N : Nat) (κ : RN.Den (.tup (.agg []) [.bool]) → List LM → Option R) (x0 : Graph) :
    evBody (E11 L N) (evCallI (E11 L N) 1 2000) 1000 11 Tryd.f11 [(.tv (.st 2) x0)] [] [] (finN (.tup (.agg []) [.bool]) (some 0) 54 (.sl (.st 0)) κ)
    = f11.b L N (fun a0 a1 => κ ((()), (a1, ())) a0) x0 := by kernel_rfl
theorem f11.ok (L N : Nat) (hΦ : TellsOk Tryd.prog ((Φ32_1 L N))) : EntOk Tryd.prog 11 (f11.ent L N) := by
  intro args vw site h
  unfold f11.ent
  split
  · rename_i d ha
    intro y hy hs
    refine call_ron (y := y) (dep := 1000) (E := (E11 L N)) (ts := [(.st 2)]) (rn := (.tup (.agg []) [.bool])) (q := (some 0)) (el := 54) (ty := (.sl (.st 0))) (d1 := ((()), (y.2, ()))) (xs := y.1) (κ := (fun d xs => some (xs, d.2.1))) (sound_of hΦ) okP (callI_sound (sound_of hΦ) okP 1 2000) (f := Tryd.f11) rfl hs ha ?_ (fun _ _ h => by obtain rfl := Option.some.inj h; exact ⟨rfl, rfl⟩) rfl site
    exact (f11.b_eq L N (fun d xs => some (xs, d.2.1)) d.1).trans (Eq.trans (b := f11.b L N (fun a0 a1 => some (a0, a1)) d.1) (by kernel_rfl) hy)
  · intro y hy
    cases hy
def Φ11 (L N : Nat) : Tells := (addT (Φ32_1 L N) 11 (f11.ent L N))
theorem Φ11_ok (L N : Nat) : TellsOk Tryd.prog (Φ11 L N) := addT_ok (Φ32_1_ok L N) (f11.ok L N (Φ32_1_ok L N))
def f67.s0' {R : Type} (L N : Nat) (k0_e0 : Int → Option R) (k0_r : Int → Int → Option R) (rec0 : LM → Int → Int → Option R) (s0 : LM) (s1 : Int) (s2 : Int) : Option R :=
  bif (decide (s2 < (s0.length : Int))) then
    bif (decide (0 ≤ s2) && decide (s2 < (s0.length : Int))) then
      bif ((listAt s0 (Ty.dflt (.st 0)) s2.toNat).act != s1) then
        k0_r s1 (-1 : Int)
      else bif (decide (0 ≤ s2) && decide (s2 < (s0.length : Int))) then
        bif ((listAt s0 (Ty.dflt (.st 0)) s2.toNat).to != (wi (s1 + (1 : Int)))) then
          k0_r (wi (s1 + (1 : Int))) (-1 : Int)
        else rec0 s0 (wi ((wi (s1 + (1 : Int))) + (1 : Int))) (wi (s2 + (1 : Int)))
      else none
    else none
  else k0_e0 s1
def f67.s0 {R : Type} (L N : Nat) (k0_e0 : Int → Option R) (k0_r : Int → Int → Option R) (rec0 : LM → Int → Int → Option R) (s0 : LM) (s1 : Int) (s2 : Int) : Option R :=
  f67.s0' L N k0_e0 k0_r rec0 s0 s1 s2
def f67.l0 {R : Type} (L N : Nat) (k0_e0 : Int → Option R) (k0_r : Int → Int → Option R) : Nat → LM → Int → Int → Option R
  | 0, _, _, _ => none
  | n + 1, s0, s1, s2 => f67.s0 L N k0_e0 k0_r (f67.l0 L N k0_e0 k0_r n) s0 s1 s2
def f67.T0 (s0 : LM) (s1 : Int) (s2 : Int) : T := mkT 31 [(0, (.tv (.sl (.st 0)) s0)), (1, (.tv i64 s1)), (5, (.tv i64 s2))]
def f67.H0 (s0 : LM) (s1 : Int) (s2 : Int) : H := []
def f67.T0_e0 (z3 : Int) : T := mkT 31 [(1, (.tv i64 z3))]
def f67.H0_e0 (z3 : Int) : H := []
def f67.T0_r (z4 : Int) (z5 : Int) : T := mkT 31 [(1, (.tv i64 z4)), (4, (.tv i64 z5))]
def f67.H0_r (z4 : Int) (z5 : Int) : H := []
def f67.p0_e0' {R : Type} (L N : Nat) (k : Int → Option R) (z3 : Int) : Option R :=
  k z3
def f67.p0_e0 {R : Type} (L N : Nat) (k : Int → Option R) (z3 : Int) : Option R :=
  f67.p0_e0' L N k z3
def f67.p0_r' {R : Type} (L N : Nat) (k : Int → Option R) (z4 : Int) (z5 : Int) : Option R :=
  k z5
def f67.p0_r {R : Type} (L N : Nat) (k : Int → Option R) (z4 : Int) (z5 : Int) : Option R :=
  f67.p0_r' L N k z4 z5
def f67.b' {R : Type} (L N : Nat) (k : Int → Option R) (w0 : LM → Int → Int → Option R) (x0 : LM) (x1 : Int) : Option R :=
  w0 x0 x1 (0 : Int)
def f67.b {R : Type} (L N : Nat) (k : Int → Option R) (x0 : LM) (x1 : Int) : Option R :=
  f67.b' L N k (fun s0 s1 s2 => f67.l0 L N (fun z3 => f67.p0_e0 L N k z3) (fun z4 z5 => f67.p0_r L N k z4 z5) L s0 s1 s2) x0 x1
def f67 (L N : Nat) (x0 : LM) (x1 : Int) : Option (Int) := f67.b L N some x0 x1
def f67.ent (L N : Nat) := entRo [(.sl (.st 0)), i64] (.one i64) fun d => f67 L N d.1 d.2.1
noncomputable def E67 (L N : Nat) : Env := { P := Tryd.prog, ty := tyOf, Φ := (Φ11 L N), inl := inlT, live := lives, liveX := livesX, L := L, dp := none, prom := promT, heal := healT, ren := renT }
noncomputable def f67.c0 : Code := loopAt 0 (codeOf Tryd.f67)
def f67.X0_e0 {R : Type} (κ : KX R) := fun z3 => κ (.exit 0) (f67.T0_e0 z3) (f67.H0_e0 z3)
def f67.X0_r {R : Type} (κ : KX R) := fun z4 z5 => κ .ret (f67.T0_r z4 z5) (f67.H0_r z4 z5)
def f67.R0 {R : Type} (rec : KT R) := fun s0 s1 s2 => rec (f67.T0 s0 s1 s2) (f67.H0 s0 s1 s2)
theorem f67.s0_eq {R : Type} (L N : Nat) (κ : KX R) (rec : KT R) (s0 : LM) (s1 : Int) (s2 : Int) :
    evRd (E67 L N) (evCallI (E67 L N) 1 2000) 1000 67 31 0 f67.c0 κ rec (f67.T0 s0 s1 s2) (f67.H0 s0 s1 s2)
    = f67.s0 L N (f67.X0_e0 κ) (f67.X0_r κ) (f67.R0 rec) s0 s1 s2 := by kernel_rfl
theorem f67.l0_eq {R : Type} (L N : Nat) (κ : KX R) : ∀ (n : Nat) (s0 : LM) (s1 : Int) (s2 : Int),
    evLp (E67 L N) (evCallI (E67 L N) 1 2000) 1000 67 31 0 f67.c0 κ n (f67.T0 s0 s1 s2) (f67.H0 s0 s1 s2)
    = f67.l0 L N (f67.X0_e0 κ) (f67.X0_r κ) n s0 s1 s2 := by
  intro n
  induction n with
  | zero => intros; rfl
  | succ n ih =>
    intro s0 s1 s2
    rw [evLp_succ, f67.s0_eq]
    delta f67.R0
    simp only [ih]
    rfl
theorem f67.p0_e0_eq {R : Type} (L N : Nat) (κ : AV → Option R) (z3 : Int) :
    (contAt (E67 L N) (evCallI (E67 L N) 1 2000) 1000 67 31 0 (codeOf Tryd.f67) (finK (E67 L N) 1000 Tryd.f67 (finC (.one i64) κ))) (.exit 0) (f67.T0_e0 z3) (f67.H0_e0 z3)
    = f67.p0_e0 L N (fun a0 => κ (.tv i64 a0)) z3 := by kernel_rfl
theorem f67.p0_r_eq {R : Type} (L N : Nat) (κ : AV → Option R) (z4 : Int) (z5 : Int) :
    (contAt (E67 L N) (evCallI (E67 L N) 1 2000) 1000 67 31 0 (codeOf Tryd.f67) (finK (E67 L N) 1000 Tryd.f67 (finC (.one i64) κ))) .ret (f67.T0_r z4 z5) (f67.H0_r z4 z5)
    = f67.p0_r L N (fun a0 => κ (.tv i64 a0)) z4 z5 := by kernel_rfl
theorem f67.b_eq {R : Type} (L N : Nat) (κ : AV → Option R) (x0 : LM) (x1 : Int) :
    evBody (E67 L N) (evCallI (E67 L N) 1 2000) 1000 67 Tryd.f67 [(.tv (.sl (.st 0)) x0), (.tv i64 x1)] [] [] (finC (.one i64) κ)
    = f67.b L N (fun a0 => κ (.tv i64 a0)) x0 x1 := by
  refine Eq.trans (b := f67.b' L N (fun a0 => κ (.tv i64 a0)) (fun s0 s1 s2 => evLp (E67 L N) (evCallI (E67 L N) 1 2000) 1000 67 31 0 f67.c0 (contAt (E67 L N) (evCallI (E67 L N) 1 2000) 1000 67 31 0 (codeOf Tryd.f67) (finK (E67 L N) 1000 Tryd.f67 (finC (.one i64) κ))) L (f67.T0 s0 s1 s2) (f67.H0 s0 s1 s2)) x0 x1) (by kernel_rfl) ?_
  unfold f67.b
  simp only [f67.l0_eq]
  delta f67.X0_e0 f67.X0_r
  simp only [f67.p0_e0_eq, f67.p0_r_eq]
theorem f67.ok (L N : Nat) (hΦ : TellsOk Tryd.prog ((Φ11 L N))) : EntOk Tryd.prog 67 (f67.ent L N) := entRo_ok (E := (E67 L N)) (dep := 1000) (f := Tryd.f67) (sound_of hΦ) okP (callI_sound (sound_of hΦ) okP 1 2000) rfl rfl fun d _ hy => (f67.b_eq L N (unR (.one i64)) d.1 d.2.1).trans (Eq.trans (b := f67.b L N some d.1 d.2.1) (by kernel_rfl) hy)
def Φ67 (L N : Nat) : Tells := (addT (Φ11 L N) 67 (f67.ent L N))
theorem Φ67_ok (L N : Nat) : TellsOk Tryd.prog (Φ67 L N) := addT_ok (Φ11_ok L N) (f67.ok L N (Φ11_ok L N))
def f38.s0' {R : Type} (L N : Nat) (k0_e0 : Int → Option R) (k0_r : Int → Int → Option R) (rec0 : LLM → Int → Int → Option R) (s0 : LLM) (s1 : Int) (s2 : Int) : Option R :=
  bif (decide (s2 < (s0.length : Int))) then
    bif (decide (0 ≤ s2) && decide (s2 < (s0.length : Int))) then
      (f67 L N (listAt s0 [] s2.toNat) s1).bind fun y4 =>
      bif (decide (y4 < (0 : Int))) then
        k0_r y4 (-1 : Int)
      else rec0 s0 y4 (wi (s2 + (1 : Int)))
    else none
  else k0_e0 s1
def f38.s0 {R : Type} (L N : Nat) (k0_e0 : Int → Option R) (k0_r : Int → Int → Option R) (rec0 : LLM → Int → Int → Option R) (s0 : LLM) (s1 : Int) (s2 : Int) : Option R :=
  f38.s0' L N k0_e0 k0_r rec0 s0 s1 s2
def f38.l0 {R : Type} (L N : Nat) (k0_e0 : Int → Option R) (k0_r : Int → Int → Option R) : Nat → LLM → Int → Int → Option R
  | 0, _, _, _ => none
  | n + 1, s0, s1, s2 => f38.s0 L N k0_e0 k0_r (f38.l0 L N k0_e0 k0_r n) s0 s1 s2
def f38.T0 (s0 : LLM) (s1 : Int) (s2 : Int) : T := mkT 21 [(0, (.tv (.sl (.sl (.st 0))) s0)), (1, (.tv i64 s1)), (5, (.tv i64 s2))]
def f38.H0 (s0 : LLM) (s1 : Int) (s2 : Int) : H := []
def f38.T0_e0 (z3 : Int) : T := mkT 21 [(1, (.tv i64 z3))]
def f38.H0_e0 (z3 : Int) : H := []
def f38.T0_r (z5 : Int) (z6 : Int) : T := mkT 21 [(1, (.tv i64 z5)), (4, (.tv i64 z6))]
def f38.H0_r (z5 : Int) (z6 : Int) : H := []
def f38.p0_e0' {R : Type} (L N : Nat) (k : Int → Option R) (z3 : Int) : Option R :=
  k z3
def f38.p0_e0 {R : Type} (L N : Nat) (k : Int → Option R) (z3 : Int) : Option R :=
  f38.p0_e0' L N k z3
def f38.p0_r' {R : Type} (L N : Nat) (k : Int → Option R) (z5 : Int) (z6 : Int) : Option R :=
  k z6
def f38.p0_r {R : Type} (L N : Nat) (k : Int → Option R) (z5 : Int) (z6 : Int) : Option R :=
  f38.p0_r' L N k z5 z6
def f38.b' {R : Type} (L N : Nat) (k : Int → Option R) (w0 : LLM → Int → Int → Option R) (x0 : LLM) (x1 : Int) : Option R :=
  w0 x0 x1 (0 : Int)
def f38.b {R : Type} (L N : Nat) (k : Int → Option R) (x0 : LLM) (x1 : Int) : Option R :=
  f38.b' L N k (fun s0 s1 s2 => f38.l0 L N (fun z3 => f38.p0_e0 L N k z3) (fun z5 z6 => f38.p0_r L N k z5 z6) L s0 s1 s2) x0 x1
def f38 (L N : Nat) (x0 : LLM) (x1 : Int) : Option (Int) := f38.b L N some x0 x1
def f38.ent (L N : Nat) := entRo [(.sl (.sl (.st 0))), i64] (.one i64) fun d => f38 L N d.1 d.2.1
noncomputable def E38 (L N : Nat) : Env := { P := Tryd.prog, ty := tyOf, Φ := (Φ67 L N), inl := inlT, live := lives, liveX := livesX, L := L, dp := none, prom := promT, heal := healT, ren := renT }
noncomputable def f38.c0 : Code := loopAt 0 (codeOf Tryd.f38)
def f38.X0_e0 {R : Type} (κ : KX R) := fun z3 => κ (.exit 0) (f38.T0_e0 z3) (f38.H0_e0 z3)
def f38.X0_r {R : Type} (κ : KX R) := fun z5 z6 => κ .ret (f38.T0_r z5 z6) (f38.H0_r z5 z6)
def f38.R0 {R : Type} (rec : KT R) := fun s0 s1 s2 => rec (f38.T0 s0 s1 s2) (f38.H0 s0 s1 s2)
theorem f38.s0_eq {R : Type} (L N : Nat) (κ : KX R) (rec : KT R) (s0 : LLM) (s1 : Int) (s2 : Int) :
    evRd (E38 L N) (evCallI (E38 L N) 1 2000) 1000 38 21 0 f38.c0 κ rec (f38.T0 s0 s1 s2) (f38.H0 s0 s1 s2)
    = f38.s0 L N (f38.X0_e0 κ) (f38.X0_r κ) (f38.R0 rec) s0 s1 s2 := by kernel_rfl
theorem f38.l0_eq {R : Type} (L N : Nat) (κ : KX R) : ∀ (n : Nat) (s0 : LLM) (s1 : Int) (s2 : Int),
    evLp (E38 L N) (evCallI (E38 L N) 1 2000) 1000 38 21 0 f38.c0 κ n (f38.T0 s0 s1 s2) (f38.H0 s0 s1 s2)
    = f38.l0 L N (f38.X0_e0 κ) (f38.X0_r κ) n s0 s1 s2 := by
  intro n
  induction n with
  | zero => intros; rfl
  | succ n ih =>
    intro s0 s1 s2
    rw [evLp_succ, f38.s0_eq]
    delta f38.R0
    simp only [ih]
    rfl
theorem f38.p0_e0_eq {R : Type} (L N : Nat) (κ : AV → Option R) (z3 : Int) :
    (contAt (E38 L N) (evCallI (E38 L N) 1 2000) 1000 38 21 0 (codeOf Tryd.f38) (finK (E38 L N) 1000 Tryd.f38 (finC (.one i64) κ))) (.exit 0) (f38.T0_e0 z3) (f38.H0_e0 z3)
    = f38.p0_e0 L N (fun a0 => κ (.tv i64 a0)) z3 := by kernel_rfl
theorem f38.p0_r_eq {R : Type} (L N : Nat) (κ : AV → Option R) (z5 : Int) (z6 : Int) :
    (contAt (E38 L N) (evCallI (E38 L N) 1 2000) 1000 38 21 0 (codeOf Tryd.f38) (finK (E38 L N) 1000 Tryd.f38 (finC (.one i64) κ))) .ret (f38.T0_r z5 z6) (f38.H0_r z5 z6)
    = f38.p0_r L N (fun a0 => κ (.tv i64 a0)) z5 z6 := by kernel_rfl
end Go.Proofs.YtffkhhblppfbfaaDoor.Ev
