/- The seat's functions as plain functions: made by program (wip/gen/gen.py). -/
import Derived.Test.YtdfjdbpklbehoaaEvYa
import Derived.Test.YtdfjdbpklbehoaaShelf
namespace Go.Proofs.Ytdfjdbpklbehoaa.Ev
open Go
set_option linter.unusedVariables false
set_option maxRecDepth 20000
def tyTab : List (Nat × Ty) := [(2, i64), (3, i64), (4, .bool), (5, (.int .u8)), (6, (.int .u8)), (9, .str), (10, .str), (11, .str), (12, (.int .u64)), (21, (.int .i32)), (22, (.sl (.sl (.st 0)))), (23, (.st 2)), (24, (.st 2)), (25, (.sl (.st 1))), (26, (.st 1)), (27, (.st 1)), (30, (.sl i64)), (32, (.sl (.sl (.st 0)))), (33, (.st 2)), (34, (.st 2)), (36, (.sl (.st 1))), (37, (.st 1)), (38, (.st 1)), (47, (.sl (.int .u8))), (51, (.sl (.st 0))), (52, (.st 0)), (53, (.st 0)), (71, (.sl .bool)), (88, (.sl (.sl i64))), (98, (.sl (.st 0))), (103, (.sl (.sl .bool))), (108, (.sl (.st 1))), (109, (.st 1)), (110, (.st 1)), (129, (.st 0)), (142, (.sl .str)), (143, (.sl (.st 3))), (146, (.st 3)), (151, (.int .u64)), (159, i64), (168, (.int .u32)), (170, (.int .u64)), (177, (.int .u64)), (196, (.int .u8)), (197, (.int .u8)), (200, (.int .i32)), (201, (.int .i32))]
def tyOf (t : Nat) : Option Ty := tyFind t tyTab
def lives (f i : Nat) : List Nat × List Nat :=
  bif Nat.beq f 31 && Nat.beq i 0 then ([0, 1, 5], []) else
  bif Nat.beq f 32 && Nat.beq i 0 then ([1, 18, 19, 20], [1]) else
  bif Nat.beq f 32 && Nat.beq i 2 then ([1, 4, 18, 19, 20, 24, 25, 26], [1]) else
  bif Nat.beq f 45 && Nat.beq i 0 then ([0, 1, 5], []) else
  bif Nat.beq f 45 && Nat.beq i 2 then ([0, 1, 5, 6], []) else
  bif Nat.beq f 58 && Nat.beq i 0 then ([1, 3], [1]) else
  bif Nat.beq f 58 && Nat.beq i 2 then ([1, 3, 4], [1]) else
  bif Nat.beq f 81 && Nat.beq i 0 then ([3, 5], [3, 10]) else
  bif Nat.beq f 83 && Nat.beq i 0 then ([1, 2, 3, 7, 8, 9, 10], [3, 13, 14, 18]) else
  bif Nat.beq f 83 && Nat.beq i 2 then ([1, 2, 3, 7, 8, 9, 10, 32, 33, 34], [3, 13, 14, 18]) else
  bif Nat.beq f 87 && Nat.beq i 0 then ([1, 2, 4, 5, 6, 7], [2, 4, 6, 900]) else
  bif Nat.beq f 87 && Nat.beq i 2 then ([1, 2, 4, 5, 6, 7, 8, 9], [2, 4, 6, 23, 900]) else
  bif Nat.beq f 87 && Nat.beq i 4 then ([1, 2, 4, 5, 6, 7, 8, 9, 10], [2, 4, 6, 23, 900]) else
  bif Nat.beq f 87 && Nat.beq i 6 then ([1, 2, 4, 5, 6, 7, 8, 9, 10, 11, 12], [2, 4, 6, 11, 23, 900]) else
  bif Nat.beq f 88 && Nat.beq i 0 then ([1, 2, 3, 4, 18, 19], [1, 2, 4, 900, 901]) else
  bif Nat.beq f 88 && Nat.beq i 2 then ([1, 2, 3, 4, 6, 18, 19, 26, 27, 28], [1, 2, 4, 22, 900, 901]) else
  bif Nat.beq f 88 && Nat.beq i 4 then ([1, 2, 3, 4, 6, 18, 19, 26, 27, 28, 41, 42, 43], [1, 2, 4, 22, 900, 901]) else
  bif Nat.beq f 88 && Nat.beq i 6 then ([1, 2, 3, 4, 6, 10, 18, 19, 26, 27, 28, 41, 42, 43, 54, 55, 56], [1, 2, 4, 10, 22, 900, 901]) else
  bif Nat.beq f 105 && Nat.beq i 0 then ([0, 4, 5, 6, 7, 8], [4, 5, 900, 901]) else
  bif Nat.beq f 105 && Nat.beq i 2 then ([0, 4, 5, 6, 7, 8, 9, 10], [4, 5, 25, 900, 901]) else
  bif Nat.beq f 112 && Nat.beq i 0 then ([2, 5, 6, 17, 18, 19], [2, 15, 16]) else
  bif Nat.beq f 112 && Nat.beq i 2 then ([2, 5, 6, 9], [2, 15, 16]) else
  bif Nat.beq f 112 && Nat.beq i 4 then ([2, 5, 6, 9, 49, 50, 51], [2, 15, 16]) else
  bif Nat.beq f 116 && Nat.beq i 0 then ([0, 1, 5], []) else
  bif Nat.beq f 117 && Nat.beq i 0 then ([0, 1, 5, 6, 16, 17], [11, 14]) else
  bif Nat.beq f 117 && Nat.beq i 2 then ([0, 1, 5, 6, 7, 8, 16, 17], [11, 14]) else
  bif Nat.beq f 119 && Nat.beq i 0 then ([0, 1, 12, 13], []) else
  bif Nat.beq f 122 && Nat.beq i 0 then ([1, 3, 4], [1, 10]) else
  bif Nat.beq f 122 && Nat.beq i 2 then ([1, 3, 4, 5, 6, 7], [1, 10, 21, 26]) else
  bif Nat.beq f 122 && Nat.beq i 4 then ([1, 3, 4, 5, 6, 7, 8, 9], [1, 10, 21, 26]) else
  bif Nat.beq f 123 && Nat.beq i 0 then ([0, 3, 4], [7]) else
  bif Nat.beq f 123 && Nat.beq i 2 then ([0, 3, 4, 5], [7]) else
  bif Nat.beq f 123 && Nat.beq i 4 then ([0, 3, 4, 5, 6], [7]) else
  bif Nat.beq f 124 && Nat.beq i 0 then ([1, 3, 8, 9], [1, 5]) else
  bif Nat.beq f 127 && Nat.beq i 0 then ([1, 3], [1, 9]) else
  bif Nat.beq f 130 && Nat.beq i 0 then ([0, 3, 4, 5], [8]) else
  bif Nat.beq f 133 && Nat.beq i 0 then ([1, 4, 6, 7, 8, 9], [4, 8, 16, 19, 900]) else
  bif Nat.beq f 133 && Nat.beq i 2 then ([1, 4, 6, 7, 8, 9, 10, 11, 12], [4, 8, 16, 19, 32, 33, 900]) else
  bif Nat.beq f 133 && Nat.beq i 4 then ([1, 4, 6, 7, 8, 9, 10, 11, 12, 13, 14], [4, 8, 16, 19, 32, 33, 900]) else
  bif Nat.beq f 142 && Nat.beq i 0 then ([0, 1, 12, 13], []) else
  bif Nat.beq f 145 && Nat.beq i 0 then ([0, 6, 14, 15, 16], [9]) else
  bif Nat.beq f 146 && Nat.beq i 0 then ([1, 2, 5, 6], [2, 9]) else
  bif Nat.beq f 146 && Nat.beq i 2 then ([1, 2, 5, 6, 7, 8], [2, 9]) else
  bif Nat.beq f 148 && Nat.beq i 0 then ([0, 3], []) else
  bif Nat.beq f 150 && Nat.beq i 1 then ([1, 3, 4], [1]) else
  bif Nat.beq f 151 && Nat.beq i 1 then ([2, 5, 6, 7, 8], [2, 14, 51, 57]) else
  bif Nat.beq f 151 && Nat.beq i 3 then ([2, 5, 6, 7, 9], [2, 14, 51, 57]) else
  bif Nat.beq f 151 && Nat.beq i 5 then ([5, 6, 7, 10], [14, 51, 57]) else
  bif Nat.beq f 151 && Nat.beq i 7 then ([5, 6, 7, 10, 11], [14, 51, 57]) else
  bif Nat.beq f 151 && Nat.beq i 9 then ([2, 5, 12, 13], [2, 14, 165]) else
  bif Nat.beq f 152 && Nat.beq i 1 then ([1, 3, 5, 6], [1]) else
  bif Nat.beq f 157 && Nat.beq i 0 then ([1, 2, 3, 4, 9], [4]) else
  bif Nat.beq f 158 && Nat.beq i 0 then ([1, 2, 5, 6], [2]) else
  bif Nat.beq f 183 && Nat.beq i 0 then ([1, 2, 3, 4, 5, 11], [5]) else
  ([], [])
def livesX (f i : Nat) : List Nat × List Nat :=
  bif Nat.beq f 31 && Nat.beq i 0 then ([4], []) else
  bif Nat.beq f 32 && Nat.beq i 0 then ([2], []) else
  bif Nat.beq f 32 && Nat.beq i 2 then ([1, 2, 18, 19, 20], [1]) else
  bif Nat.beq f 45 && Nat.beq i 0 then ([4], []) else
  bif Nat.beq f 45 && Nat.beq i 2 then ([0, 1, 4, 5], []) else
  bif Nat.beq f 58 && Nat.beq i 0 then ([2], []) else
  bif Nat.beq f 58 && Nat.beq i 2 then ([1, 2, 3], [1]) else
  bif Nat.beq f 81 && Nat.beq i 0 then ([4], [10]) else
  bif Nat.beq f 83 && Nat.beq i 0 then ([7], [13]) else
  bif Nat.beq f 83 && Nat.beq i 2 then ([1, 2, 3, 7, 8, 9, 10], [3, 13, 14, 18]) else
  bif Nat.beq f 87 && Nat.beq i 0 then ([4, 6], [4, 6, 900]) else
  bif Nat.beq f 87 && Nat.beq i 2 then ([1, 2, 4, 5, 6, 7, 8], [2, 4, 6, 23, 900]) else
  bif Nat.beq f 87 && Nat.beq i 4 then ([1, 2, 4, 5, 6, 7, 8, 9], [2, 4, 6, 23, 900]) else
  bif Nat.beq f 87 && Nat.beq i 6 then ([1, 2, 4, 5, 6, 7, 8, 9, 10], [2, 4, 6, 23, 900]) else
  bif Nat.beq f 88 && Nat.beq i 0 then ([2, 4], [2, 4, 900, 901]) else
  bif Nat.beq f 88 && Nat.beq i 2 then ([1, 2, 3, 4, 6, 18, 19], [1, 2, 4, 22, 900, 901]) else
  bif Nat.beq f 88 && Nat.beq i 4 then ([1, 2, 3, 4, 6, 18, 19, 26, 27, 28], [1, 2, 4, 22, 900, 901]) else
  bif Nat.beq f 88 && Nat.beq i 6 then ([1, 2, 3, 4, 6, 18, 19, 26, 27, 28, 41, 42, 43], [1, 2, 4, 22, 900, 901]) else
  bif Nat.beq f 105 && Nat.beq i 0 then ([0, 4, 5, 6], [4, 5, 900, 901]) else
  bif Nat.beq f 105 && Nat.beq i 2 then ([0, 4, 5, 6, 7, 8, 9], [4, 5, 25, 900, 901]) else
  bif Nat.beq f 112 && Nat.beq i 0 then ([2, 5, 6], [2, 15, 16]) else
  bif Nat.beq f 112 && Nat.beq i 2 then ([6], [16]) else
  bif Nat.beq f 112 && Nat.beq i 4 then ([2, 5, 6, 9], [2, 15, 16]) else
  bif Nat.beq f 116 && Nat.beq i 0 then ([4], []) else
  bif Nat.beq f 117 && Nat.beq i 0 then ([5], [11]) else
  bif Nat.beq f 117 && Nat.beq i 2 then ([0, 1, 5, 6, 16, 17], [11, 14]) else
  bif Nat.beq f 119 && Nat.beq i 0 then ([4], []) else
  bif Nat.beq f 122 && Nat.beq i 0 then ([3], [10]) else
  bif Nat.beq f 122 && Nat.beq i 2 then ([1, 3, 4, 5], [1, 10, 21]) else
  bif Nat.beq f 122 && Nat.beq i 4 then ([1, 3, 4, 5, 6, 7], [1, 10, 21, 26]) else
  bif Nat.beq f 123 && Nat.beq i 0 then ([3], [7]) else
  bif Nat.beq f 123 && Nat.beq i 2 then ([0, 3, 4, 5], [7]) else
  bif Nat.beq f 123 && Nat.beq i 4 then ([0, 3, 4, 5], [7]) else
  bif Nat.beq f 124 && Nat.beq i 0 then ([3], [5]) else
  bif Nat.beq f 127 && Nat.beq i 0 then ([2], [9]) else
  bif Nat.beq f 130 && Nat.beq i 0 then ([0, 3, 4], [8]) else
  bif Nat.beq f 133 && Nat.beq i 0 then ([4, 5, 8], [4, 8, 900]) else
  bif Nat.beq f 133 && Nat.beq i 2 then ([1, 4, 5, 6, 7, 8, 9, 11], [4, 8, 16, 19, 33, 900]) else
  bif Nat.beq f 133 && Nat.beq i 4 then ([1, 4, 6, 7, 8, 9, 10, 11, 12, 13, 14], [4, 8, 16, 19, 32, 33, 900]) else
  bif Nat.beq f 142 && Nat.beq i 0 then ([4], []) else
  bif Nat.beq f 145 && Nat.beq i 0 then ([6], [9]) else
  bif Nat.beq f 146 && Nat.beq i 0 then ([5], [9]) else
  bif Nat.beq f 146 && Nat.beq i 2 then ([1, 2, 5, 6, 7], [2, 9]) else
  bif Nat.beq f 148 && Nat.beq i 0 then ([0, 2], []) else
  bif Nat.beq f 150 && Nat.beq i 1 then ([3], []) else
  bif Nat.beq f 151 && Nat.beq i 1 then ([2, 5, 6, 7], [2, 14, 51, 57]) else
  bif Nat.beq f 151 && Nat.beq i 3 then ([5, 6, 7], [14, 51, 57]) else
  bif Nat.beq f 151 && Nat.beq i 5 then ([5], [14]) else
  bif Nat.beq f 151 && Nat.beq i 7 then ([5, 6, 7, 10], [14, 51, 57]) else
  bif Nat.beq f 151 && Nat.beq i 9 then ([5], [14]) else
  bif Nat.beq f 152 && Nat.beq i 1 then ([2, 5], []) else
  bif Nat.beq f 157 && Nat.beq i 0 then ([8], []) else
  bif Nat.beq f 158 && Nat.beq i 0 then ([5], []) else
  bif Nat.beq f 183 && Nat.beq i 0 then ([10], []) else
  ([], [])
def promT (f i : Nat) : List (Nat × Nat × Nat × Option Nat × Nat × Ty) :=
  bif Nat.beq f 87 && Nat.beq i 0 then [(6, 0, 900, none, 51, (.sl (.st 0)))] else
  bif Nat.beq f 88 && Nat.beq i 0 then [(2, 0, 900, (some 0), 0, (.sl (.st 0))), (4, 0, 901, (some 0), 0, (.sl (.st 0)))] else
  bif Nat.beq f 105 && Nat.beq i 0 then [(4, 0, 900, (some 0), 0, (.sl (.st 0))), (5, 0, 901, (some 0), 0, (.sl (.st 0)))] else
  bif Nat.beq f 133 && Nat.beq i 0 then [(8, 0, 900, none, 51, (.sl (.st 0)))] else
  []
def healT (f i : Nat) : List Nat :=
  []
def renT (f i : Nat) : List (Nat × Nat) :=
  []
def inlT (f : Nat) : Bool := memN f [24, 25]
theorem okP : OkP Try.prog := OkP.mk' (by kernel_rfl) (by kernel_rfl)
def Φx (L N : Nat) : Tells := addT (addT (addT noTells 141 sortEnt) 120 tidyEnt) 84 (cloneEnt 3)
theorem Φx_ok (L N : Nat) : TellsOk Try.prog (Φx L N) := addT_ok (addT_ok (addT_ok (no_ok _) (sort_ok ⟨Try.f141, rfl, by kernel_rfl, by kernel_rfl⟩ sortC sortNone)) (tidy_ok ⟨Try.f120, rfl, by kernel_rfl, by kernel_rfl⟩ tidyC tidyNone)) (clone_ok ⟨Try.f84, rfl, by kernel_rfl, by kernel_rfl⟩ cloneC cloneZero cloneNil)
def f31.s0' {R : Type} (L N : Nat) (k0_e0 : Option R) (k0_r : Bool → Option R) (rec0 : LI → LI → Int → Option R) (s0 : LI) (s1 : LI) (s2 : Int) : Option R :=
  bif (decide (s2 < (s0.length : Int))) then
    bif (decide (0 ≤ s2) && decide (s2 < (s0.length : Int))) then
      bif (decide (0 ≤ s2) && decide (s2 < (s1.length : Int))) then
        bif ((listAt s0 (0 : Int) s2.toNat) != (listAt s1 (0 : Int) s2.toNat)) then
          k0_r false
        else rec0 s0 s1 (wi (s2 + (1 : Int)))
      else none
    else none
  else k0_e0
def f31.s0 {R : Type} (L N : Nat) (k0_e0 : Option R) (k0_r : Bool → Option R) (rec0 : LI → LI → Int → Option R) (s0 : LI) (s1 : LI) (s2 : Int) : Option R :=
  f31.s0' L N k0_e0 k0_r rec0 s0 s1 s2
def f31.l0 {R : Type} (L N : Nat) (k0_e0 : Option R) (k0_r : Bool → Option R) : Nat → LI → LI → Int → Option R
  | 0, _, _, _ => none
  | n + 1, s0, s1, s2 => f31.s0 L N k0_e0 k0_r (f31.l0 L N k0_e0 k0_r n) s0 s1 s2
def f31.T0 (s0 : LI) (s1 : LI) (s2 : Int) : T := mkT 26 [(0, (.tv (.sl i64) s0)), (1, (.tv (.sl i64) s1)), (5, (.tv i64 s2))]
def f31.H0 (s0 : LI) (s1 : LI) (s2 : Int) : H := []
def f31.T0_e0 : T := mkT 26 []
def f31.H0_e0 : H := []
def f31.T0_r (z3 : Bool) : T := mkT 26 [(4, (.tv .bool z3))]
def f31.H0_r (z3 : Bool) : H := []
def f31.p0_e0' {R : Type} (L N : Nat) (k : Bool → Option R) : Option R :=
  k true
def f31.p0_e0 {R : Type} (L N : Nat) (k : Bool → Option R) : Option R :=
  f31.p0_e0' L N k
def f31.p0_r' {R : Type} (L N : Nat) (k : Bool → Option R) (z3 : Bool) : Option R :=
  k z3
def f31.p0_r {R : Type} (L N : Nat) (k : Bool → Option R) (z3 : Bool) : Option R :=
  f31.p0_r' L N k z3
def f31.b' {R : Type} (L N : Nat) (k : Bool → Option R) (w0 : LI → LI → Int → Option R) (x0 : LI) (x1 : LI) : Option R :=
  bif ((x0.length : Int) != (x1.length : Int)) then
    k false
  else w0 x0 x1 (0 : Int)
def f31.b {R : Type} (L N : Nat) (k : Bool → Option R) (x0 : LI) (x1 : LI) : Option R :=
  f31.b' L N k (fun s0 s1 s2 => f31.l0 L N (f31.p0_e0 L N k) (fun z3 => f31.p0_r L N k z3) L s0 s1 s2) x0 x1
def f31 (L N : Nat) (x0 : LI) (x1 : LI) : Option (Bool) := f31.b L N some x0 x1
def f31.ent (L N : Nat) := entRo [(.sl i64), (.sl i64)] (.one .bool) fun d => f31 L N d.1 d.2.1
noncomputable def E31 (L N : Nat) : Env := { P := Try.prog, ty := tyOf, Φ := (Φx L N), inl := inlT, live := lives, liveX := livesX, L := L, dp := none, prom := promT, heal := healT, ren := renT }
noncomputable def f31.c0 : Code := loopAt 0 (codeOf Try.f31)
def f31.X0_e0 {R : Type} (κ : KX R) := κ (.exit 0) f31.T0_e0 f31.H0_e0
def f31.X0_r {R : Type} (κ : KX R) := fun z3 => κ .ret (f31.T0_r z3) (f31.H0_r z3)
def f31.R0 {R : Type} (rec : KT R) := fun s0 s1 s2 => rec (f31.T0 s0 s1 s2) (f31.H0 s0 s1 s2)
theorem f31.s0_eq {R : Type} (L N : Nat) (κ : KX R) (rec : KT R) (s0 : LI) (s1 : LI) (s2 : Int) :
    evRd (E31 L N) (evCallI (E31 L N) 1 2000) 1000 31 26 0 f31.c0 κ rec (f31.T0 s0 s1 s2) (f31.H0 s0 s1 s2)
    = f31.s0 L N (f31.X0_e0 κ) (f31.X0_r κ) (f31.R0 rec) s0 s1 s2 := by kernel_rfl
theorem f31.l0_eq {R : Type} (L N : Nat) (κ : KX R) : ∀ (n : Nat) (s0 : LI) (s1 : LI) (s2 : Int),
    evLp (E31 L N) (evCallI (E31 L N) 1 2000) 1000 31 26 0 f31.c0 κ n (f31.T0 s0 s1 s2) (f31.H0 s0 s1 s2)
    = f31.l0 L N (f31.X0_e0 κ) (f31.X0_r κ) n s0 s1 s2 := by
  intro n
  induction n with
  | zero => intros; rfl
  | succ n ih =>
    intro s0 s1 s2
    rw [evLp_succ, f31.s0_eq]
    delta f31.R0
    simp only [ih]
    rfl
theorem f31.p0_e0_eq {R : Type} (L N : Nat) (κ : AV → Option R) :
    (contAt (E31 L N) (evCallI (E31 L N) 1 2000) 1000 31 26 0 (codeOf Try.f31) (finK (E31 L N) 1000 Try.f31 (finC (.one .bool) κ))) (.exit 0) f31.T0_e0 f31.H0_e0
    = f31.p0_e0 L N (fun a0 => κ (.tv .bool a0)) := by kernel_rfl
theorem f31.p0_r_eq {R : Type} (L N : Nat) (κ : AV → Option R) (z3 : Bool) :
    (contAt (E31 L N) (evCallI (E31 L N) 1 2000) 1000 31 26 0 (codeOf Try.f31) (finK (E31 L N) 1000 Try.f31 (finC (.one .bool) κ))) .ret (f31.T0_r z3) (f31.H0_r z3)
    = f31.p0_r L N (fun a0 => κ (.tv .bool a0)) z3 := by kernel_rfl
theorem f31.b_eq {R : Type} (L N : Nat) (κ : AV → Option R) (x0 : LI) (x1 : LI) :
    evBody (E31 L N) (evCallI (E31 L N) 1 2000) 1000 31 Try.f31 [(.tv (.sl i64) x0), (.tv (.sl i64) x1)] [] [] (finC (.one .bool) κ)
    = f31.b L N (fun a0 => κ (.tv .bool a0)) x0 x1 := by
  refine Eq.trans (b := f31.b' L N (fun a0 => κ (.tv .bool a0)) (fun s0 s1 s2 => evLp (E31 L N) (evCallI (E31 L N) 1 2000) 1000 31 26 0 f31.c0 (contAt (E31 L N) (evCallI (E31 L N) 1 2000) 1000 31 26 0 (codeOf Try.f31) (finK (E31 L N) 1000 Try.f31 (finC (.one .bool) κ))) L (f31.T0 s0 s1 s2) (f31.H0 s0 s1 s2)) x0 x1) (by kernel_rfl) ?_
  unfold f31.b
  simp only [f31.l0_eq]
  delta f31.X0_e0 f31.X0_r
  simp only [f31.p0_e0_eq, f31.p0_r_eq]
theorem f31.ok (L N : Nat) (hΦ : TellsOk Try.prog ((Φx L N))) : EntOk Try.prog 31 (f31.ent L N) := entRo_ok (E := (E31 L N)) (dep := 1000) (f := Try.f31) (sound_of hΦ) okP (callI_sound (sound_of hΦ) okP 1 2000) rfl rfl fun d _ hy => (f31.b_eq L N (unR (.one .bool)) d.1 d.2.1).trans (Eq.trans (b := f31.b L N some d.1 d.2.1) (by kernel_rfl) hy)
def Φ31 (L N : Nat) : Tells := (addT (Φx L N) 31 (f31.ent L N))
theorem Φ31_ok (L N : Nat) : TellsOk Try.prog (Φ31 L N) := addT_ok (Φx_ok L N) (f31.ok L N (Φx_ok L N))
def f72.b' {R : Type} (L N : Nat) (k : Bool → Option R) (x0 : Int) : Option R :=
  bif (decide (x0 ≥ (-4 : Int))) then
    k (decide (x0 ≤ (4 : Int)))
  else k false
def f72.b {R : Type} (L N : Nat) (k : Bool → Option R) (x0 : Int) : Option R :=
  f72.b' L N k x0
def f72 (L N : Nat) (x0 : Int) : Option (Bool) := f72.b L N some x0
def f72.ent (L N : Nat) := entRo [i64] (.one .bool) fun d => f72 L N d.1
noncomputable def E72 (L N : Nat) : Env := { P := Try.prog, ty := tyOf, Φ := (Φ31 L N), inl := inlT, live := lives, liveX := livesX, L := L, dp := none, prom := promT, heal := healT, ren := renT }
theorem f72.b_eq {R : Type} (L N : Nat) (κ : AV → Option R) (x0 : Int) :
    evBody (E72 L N) (evCallI (E72 L N) 1 2000) 1000 72 Try.f72 [(.tv i64 x0)] [] [] (finC (.one .bool) κ)
    = f72.b L N (fun a0 => κ (.tv .bool a0)) x0 := by kernel_rfl
theorem f72.ok (L N : Nat) (hΦ : TellsOk Try.prog ((Φ31 L N))) : EntOk Try.prog 72 (f72.ent L N) := entRo_ok (E := (E72 L N)) (dep := 1000) (f := Try.f72) (sound_of hΦ) okP (callI_sound (sound_of hΦ) okP 1 2000) rfl rfl fun d _ hy => (f72.b_eq L N (unR (.one .bool)) d.1).trans (Eq.trans (b := f72.b L N some d.1) (by kernel_rfl) hy)
def Φ72 (L N : Nat) : Tells := (addT (Φ31 L N) 72 (f72.ent L N))
theorem Φ72_ok (L N : Nat) : TellsOk Try.prog (Φ72 L N) := addT_ok (Φ31_ok L N) (f72.ok L N (Φ31_ok L N))
def f136.b' {R : Type} (L N : Nat) (k : Bool → Option R) (x0 : Int) : Option R :=
  k (x0 != x0)
def f136.b {R : Type} (L N : Nat) (k : Bool → Option R) (x0 : Int) : Option R :=
  f136.b' L N k x0
def f136 (L N : Nat) (x0 : Int) : Option (Bool) := f136.b L N some x0
def f136.ent (L N : Nat) := entRo [i64] (.one .bool) fun d => f136 L N d.1
noncomputable def E136 (L N : Nat) : Env := { P := Try.prog, ty := tyOf, Φ := (Φ72 L N), inl := inlT, live := lives, liveX := livesX, L := L, dp := none, prom := promT, heal := healT, ren := renT }
theorem f136.b_eq {R : Type} (L N : Nat) (κ : AV → Option R) (x0 : Int) :
    evBody (E136 L N) (evCallI (E136 L N) 1 2000) 1000 136 Try.f136 [(.tv i64 x0)] [] [] (finC (.one .bool) κ)
    = f136.b L N (fun a0 => κ (.tv .bool a0)) x0 := by kernel_rfl
theorem f136.ok (L N : Nat) (hΦ : TellsOk Try.prog ((Φ72 L N))) : EntOk Try.prog 136 (f136.ent L N) := entRo_ok (E := (E136 L N)) (dep := 1000) (f := Try.f136) (sound_of hΦ) okP (callI_sound (sound_of hΦ) okP 1 2000) rfl rfl fun d _ hy => (f136.b_eq L N (unR (.one .bool)) d.1).trans (Eq.trans (b := f136.b L N some d.1) (by kernel_rfl) hy)
def Φ136 (L N : Nat) : Tells := (addT (Φ72 L N) 136 (f136.ent L N))
theorem Φ136_ok (L N : Nat) : TellsOk Try.prog (Φ136 L N) := addT_ok (Φ72_ok L N) (f136.ok L N (Φ72_ok L N))
def f108.b' {R : Type} (L N : Nat) (k : Int → Option R) (x0 : Int) (x1 : Int) : Option R :=
  (f136 L N x0).bind fun y0 =>
  (f136 L N x1).bind fun y1 =>
  bif y0 then
    bif y1 then
      k (0 : Int)
    else k (-1 : Int)
  else bif y1 then
    k (1 : Int)
  else bif (decide (x0 < x1)) then
    k (-1 : Int)
  else bif (decide (x0 > x1)) then
    k (1 : Int)
  else k (0 : Int)
def f108.b {R : Type} (L N : Nat) (k : Int → Option R) (x0 : Int) (x1 : Int) : Option R :=
  f108.b' L N k x0 x1
def f108 (L N : Nat) (x0 : Int) (x1 : Int) : Option (Int) := f108.b L N some x0 x1
def f108.ent (L N : Nat) := entRo [i64, i64] (.one i64) fun d => f108 L N d.1 d.2.1
noncomputable def E108 (L N : Nat) : Env := { P := Try.prog, ty := tyOf, Φ := (Φ136 L N), inl := inlT, live := lives, liveX := livesX, L := L, dp := none, prom := promT, heal := healT, ren := renT }
theorem f108.b_eq {R : Type} (L N : Nat) (κ : AV → Option R) (x0 : Int) (x1 : Int) :
    evBody (E108 L N) (evCallI (E108 L N) 1 2000) 1000 108 Try.f108 [(.tv i64 x0), (.tv i64 x1)] [] [] (finC (.one i64) κ)
    = f108.b L N (fun a0 => κ (.tv i64 a0)) x0 x1 := by kernel_rfl
theorem f108.ok (L N : Nat) (hΦ : TellsOk Try.prog ((Φ136 L N))) : EntOk Try.prog 108 (f108.ent L N) := entRo_ok (E := (E108 L N)) (dep := 1000) (f := Try.f108) (sound_of hΦ) okP (callI_sound (sound_of hΦ) okP 1 2000) rfl rfl fun d _ hy => (f108.b_eq L N (unR (.one i64)) d.1 d.2.1).trans (Eq.trans (b := f108.b L N some d.1 d.2.1) (by kernel_rfl) hy)
def Φ108 (L N : Nat) : Tells := (addT (Φ136 L N) 108 (f108.ent L N))
theorem Φ108_ok (L N : Nat) : TellsOk Try.prog (Φ108 L N) := addT_ok (Φ136_ok L N) (f108.ok L N (Φ136_ok L N))
def f73.b' {R : Type} (L N : Nat) (k : Int → Option R) (x0 : Move) (x1 : Move) : Option R :=
  (f108 L N x0.act x1.act).bind fun y0 =>
  bif (y0 != (0 : Int)) then
    k y0
  else (f108 L N x0.to x1.to).bind fun y1 =>
  k y1
def f73.b {R : Type} (L N : Nat) (k : Int → Option R) (x0 : Move) (x1 : Move) : Option R :=
  f73.b' L N k x0 x1
def f73 (L N : Nat) (x0 : Move) (x1 : Move) : Option (Int) := f73.b L N some x0 x1
def f73.ent (L N : Nat) := entRo [(.st 0), (.st 0)] (.one i64) fun d => f73 L N d.1 d.2.1
noncomputable def E73 (L N : Nat) : Env := { P := Try.prog, ty := tyOf, Φ := (Φ108 L N), inl := inlT, live := lives, liveX := livesX, L := L, dp := none, prom := promT, heal := healT, ren := renT }
theorem f73.b_eq {R : Type} (L N : Nat) (κ : AV → Option R) (x0 : Move) (x1 : Move) :
    evBody (E73 L N) (evCallI (E73 L N) 1 2000) 1000 73 Try.f73 [(.tv (.st 0) x0), (.tv (.st 0) x1)] [] [] (finC (.one i64) κ)
    = f73.b L N (fun a0 => κ (.tv i64 a0)) x0 x1 := by kernel_rfl
theorem f73.ok (L N : Nat) (hΦ : TellsOk Try.prog ((Φ108 L N))) : EntOk Try.prog 73 (f73.ent L N) := entRo_ok (E := (E73 L N)) (dep := 1000) (f := Try.f73) (sound_of hΦ) okP (callI_sound (sound_of hΦ) okP 1 2000) rfl rfl fun d _ hy => (f73.b_eq L N (unR (.one i64)) d.1 d.2.1).trans (Eq.trans (b := f73.b L N some d.1 d.2.1) (by kernel_rfl) hy)
def Φ73 (L N : Nat) : Tells := (addT (Φ108 L N) 73 (f73.ent L N))
theorem Φ73_ok (L N : Nat) : TellsOk Try.prog (Φ73 L N) := addT_ok (Φ108_ok L N) (f73.ok L N (Φ108_ok L N))
def f32.s1' {R : Type} (L N : Nat) (k1_e2 : LLM → Int → Int → LLM → Option R) (k1_r : Bool → LLM → Int → Int → LLM → Option R) (rec1 : LM → LLM → Int → Int → LM → Int → Int → LLM → Option R) (s7 : LM) (s8 : LLM) (s9 : Int) (s10 : Int) (s11 : LM) (s12 : Int) (s13 : Int) (s14 : LLM) : Option R :=
  bif (decide (s13 < s12)) then
    bif (decide (0 ≤ s13) && decide (s13 < (s11.length : Int))) then
      (f72 L N ((listAt s11 (Ty.dflt (.st 0)) s13.toNat).act)).bind fun y19 =>
      bif (!y19) then
        k1_r false s8 s9 s10 s14
      else bif (decide ((listAt s11 (Ty.dflt (.st 0)) s13.toNat).to < (0 : Int))) then
        k1_r false s8 s9 s10 s14
      else bif (decide ((listAt s11 (Ty.dflt (.st 0)) s13.toNat).to ≥ (s14.length : Int))) then
        k1_r false s8 s9 s10 s14
      else bif (decide (s13 > (0 : Int))) then
        bif (decide (0 ≤ (wi (s13 - (1 : Int)))) && decide ((wi (s13 - (1 : Int))) < (s7.length : Int))) then
          (f73 L N (listAt s7 (Ty.dflt (.st 0)) (wi (s13 - (1 : Int))).toNat) (Move.mk ((listAt s11 (Ty.dflt (.st 0)) s13.toNat).act) ((listAt s11 (Ty.dflt (.st 0)) s13.toNat).to))).bind fun y20 =>
          bif (decide (y20 ≥ (0 : Int))) then
            k1_r false s8 s9 s10 s14
          else rec1 s7 s8 s9 s10 s11 s12 (wi (s13 + (1 : Int))) s14
        else none
      else rec1 s7 s8 s9 s10 s11 s12 (wi (s13 + (1 : Int))) s14
    else none
  else k1_e2 s8 s9 s10 s14
def f32.s1 {R : Type} (L N : Nat) (k1_e2 : LLM → Int → Int → LLM → Option R) (k1_r : Bool → LLM → Int → Int → LLM → Option R) (rec1 : LM → LLM → Int → Int → LM → Int → Int → LLM → Option R) (s7 : LM) (s8 : LLM) (s9 : Int) (s10 : Int) (s11 : LM) (s12 : Int) (s13 : Int) (s14 : LLM) : Option R :=
  f32.s1' L N k1_e2 k1_r rec1 s7 s8 s9 s10 s11 s12 s13 s14
def f32.l1 {R : Type} (L N : Nat) (k1_e2 : LLM → Int → Int → LLM → Option R) (k1_r : Bool → LLM → Int → Int → LLM → Option R) : Nat → LM → LLM → Int → Int → LM → Int → Int → LLM → Option R
  | 0, _, _, _, _, _, _, _, _ => none
  | n + 1, s7, s8, s9, s10, s11, s12, s13, s14 => f32.s1 L N k1_e2 k1_r (f32.l1 L N k1_e2 k1_r n) s7 s8 s9 s10 s11 s12 s13 s14
def f32.T1 (s7 : LM) (s8 : LLM) (s9 : Int) (s10 : Int) (s11 : LM) (s12 : Int) (s13 : Int) (s14 : LLM) : T := mkT 64 [(1, (.ptr 1001 0)), (4, (.tv (.sl (.st 0)) s7)), (18, (.tv (.sl (.sl (.st 0))) s8)), (19, (.tv i64 s9)), (20, (.tv i64 s10)), (24, (.tv (.sl (.st 0)) s11)), (25, (.tv i64 s12)), (26, (.tv i64 s13))]
def f32.H1 (s7 : LM) (s8 : LLM) (s9 : Int) (s10 : Int) (s11 : LM) (s12 : Int) (s13 : Int) (s14 : LLM) : H := [(1001, (.box [(.tv (.sl (.sl (.st 0))) s14)]))]
def f32.T1_e2 (z15 : LLM) (z16 : Int) (z17 : Int) (z18 : LLM) : T := mkT 64 [(1, (.ptr 1001 0)), (18, (.tv (.sl (.sl (.st 0))) z15)), (19, (.tv i64 z16)), (20, (.tv i64 z17))]
def f32.H1_e2 (z15 : LLM) (z16 : Int) (z17 : Int) (z18 : LLM) : H := [(1001, (.box [(.tv (.sl (.sl (.st 0))) z18)]))]
def f32.T1_r (z30 : Bool) (z31 : LLM) (z32 : Int) (z33 : Int) (z34 : LLM) : T := mkT 64 [(1, (.ptr 1001 0)), (2, (.tv .bool z30)), (18, (.tv (.sl (.sl (.st 0))) z31)), (19, (.tv i64 z32)), (20, (.tv i64 z33))]
def f32.H1_r (z30 : Bool) (z31 : LLM) (z32 : Int) (z33 : Int) (z34 : LLM) : H := [(1001, (.box [(.tv (.sl (.sl (.st 0))) z34)]))]
def f32.p1_e2' {R : Type} (L N : Nat) (k0_e0 : Option R) (k0_r : Bool → Option R) (rec0 : LLM → Int → Int → LLM → Option R) (z15 : LLM) (z16 : Int) (z17 : Int) (z18 : LLM) : Option R :=
  rec0 z15 z16 (wi (z17 + (1 : Int))) z18
def f32.p1_e2 {R : Type} (L N : Nat) (k0_e0 : Option R) (k0_r : Bool → Option R) (rec0 : LLM → Int → Int → LLM → Option R) (z15 : LLM) (z16 : Int) (z17 : Int) (z18 : LLM) : Option R :=
  f32.p1_e2' L N k0_e0 k0_r rec0 z15 z16 z17 z18
def f32.p1_r' {R : Type} (L N : Nat) (k0_e0 : Option R) (k0_r : Bool → Option R) (rec0 : LLM → Int → Int → LLM → Option R) (z30 : Bool) (z31 : LLM) (z32 : Int) (z33 : Int) (z34 : LLM) : Option R :=
  k0_r z30
def f32.p1_r {R : Type} (L N : Nat) (k0_e0 : Option R) (k0_r : Bool → Option R) (rec0 : LLM → Int → Int → LLM → Option R) (z30 : Bool) (z31 : LLM) (z32 : Int) (z33 : Int) (z34 : LLM) : Option R :=
  f32.p1_r' L N k0_e0 k0_r rec0 z30 z31 z32 z33 z34
def f32.s0' {R : Type} (L N : Nat) (k0_e0 : Option R) (k0_r : Bool → Option R) (rec0 : LLM → Int → Int → LLM → Option R) (w1 : LM → LLM → Int → Int → LM → Int → Int → LLM → Option R) (s3 : LLM) (s4 : Int) (s5 : Int) (s6 : LLM) : Option R :=
  bif (decide (s5 < s4)) then
    bif (decide (0 ≤ s5) && decide (s5 < (s3.length : Int))) then
      w1 (listAt s3 [] s5.toNat) s3 s4 s5 (listAt s3 [] s5.toNat) ((listAt s3 [] s5.toNat).length : Int) (0 : Int) s6
    else none
  else k0_e0
def f32.s0 {R : Type} (L N : Nat) (k0_e0 : Option R) (k0_r : Bool → Option R) (rec0 : LLM → Int → Int → LLM → Option R) (s3 : LLM) (s4 : Int) (s5 : Int) (s6 : LLM) : Option R :=
  f32.s0' L N k0_e0 k0_r rec0 (fun s7 s8 s9 s10 s11 s12 s13 s14 => f32.l1 L N (fun z15 z16 z17 z18 => f32.p1_e2 L N k0_e0 k0_r rec0 z15 z16 z17 z18) (fun z30 z31 z32 z33 z34 => f32.p1_r L N k0_e0 k0_r rec0 z30 z31 z32 z33 z34) L s7 s8 s9 s10 s11 s12 s13 s14) s3 s4 s5 s6
def f32.l0 {R : Type} (L N : Nat) (k0_e0 : Option R) (k0_r : Bool → Option R) : Nat → LLM → Int → Int → LLM → Option R
  | 0, _, _, _, _ => none
  | n + 1, s3, s4, s5, s6 => f32.s0 L N k0_e0 k0_r (f32.l0 L N k0_e0 k0_r n) s3 s4 s5 s6
def f32.T0 (s3 : LLM) (s4 : Int) (s5 : Int) (s6 : LLM) : T := mkT 64 [(1, (.ptr 1001 0)), (18, (.tv (.sl (.sl (.st 0))) s3)), (19, (.tv i64 s4)), (20, (.tv i64 s5))]
def f32.H0 (s3 : LLM) (s4 : Int) (s5 : Int) (s6 : LLM) : H := [(1001, (.box [(.tv (.sl (.sl (.st 0))) s6)]))]
def f32.T0_e0 : T := mkT 64 []
def f32.H0_e0 : H := []
def f32.T0_r (z43 : Bool) : T := mkT 64 [(2, (.tv .bool z43))]
def f32.H0_r (z43 : Bool) : H := []
def f32.p0_e0' {R : Type} (L N : Nat) (k : Bool → Option R) : Option R :=
  k true
def f32.p0_e0 {R : Type} (L N : Nat) (k : Bool → Option R) : Option R :=
  f32.p0_e0' L N k
def f32.p0_r' {R : Type} (L N : Nat) (k : Bool → Option R) (z43 : Bool) : Option R :=
  k z43
def f32.p0_r {R : Type} (L N : Nat) (k : Bool → Option R) (z43 : Bool) : Option R :=
  f32.p0_r' L N k z43
def f32.j0' {R : Type} (L N : Nat) (k : Bool → Option R) (w0 : LLM → Int → Int → LLM → Option R) (v2 : LLM) : Option R :=
  w0 v2 (v2.length : Int) (0 : Int) v2
def f32.b' {R : Type} (L N : Nat) (k : Bool → Option R) (w0 : LLM → Int → Int → LLM → Option R) (x0 : Graph) : Option R :=
  bif (decide ((x0.moves.length : Int) < (1 : Int))) then
    k false
  else bif (decide ((x0.moves.length : Int) > (60 : Int))) then
    k false
  else f32.j0' L N k w0 x0.moves
def f32.b {R : Type} (L N : Nat) (k : Bool → Option R) (x0 : Graph) : Option R :=
  f32.b' L N k (fun s3 s4 s5 s6 => f32.l0 L N (f32.p0_e0 L N k) (fun z43 => f32.p0_r L N k z43) L s3 s4 s5 s6) x0
def f32 (L N : Nat) (x0 : Graph) : Option (Bool) := f32.b L N some x0
def f32.ent (L N : Nat) := entRo [(.st 2)] (.one .bool) fun d => f32 L N d.1
noncomputable def E32 (L N : Nat) : Env := { P := Try.prog, ty := tyOf, Φ := (Φ73 L N), inl := inlT, live := lives, liveX := livesX, L := L, dp := none, prom := promT, heal := healT, ren := renT }
noncomputable def f32.c0 : Code := loopAt 0 (codeOf Try.f32)
noncomputable def f32.c1 : Code := loopAt 2 f32.c0
def f32.X1_e2 {R : Type} (κ : KX R) := fun z15 z16 z17 z18 => κ (.exit 2) (f32.T1_e2 z15 z16 z17 z18) (f32.H1_e2 z15 z16 z17 z18)
def f32.X1_r {R : Type} (κ : KX R) := fun z30 z31 z32 z33 z34 => κ .ret (f32.T1_r z30 z31 z32 z33 z34) (f32.H1_r z30 z31 z32 z33 z34)
def f32.R1 {R : Type} (rec : KT R) := fun s7 s8 s9 s10 s11 s12 s13 s14 => rec (f32.T1 s7 s8 s9 s10 s11 s12 s13 s14) (f32.H1 s7 s8 s9 s10 s11 s12 s13 s14)
theorem f32.s1_eq {R : Type} (L N : Nat) (κ : KX R) (rec : KT R) (s7 : LM) (s8 : LLM) (s9 : Int) (s10 : Int) (s11 : LM) (s12 : Int) (s13 : Int) (s14 : LLM) :
    evRd (E32 L N) (evCallI (E32 L N) 1 2000) 1000 32 64 2 f32.c1 κ rec (f32.T1 s7 s8 s9 s10 s11 s12 s13 s14) (f32.H1 s7 s8 s9 s10 s11 s12 s13 s14)
    = f32.s1 L N (f32.X1_e2 κ) (f32.X1_r κ) (f32.R1 rec) s7 s8 s9 s10 s11 s12 s13 s14 := by kernel_rfl
theorem f32.l1_eq {R : Type} (L N : Nat) (κ : KX R) : ∀ (n : Nat) (s7 : LM) (s8 : LLM) (s9 : Int) (s10 : Int) (s11 : LM) (s12 : Int) (s13 : Int) (s14 : LLM),
    evLp (E32 L N) (evCallI (E32 L N) 1 2000) 1000 32 64 2 f32.c1 κ n (f32.T1 s7 s8 s9 s10 s11 s12 s13 s14) (f32.H1 s7 s8 s9 s10 s11 s12 s13 s14)
    = f32.l1 L N (f32.X1_e2 κ) (f32.X1_r κ) n s7 s8 s9 s10 s11 s12 s13 s14 := by
  intro n
  induction n with
  | zero => intros; rfl
  | succ n ih =>
    intro s7 s8 s9 s10 s11 s12 s13 s14
    rw [evLp_succ, f32.s1_eq]
    delta f32.R1
    simp only [ih]
    rfl
def f32.X0_e0 {R : Type} (κ : KX R) := κ (.exit 0) f32.T0_e0 f32.H0_e0
def f32.X0_r {R : Type} (κ : KX R) := fun z43 => κ .ret (f32.T0_r z43) (f32.H0_r z43)
def f32.R0 {R : Type} (rec : KT R) := fun s3 s4 s5 s6 => rec (f32.T0 s3 s4 s5 s6) (f32.H0 s3 s4 s5 s6)
theorem f32.p1_e2_eq {R : Type} (L N : Nat) (κ : KX R) (rec : KT R) (z15 : LLM) (z16 : Int) (z17 : Int) (z18 : LLM) :
    (contAt (E32 L N) (evCallI (E32 L N) 1 2000) 1000 32 64 2 f32.c0 (rdK (E32 L N) 1000 32 64 0 κ rec)) (.exit 2) (f32.T1_e2 z15 z16 z17 z18) (f32.H1_e2 z15 z16 z17 z18)
    = f32.p1_e2 L N (f32.X0_e0 κ) (f32.X0_r κ) (f32.R0 rec) z15 z16 z17 z18 := by kernel_rfl
theorem f32.p1_r_eq {R : Type} (L N : Nat) (κ : KX R) (rec : KT R) (z30 : Bool) (z31 : LLM) (z32 : Int) (z33 : Int) (z34 : LLM) :
    (contAt (E32 L N) (evCallI (E32 L N) 1 2000) 1000 32 64 2 f32.c0 (rdK (E32 L N) 1000 32 64 0 κ rec)) .ret (f32.T1_r z30 z31 z32 z33 z34) (f32.H1_r z30 z31 z32 z33 z34)
    = f32.p1_r L N (f32.X0_e0 κ) (f32.X0_r κ) (f32.R0 rec) z30 z31 z32 z33 z34 := by kernel_rfl
theorem f32.s0_eq {R : Type} (L N : Nat) (κ : KX R) (rec : KT R) (s3 : LLM) (s4 : Int) (s5 : Int) (s6 : LLM) :
    evRd (E32 L N) (evCallI (E32 L N) 1 2000) 1000 32 64 0 f32.c0 κ rec (f32.T0 s3 s4 s5 s6) (f32.H0 s3 s4 s5 s6)
    = f32.s0 L N (f32.X0_e0 κ) (f32.X0_r κ) (f32.R0 rec) s3 s4 s5 s6 := by
  refine Eq.trans (b := f32.s0' L N (f32.X0_e0 κ) (f32.X0_r κ) (f32.R0 rec) (fun s7 s8 s9 s10 s11 s12 s13 s14 => evLp (E32 L N) (evCallI (E32 L N) 1 2000) 1000 32 64 2 f32.c1 (contAt (E32 L N) (evCallI (E32 L N) 1 2000) 1000 32 64 2 f32.c0 (rdK (E32 L N) 1000 32 64 0 κ rec)) L (f32.T1 s7 s8 s9 s10 s11 s12 s13 s14) (f32.H1 s7 s8 s9 s10 s11 s12 s13 s14)) s3 s4 s5 s6) (by kernel_rfl) ?_
  unfold f32.s0
  simp only [f32.l1_eq]
  delta f32.X1_e2 f32.X1_r
  simp only [f32.p1_e2_eq, f32.p1_r_eq]
theorem f32.l0_eq {R : Type} (L N : Nat) (κ : KX R) : ∀ (n : Nat) (s3 : LLM) (s4 : Int) (s5 : Int) (s6 : LLM),
    evLp (E32 L N) (evCallI (E32 L N) 1 2000) 1000 32 64 0 f32.c0 κ n (f32.T0 s3 s4 s5 s6) (f32.H0 s3 s4 s5 s6)
    = f32.l0 L N (f32.X0_e0 κ) (f32.X0_r κ) n s3 s4 s5 s6 := by
  intro n
  induction n with
  | zero => intros; rfl
  | succ n ih =>
    intro s3 s4 s5 s6
    rw [evLp_succ, f32.s0_eq]
    delta f32.R0
    simp only [ih]
    rfl
theorem f32.p0_e0_eq {R : Type} (L N : Nat) (κ : AV → Option R) :
    (contAt (E32 L N) (evCallI (E32 L N) 1 2000) 1000 32 64 0 (codeOf Try.f32) (finK (E32 L N) 1000 Try.f32 (finC (.one .bool) κ))) (.exit 0) f32.T0_e0 f32.H0_e0
    = f32.p0_e0 L N (fun a0 => κ (.tv .bool a0)) := by kernel_rfl
theorem f32.p0_r_eq {R : Type} (L N : Nat) (κ : AV → Option R) (z43 : Bool) :
    (contAt (E32 L N) (evCallI (E32 L N) 1 2000) 1000 32 64 0 (codeOf Try.f32) (finK (E32 L N) 1000 Try.f32 (finC (.one .bool) κ))) .ret (f32.T0_r z43) (f32.H0_r z43)
    = f32.p0_r L N (fun a0 => κ (.tv .bool a0)) z43 := by kernel_rfl
theorem f32.b_eq {R : Type} (L N : Nat) (κ : AV → Option R) (x0 : Graph) :
    evBody (E32 L N) (evCallI (E32 L N) 1 2000) 1000 32 Try.f32 [(.tv (.st 2) x0)] [] [] (finC (.one .bool) κ)
    = f32.b L N (fun a0 => κ (.tv .bool a0)) x0 := by
  refine Eq.trans (b := f32.b' L N (fun a0 => κ (.tv .bool a0)) (fun s3 s4 s5 s6 => evLp (E32 L N) (evCallI (E32 L N) 1 2000) 1000 32 64 0 f32.c0 (contAt (E32 L N) (evCallI (E32 L N) 1 2000) 1000 32 64 0 (codeOf Try.f32) (finK (E32 L N) 1000 Try.f32 (finC (.one .bool) κ))) L (f32.T0 s3 s4 s5 s6) (f32.H0 s3 s4 s5 s6)) x0) (by kernel_rfl) ?_
  unfold f32.b
  simp only [f32.l0_eq]
  delta f32.X0_e0 f32.X0_r
  simp only [f32.p0_e0_eq, f32.p0_r_eq]
theorem f32.ok (L N : Nat) (hΦ : TellsOk Try.prog ((Φ73 L N))) : EntOk Try.prog 32 (f32.ent L N) := entRo_ok (E := (E32 L N)) (dep := 1000) (f := Try.f32) (sound_of hΦ) okP (callI_sound (sound_of hΦ) okP 1 2000) rfl rfl fun d _ hy => (f32.b_eq L N (unR (.one .bool)) d.1).trans (Eq.trans (b := f32.b L N some d.1) (by kernel_rfl) hy)
def Φ32 (L N : Nat) : Tells := (addT (Φ73 L N) 32 (f32.ent L N))
theorem Φ32_ok (L N : Nat) : TellsOk Try.prog (Φ32 L N) := addT_ok (Φ73_ok L N) (f32.ok L N (Φ73_ok L N))
def f119.s0' {R : Type} (L N : Nat) (k0_e0 : Option R) (k0_r : Bool → Option R) (rec0 : LI → LI → Int → Int → Option R) (s0 : LI) (s1 : LI) (s2 : Int) (s3 : Int) : Option R :=
  bif (decide (s3 < s2)) then
    bif (decide (0 ≤ s3) && decide (s3 < (s0.length : Int))) then
      bif (decide (0 ≤ s3) && decide (s3 < (s1.length : Int))) then
        bif ((listAt s0 (0 : Int) s3.toNat) != (listAt s1 (0 : Int) s3.toNat)) then
          k0_r false
        else rec0 s0 s1 s2 (wi (s3 + (1 : Int)))
      else none
    else none
  else k0_e0
def f119.s0 {R : Type} (L N : Nat) (k0_e0 : Option R) (k0_r : Bool → Option R) (rec0 : LI → LI → Int → Int → Option R) (s0 : LI) (s1 : LI) (s2 : Int) (s3 : Int) : Option R :=
  f119.s0' L N k0_e0 k0_r rec0 s0 s1 s2 s3
def f119.l0 {R : Type} (L N : Nat) (k0_e0 : Option R) (k0_r : Bool → Option R) : Nat → LI → LI → Int → Int → Option R
  | 0, _, _, _, _ => none
  | n + 1, s0, s1, s2, s3 => f119.s0 L N k0_e0 k0_r (f119.l0 L N k0_e0 k0_r n) s0 s1 s2 s3
def f119.T0 (s0 : LI) (s1 : LI) (s2 : Int) (s3 : Int) : T := mkT 26 [(0, (.tv (.sl i64) s0)), (1, (.tv (.sl i64) s1)), (12, (.tv i64 s2)), (13, (.tv i64 s3))]
def f119.H0 (s0 : LI) (s1 : LI) (s2 : Int) (s3 : Int) : H := []
def f119.T0_e0 : T := mkT 26 []
def f119.H0_e0 : H := []
def f119.T0_r (z4 : Bool) : T := mkT 26 [(4, (.tv .bool z4))]
def f119.H0_r (z4 : Bool) : H := []
def f119.p0_e0' {R : Type} (L N : Nat) (k : Bool → Option R) : Option R :=
  k true
def f119.p0_e0 {R : Type} (L N : Nat) (k : Bool → Option R) : Option R :=
  f119.p0_e0' L N k
def f119.p0_r' {R : Type} (L N : Nat) (k : Bool → Option R) (z4 : Bool) : Option R :=
  k z4
def f119.p0_r {R : Type} (L N : Nat) (k : Bool → Option R) (z4 : Bool) : Option R :=
  f119.p0_r' L N k z4
def f119.b' {R : Type} (L N : Nat) (k : Bool → Option R) (w0 : LI → LI → Int → Int → Option R) (x0 : LI) (x1 : LI) : Option R :=
  bif ((x0.length : Int) != (x1.length : Int)) then
    k false
  else w0 x0 x1 (x0.length : Int) (0 : Int)
def f119.b {R : Type} (L N : Nat) (k : Bool → Option R) (x0 : LI) (x1 : LI) : Option R :=
  f119.b' L N k (fun s0 s1 s2 s3 => f119.l0 L N (f119.p0_e0 L N k) (fun z4 => f119.p0_r L N k z4) L s0 s1 s2 s3) x0 x1
def f119 (L N : Nat) (x0 : LI) (x1 : LI) : Option (Bool) := f119.b L N some x0 x1
def f119.ent (L N : Nat) := entRo [(.sl i64), (.sl i64)] (.one .bool) fun d => f119 L N d.1 d.2.1
noncomputable def E119 (L N : Nat) : Env := { P := Try.prog, ty := tyOf, Φ := (Φ32 L N), inl := inlT, live := lives, liveX := livesX, L := L, dp := none, prom := promT, heal := healT, ren := renT }
noncomputable def f119.c0 : Code := loopAt 0 (codeOf Try.f119)
def f119.X0_e0 {R : Type} (κ : KX R) := κ (.exit 0) f119.T0_e0 f119.H0_e0
def f119.X0_r {R : Type} (κ : KX R) := fun z4 => κ .ret (f119.T0_r z4) (f119.H0_r z4)
def f119.R0 {R : Type} (rec : KT R) := fun s0 s1 s2 s3 => rec (f119.T0 s0 s1 s2 s3) (f119.H0 s0 s1 s2 s3)
theorem f119.s0_eq {R : Type} (L N : Nat) (κ : KX R) (rec : KT R) (s0 : LI) (s1 : LI) (s2 : Int) (s3 : Int) :
    evRd (E119 L N) (evCallI (E119 L N) 1 2000) 1000 119 26 0 f119.c0 κ rec (f119.T0 s0 s1 s2 s3) (f119.H0 s0 s1 s2 s3)
    = f119.s0 L N (f119.X0_e0 κ) (f119.X0_r κ) (f119.R0 rec) s0 s1 s2 s3 := by kernel_rfl
theorem f119.l0_eq {R : Type} (L N : Nat) (κ : KX R) : ∀ (n : Nat) (s0 : LI) (s1 : LI) (s2 : Int) (s3 : Int),
    evLp (E119 L N) (evCallI (E119 L N) 1 2000) 1000 119 26 0 f119.c0 κ n (f119.T0 s0 s1 s2 s3) (f119.H0 s0 s1 s2 s3)
    = f119.l0 L N (f119.X0_e0 κ) (f119.X0_r κ) n s0 s1 s2 s3 := by
  intro n
  induction n with
  | zero => intros; rfl
  | succ n ih =>
    intro s0 s1 s2 s3
    rw [evLp_succ, f119.s0_eq]
    delta f119.R0
    simp only [ih]
    rfl
theorem f119.p0_e0_eq {R : Type} (L N : Nat) (κ : AV → Option R) :
    (contAt (E119 L N) (evCallI (E119 L N) 1 2000) 1000 119 26 0 (codeOf Try.f119) (finK (E119 L N) 1000 Try.f119 (finC (.one .bool) κ))) (.exit 0) f119.T0_e0 f119.H0_e0
    = f119.p0_e0 L N (fun a0 => κ (.tv .bool a0)) := by kernel_rfl
theorem f119.p0_r_eq {R : Type} (L N : Nat) (κ : AV → Option R) (z4 : Bool) :
    (contAt (E119 L N) (evCallI (E119 L N) 1 2000) 1000 119 26 0 (codeOf Try.f119) (finK (E119 L N) 1000 Try.f119 (finC (.one .bool) κ))) .ret (f119.T0_r z4) (f119.H0_r z4)
    = f119.p0_r L N (fun a0 => κ (.tv .bool a0)) z4 := by kernel_rfl
theorem f119.b_eq {R : Type} (L N : Nat) (κ : AV → Option R) (x0 : LI) (x1 : LI) :
    evBody (E119 L N) (evCallI (E119 L N) 1 2000) 1000 119 Try.f119 [(.tv (.sl i64) x0), (.tv (.sl i64) x1)] [] [] (finC (.one .bool) κ)
    = f119.b L N (fun a0 => κ (.tv .bool a0)) x0 x1 := by
  refine Eq.trans (b := f119.b' L N (fun a0 => κ (.tv .bool a0)) (fun s0 s1 s2 s3 => evLp (E119 L N) (evCallI (E119 L N) 1 2000) 1000 119 26 0 f119.c0 (contAt (E119 L N) (evCallI (E119 L N) 1 2000) 1000 119 26 0 (codeOf Try.f119) (finK (E119 L N) 1000 Try.f119 (finC (.one .bool) κ))) L (f119.T0 s0 s1 s2 s3) (f119.H0 s0 s1 s2 s3)) x0 x1) (by kernel_rfl) ?_
  unfold f119.b
  simp only [f119.l0_eq]
  delta f119.X0_e0 f119.X0_r
  simp only [f119.p0_e0_eq, f119.p0_r_eq]
theorem f119.ok (L N : Nat) (hΦ : TellsOk Try.prog ((Φ32 L N))) : EntOk Try.prog 119 (f119.ent L N) := entRo_ok (E := (E119 L N)) (dep := 1000) (f := Try.f119) (sound_of hΦ) okP (callI_sound (sound_of hΦ) okP 1 2000) rfl rfl fun d _ hy => (f119.b_eq L N (unR (.one .bool)) d.1 d.2.1).trans (Eq.trans (b := f119.b L N some d.1 d.2.1) (by kernel_rfl) hy)
def Φ119 (L N : Nat) : Tells := (addT (Φ32 L N) 119 (f119.ent L N))
theorem Φ119_ok (L N : Nat) : TellsOk Try.prog (Φ119 L N) := addT_ok (Φ32_ok L N) (f119.ok L N (Φ32_ok L N))
def f142.s0' {R : Type} (L N : Nat) (k0_e0 : Option R) (k0_r : Bool → Option R) (rec0 : LM → LM → Int → Int → Option R) (s0 : LM) (s1 : LM) (s2 : Int) (s3 : Int) : Option R :=
  bif (decide (s3 < s2)) then
    bif (decide (0 ≤ s3) && decide (s3 < (s0.length : Int))) then
      bif (decide (0 ≤ s3) && decide (s3 < (s1.length : Int))) then
        bif (!(Move.eqb (listAt s0 (Ty.dflt (.st 0)) s3.toNat) (listAt s1 (Ty.dflt (.st 0)) s3.toNat))) then
          k0_r false
        else rec0 s0 s1 s2 (wi (s3 + (1 : Int)))
      else none
    else none
  else k0_e0
def f142.s0 {R : Type} (L N : Nat) (k0_e0 : Option R) (k0_r : Bool → Option R) (rec0 : LM → LM → Int → Int → Option R) (s0 : LM) (s1 : LM) (s2 : Int) (s3 : Int) : Option R :=
  f142.s0' L N k0_e0 k0_r rec0 s0 s1 s2 s3
def f142.l0 {R : Type} (L N : Nat) (k0_e0 : Option R) (k0_r : Bool → Option R) : Nat → LM → LM → Int → Int → Option R
  | 0, _, _, _, _ => none
  | n + 1, s0, s1, s2, s3 => f142.s0 L N k0_e0 k0_r (f142.l0 L N k0_e0 k0_r n) s0 s1 s2 s3
def f142.T0 (s0 : LM) (s1 : LM) (s2 : Int) (s3 : Int) : T := mkT 26 [(0, (.tv (.sl (.st 0)) s0)), (1, (.tv (.sl (.st 0)) s1)), (12, (.tv i64 s2)), (13, (.tv i64 s3))]
def f142.H0 (s0 : LM) (s1 : LM) (s2 : Int) (s3 : Int) : H := []
def f142.T0_e0 : T := mkT 26 []
def f142.H0_e0 : H := []
def f142.T0_r (z4 : Bool) : T := mkT 26 [(4, (.tv .bool z4))]
def f142.H0_r (z4 : Bool) : H := []
def f142.p0_e0' {R : Type} (L N : Nat) (k : Bool → Option R) : Option R :=
  k true
def f142.p0_e0 {R : Type} (L N : Nat) (k : Bool → Option R) : Option R :=
  f142.p0_e0' L N k
def f142.p0_r' {R : Type} (L N : Nat) (k : Bool → Option R) (z4 : Bool) : Option R :=
  k z4
def f142.p0_r {R : Type} (L N : Nat) (k : Bool → Option R) (z4 : Bool) : Option R :=
  f142.p0_r' L N k z4
def f142.b' {R : Type} (L N : Nat) (k : Bool → Option R) (w0 : LM → LM → Int → Int → Option R) (x0 : LM) (x1 : LM) : Option R :=
  bif ((x0.length : Int) != (x1.length : Int)) then
    k false
  else w0 x0 x1 (x0.length : Int) (0 : Int)
def f142.b {R : Type} (L N : Nat) (k : Bool → Option R) (x0 : LM) (x1 : LM) : Option R :=
  f142.b' L N k (fun s0 s1 s2 s3 => f142.l0 L N (f142.p0_e0 L N k) (fun z4 => f142.p0_r L N k z4) L s0 s1 s2 s3) x0 x1
def f142 (L N : Nat) (x0 : LM) (x1 : LM) : Option (Bool) := f142.b L N some x0 x1
def f142.ent (L N : Nat) := entRo [(.sl (.st 0)), (.sl (.st 0))] (.one .bool) fun d => f142 L N d.1 d.2.1
noncomputable def E142 (L N : Nat) : Env := { P := Try.prog, ty := tyOf, Φ := (Φ119 L N), inl := inlT, live := lives, liveX := livesX, L := L, dp := none, prom := promT, heal := healT, ren := renT }
noncomputable def f142.c0 : Code := loopAt 0 (codeOf Try.f142)
def f142.X0_e0 {R : Type} (κ : KX R) := κ (.exit 0) f142.T0_e0 f142.H0_e0
def f142.X0_r {R : Type} (κ : KX R) := fun z4 => κ .ret (f142.T0_r z4) (f142.H0_r z4)
def f142.R0 {R : Type} (rec : KT R) := fun s0 s1 s2 s3 => rec (f142.T0 s0 s1 s2 s3) (f142.H0 s0 s1 s2 s3)
theorem f142.s0_eq {R : Type} (L N : Nat) (κ : KX R) (rec : KT R) (s0 : LM) (s1 : LM) (s2 : Int) (s3 : Int) :
    evRd (E142 L N) (evCallI (E142 L N) 1 2000) 1000 142 26 0 f142.c0 κ rec (f142.T0 s0 s1 s2 s3) (f142.H0 s0 s1 s2 s3)
    = f142.s0 L N (f142.X0_e0 κ) (f142.X0_r κ) (f142.R0 rec) s0 s1 s2 s3 := by kernel_rfl
theorem f142.l0_eq {R : Type} (L N : Nat) (κ : KX R) : ∀ (n : Nat) (s0 : LM) (s1 : LM) (s2 : Int) (s3 : Int),
    evLp (E142 L N) (evCallI (E142 L N) 1 2000) 1000 142 26 0 f142.c0 κ n (f142.T0 s0 s1 s2 s3) (f142.H0 s0 s1 s2 s3)
    = f142.l0 L N (f142.X0_e0 κ) (f142.X0_r κ) n s0 s1 s2 s3 := by
  intro n
  induction n with
  | zero => intros; rfl
  | succ n ih =>
    intro s0 s1 s2 s3
    rw [evLp_succ, f142.s0_eq]
    delta f142.R0
    simp only [ih]
    rfl
theorem f142.p0_e0_eq {R : Type} (L N : Nat) (κ : AV → Option R) :
    (contAt (E142 L N) (evCallI (E142 L N) 1 2000) 1000 142 26 0 (codeOf Try.f142) (finK (E142 L N) 1000 Try.f142 (finC (.one .bool) κ))) (.exit 0) f142.T0_e0 f142.H0_e0
    = f142.p0_e0 L N (fun a0 => κ (.tv .bool a0)) := by kernel_rfl
theorem f142.p0_r_eq {R : Type} (L N : Nat) (κ : AV → Option R) (z4 : Bool) :
    (contAt (E142 L N) (evCallI (E142 L N) 1 2000) 1000 142 26 0 (codeOf Try.f142) (finK (E142 L N) 1000 Try.f142 (finC (.one .bool) κ))) .ret (f142.T0_r z4) (f142.H0_r z4)
    = f142.p0_r L N (fun a0 => κ (.tv .bool a0)) z4 := by kernel_rfl
theorem f142.b_eq {R : Type} (L N : Nat) (κ : AV → Option R) (x0 : LM) (x1 : LM) :
    evBody (E142 L N) (evCallI (E142 L N) 1 2000) 1000 142 Try.f142 [(.tv (.sl (.st 0)) x0), (.tv (.sl (.st 0)) x1)] [] [] (finC (.one .bool) κ)
    = f142.b L N (fun a0 => κ (.tv .bool a0)) x0 x1 := by
  refine Eq.trans (b := f142.b' L N (fun a0 => κ (.tv .bool a0)) (fun s0 s1 s2 s3 => evLp (E142 L N) (evCallI (E142 L N) 1 2000) 1000 142 26 0 f142.c0 (contAt (E142 L N) (evCallI (E142 L N) 1 2000) 1000 142 26 0 (codeOf Try.f142) (finK (E142 L N) 1000 Try.f142 (finC (.one .bool) κ))) L (f142.T0 s0 s1 s2 s3) (f142.H0 s0 s1 s2 s3)) x0 x1) (by kernel_rfl) ?_
  unfold f142.b
  simp only [f142.l0_eq]
  delta f142.X0_e0 f142.X0_r
  simp only [f142.p0_e0_eq, f142.p0_r_eq]
theorem f142.ok (L N : Nat) (hΦ : TellsOk Try.prog ((Φ119 L N))) : EntOk Try.prog 142 (f142.ent L N) := entRo_ok (E := (E142 L N)) (dep := 1000) (f := Try.f142) (sound_of hΦ) okP (callI_sound (sound_of hΦ) okP 1 2000) rfl rfl fun d _ hy => (f142.b_eq L N (unR (.one .bool)) d.1 d.2.1).trans (Eq.trans (b := f142.b L N some d.1 d.2.1) (by kernel_rfl) hy)
def Φ142 (L N : Nat) : Tells := (addT (Φ119 L N) 142 (f142.ent L N))
theorem Φ142_ok (L N : Nat) : TellsOk Try.prog (Φ142 L N) := addT_ok (Φ119_ok L N) (f142.ok L N (Φ119_ok L N))
def f83.j0' {R : Type} (L N : Nat) (k1_e2 : LI → Int → Int → LLM → LM → (List (Int × Bool)) → LI → Option R) (rec1 : LI → Int → Int → LM → Int → Int → LLM → LM → (List (Int × Bool)) → LI → Option R) (v25 : LI) (v26 : Int) (v27 : Int) (v28 : LM) (v29 : Int) (v30 : Int) (v31 : Bool) (v32 : LLM) (v33 : Int) (v34 : Int) (v35 : LM) (v36 : (List (Int × Bool))) (v37 : LI) : Option R :=
  bif v31 then
    bif (decide (0 ≤ v34) && decide (v34 < (v25.length : Int))) then
      bif (decide (v35.length + ([(Move.mk v33 (listAt v25 (0 : Int) v34.toNat))] : LM).length ≤ lim)) then
        rec1 v25 v26 v27 v28 v29 (wi (v30 + (1 : Int))) v32 (v35 ++ ([(Move.mk v33 (listAt v25 (0 : Int) v34.toNat))] : LM)) v36 v37
      else none
    else none
  else bif (!((mapFind i64 .bool v34 v36).getD (Ty.dflt .bool))) then
    bif (decide (v37.length + ([v34] : LI).length ≤ lim)) then
      rec1 v25 v26 v27 v28 v29 (wi (v30 + (1 : Int))) v32 v35 (mapPut i64 .bool v34 true v36) (v37 ++ ([v34] : LI))
    else none
  else rec1 v25 v26 v27 v28 v29 (wi (v30 + (1 : Int))) v32 v35 v36 v37
def f83.s1' {R : Type} (L N : Nat) (k1_e2 : LI → Int → Int → LLM → LM → (List (Int × Bool)) → LI → Option R) (rec1 : LI → Int → Int → LM → Int → Int → LLM → LM → (List (Int × Bool)) → LI → Option R) (s8 : LI) (s9 : Int) (s10 : Int) (s11 : LM) (s12 : Int) (s13 : Int) (s14 : LLM) (s15 : LM) (s16 : (List (Int × Bool))) (s17 : LI) : Option R :=
  bif (decide (s13 < s12)) then
    bif (decide (0 ≤ s13) && decide (s13 < (s11.length : Int))) then
      bif ((listAt s11 (Ty.dflt (.st 0)) s13.toNat).act != (0 : Int)) then
        f83.j0' L N k1_e2 rec1 s8 s9 s10 s11 s12 s13 true s14 ((listAt s11 (Ty.dflt (.st 0)) s13.toNat).act) ((listAt s11 (Ty.dflt (.st 0)) s13.toNat).to) s15 s16 s17
      else bif (decide (0 ≤ (listAt s11 (Ty.dflt (.st 0)) s13.toNat).to) && decide ((listAt s11 (Ty.dflt (.st 0)) s13.toNat).to < (s8.length : Int))) then
        bif (decide (0 ≤ s9) && decide (s9 < (s8.length : Int))) then
          f83.j0' L N k1_e2 rec1 s8 s9 s10 s11 s12 s13 ((listAt s8 (0 : Int) ((listAt s11 (Ty.dflt (.st 0)) s13.toNat).to).toNat) != (listAt s8 (0 : Int) s9.toNat)) s14 ((listAt s11 (Ty.dflt (.st 0)) s13.toNat).act) ((listAt s11 (Ty.dflt (.st 0)) s13.toNat).to) s15 s16 s17
        else none
      else none
    else none
  else k1_e2 s8 s9 s10 s14 s15 s16 s17
def f83.s1 {R : Type} (L N : Nat) (k1_e2 : LI → Int → Int → LLM → LM → (List (Int × Bool)) → LI → Option R) (rec1 : LI → Int → Int → LM → Int → Int → LLM → LM → (List (Int × Bool)) → LI → Option R) (s8 : LI) (s9 : Int) (s10 : Int) (s11 : LM) (s12 : Int) (s13 : Int) (s14 : LLM) (s15 : LM) (s16 : (List (Int × Bool))) (s17 : LI) : Option R :=
  f83.s1' L N k1_e2 rec1 s8 s9 s10 s11 s12 s13 s14 s15 s16 s17
def f83.l1 {R : Type} (L N : Nat) (k1_e2 : LI → Int → Int → LLM → LM → (List (Int × Bool)) → LI → Option R) : Nat → LI → Int → Int → LM → Int → Int → LLM → LM → (List (Int × Bool)) → LI → Option R
  | 0, _, _, _, _, _, _, _, _, _, _ => none
  | n + 1, s8, s9, s10, s11, s12, s13, s14, s15, s16, s17 => f83.s1 L N k1_e2 (f83.l1 L N k1_e2 n) s8 s9 s10 s11 s12 s13 s14 s15 s16 s17
def f83.T1 (s8 : LI) (s9 : Int) (s10 : Int) (s11 : LM) (s12 : Int) (s13 : Int) (s14 : LLM) (s15 : LM) (s16 : (List (Int × Bool))) (s17 : LI) : T := mkT 80 [(1, (.tv (.sl i64) s8)), (2, (.tv i64 s9)), (3, (.ptr 1003 0)), (7, (.row 1013)), (8, (.mp 1014)), (9, (.row 1018)), (10, (.tv i64 s10)), (32, (.tv (.sl (.st 0)) s11)), (33, (.tv i64 s12)), (34, (.tv i64 s13))]
def f83.H1 (s8 : LI) (s9 : Int) (s10 : Int) (s11 : LM) (s12 : Int) (s13 : Int) (s14 : LLM) (s15 : LM) (s16 : (List (Int × Bool))) (s17 : LI) : H := [(1003, (.box [(.tv (.sl (.sl (.st 0))) s14)])), (1013, (.row 53 (.st 0) s15)), (1014, (.map i64 .bool s16)), (1018, (.row 3 i64 s17))]
def f83.T1_e2 (z18 : LI) (z19 : Int) (z20 : Int) (z21 : LLM) (z22 : LM) (z23 : (List (Int × Bool))) (z24 : LI) : T := mkT 80 [(1, (.tv (.sl i64) z18)), (2, (.tv i64 z19)), (3, (.ptr 1003 0)), (7, (.row 1013)), (8, (.mp 1014)), (9, (.row 1018)), (10, (.tv i64 z20))]
def f83.H1_e2 (z18 : LI) (z19 : Int) (z20 : Int) (z21 : LLM) (z22 : LM) (z23 : (List (Int × Bool))) (z24 : LI) : H := [(1003, (.box [(.tv (.sl (.sl (.st 0))) z21)])), (1013, (.row 53 (.st 0) z22)), (1014, (.map i64 .bool z23)), (1018, (.row 3 i64 z24))]
def f83.p1_e2' {R : Type} (L N : Nat) (k0_e0 : LM → Option R) (rec0 : LI → Int → Int → LLM → LM → (List (Int × Bool)) → LI → Option R) (z18 : LI) (z19 : Int) (z20 : Int) (z21 : LLM) (z22 : LM) (z23 : (List (Int × Bool))) (z24 : LI) : Option R :=
  rec0 z18 z19 (wi (z20 + (1 : Int))) z21 z22 z23 z24
def f83.p1_e2 {R : Type} (L N : Nat) (k0_e0 : LM → Option R) (rec0 : LI → Int → Int → LLM → LM → (List (Int × Bool)) → LI → Option R) (z18 : LI) (z19 : Int) (z20 : Int) (z21 : LLM) (z22 : LM) (z23 : (List (Int × Bool))) (z24 : LI) : Option R :=
  f83.p1_e2' L N k0_e0 rec0 z18 z19 z20 z21 z22 z23 z24
def f83.s0' {R : Type} (L N : Nat) (k0_e0 : LM → Option R) (rec0 : LI → Int → Int → LLM → LM → (List (Int × Bool)) → LI → Option R) (w1 : LI → Int → Int → LM → Int → Int → LLM → LM → (List (Int × Bool)) → LI → Option R) (s0 : LI) (s1 : Int) (s2 : Int) (s3 : LLM) (s4 : LM) (s5 : (List (Int × Bool))) (s6 : LI) : Option R :=
  bif (decide (s2 < (s6.length : Int))) then
    bif (decide (0 ≤ s2) && decide (s2 < (s6.length : Int))) then
      bif (decide (0 ≤ (listAt s6 (0 : Int) s2.toNat)) && decide ((listAt s6 (0 : Int) s2.toNat) < (s3.length : Int))) then
        w1 s0 s1 s2 (listAt s3 [] (listAt s6 (0 : Int) s2.toNat).toNat) ((listAt s3 [] (listAt s6 (0 : Int) s2.toNat).toNat).length : Int) (0 : Int) s3 s4 s5 s6
      else none
    else none
  else k0_e0 s4
def f83.s0 {R : Type} (L N : Nat) (k0_e0 : LM → Option R) (rec0 : LI → Int → Int → LLM → LM → (List (Int × Bool)) → LI → Option R) (s0 : LI) (s1 : Int) (s2 : Int) (s3 : LLM) (s4 : LM) (s5 : (List (Int × Bool))) (s6 : LI) : Option R :=
  f83.s0' L N k0_e0 rec0 (fun s8 s9 s10 s11 s12 s13 s14 s15 s16 s17 => f83.l1 L N (fun z18 z19 z20 z21 z22 z23 z24 => f83.p1_e2 L N k0_e0 rec0 z18 z19 z20 z21 z22 z23 z24) L s8 s9 s10 s11 s12 s13 s14 s15 s16 s17) s0 s1 s2 s3 s4 s5 s6
def f83.l0 {R : Type} (L N : Nat) (k0_e0 : LM → Option R) : Nat → LI → Int → Int → LLM → LM → (List (Int × Bool)) → LI → Option R
  | 0, _, _, _, _, _, _, _ => none
  | n + 1, s0, s1, s2, s3, s4, s5, s6 => f83.s0 L N k0_e0 (f83.l0 L N k0_e0 n) s0 s1 s2 s3 s4 s5 s6
def f83.T0 (s0 : LI) (s1 : Int) (s2 : Int) (s3 : LLM) (s4 : LM) (s5 : (List (Int × Bool))) (s6 : LI) : T := mkT 80 [(1, (.tv (.sl i64) s0)), (2, (.tv i64 s1)), (3, (.ptr 1003 0)), (7, (.row 1013)), (8, (.mp 1014)), (9, (.row 1018)), (10, (.tv i64 s2))]
def f83.H0 (s0 : LI) (s1 : Int) (s2 : Int) (s3 : LLM) (s4 : LM) (s5 : (List (Int × Bool))) (s6 : LI) : H := [(1003, (.box [(.tv (.sl (.sl (.st 0))) s3)])), (1013, (.row 53 (.st 0) s4)), (1014, (.map i64 .bool s5)), (1018, (.row 3 i64 s6))]
def f83.T0_e0 (z7 : LM) : T := mkT 80 [(7, (.row 1013))]
def f83.H0_e0 (z7 : LM) : H := [(1013, (.row 53 (.st 0) z7))]
def f83.p0_e0' {R : Type} (L N : Nat) (k : LM → Option R) (z7 : LM) : Option R :=
  ((fsortM z7)).bind fun y48 =>
  k (tidyM z7)
def f83.p0_e0 {R : Type} (L N : Nat) (k : LM → Option R) (z7 : LM) : Option R :=
  f83.p0_e0' L N k z7
def f83.b' {R : Type} (L N : Nat) (k : LM → Option R) (w0 : LI → Int → Int → LLM → LM → (List (Int × Bool)) → LI → Option R) (x0 : Graph) (x1 : LI) (x2 : Int) : Option R :=
  w0 x1 x2 (0 : Int) x0.moves ([] : LM) (mapPut i64 .bool x2 true ([] : (List (Int × Bool)))) ([x2] : LI)
def f83.b {R : Type} (L N : Nat) (k : LM → Option R) (x0 : Graph) (x1 : LI) (x2 : Int) : Option R :=
  f83.b' L N k (fun s0 s1 s2 s3 s4 s5 s6 => f83.l0 L N (fun z7 => f83.p0_e0 L N k z7) L s0 s1 s2 s3 s4 s5 s6) x0 x1 x2
def f83 (L N : Nat) (x0 : Graph) (x1 : LI) (x2 : Int) : Option (LM) := f83.b L N some x0 x1 x2
def f83.ent (L N : Nat) := entDa [(.st 2), (.sl i64), i64] (.one (.sl (.st 0))) fun d => f83 L N d.1 d.2.1 d.2.2.1
noncomputable def E83 (L N : Nat) : Env := { P := Try.prog, ty := tyOf, Φ := (Φ142 L N), inl := inlT, live := lives, liveX := livesX, L := L, dp := none, prom := promT, heal := healT, ren := renT }
noncomputable def f83.c0 : Code := loopAt 0 (codeOf Try.f83)
noncomputable def f83.c1 : Code := loopAt 2 f83.c0
def f83.X1_e2 {R : Type} (κ : KX R) := fun z18 z19 z20 z21 z22 z23 z24 => κ (.exit 2) (f83.T1_e2 z18 z19 z20 z21 z22 z23 z24) (f83.H1_e2 z18 z19 z20 z21 z22 z23 z24)
def f83.R1 {R : Type} (rec : KT R) := fun s8 s9 s10 s11 s12 s13 s14 s15 s16 s17 => rec (f83.T1 s8 s9 s10 s11 s12 s13 s14 s15 s16 s17) (f83.H1 s8 s9 s10 s11 s12 s13 s14 s15 s16 s17)
theorem f83.s1_eq {R : Type} (L N : Nat) (κ : KX R) (rec : KT R) (s8 : LI) (s9 : Int) (s10 : Int) (s11 : LM) (s12 : Int) (s13 : Int) (s14 : LLM) (s15 : LM) (s16 : (List (Int × Bool))) (s17 : LI) :
    evRd (E83 L N) (evCallI (E83 L N) 1 2000) 1000 83 80 2 f83.c1 κ rec (f83.T1 s8 s9 s10 s11 s12 s13 s14 s15 s16 s17) (f83.H1 s8 s9 s10 s11 s12 s13 s14 s15 s16 s17)
    = f83.s1 L N (f83.X1_e2 κ) (f83.R1 rec) s8 s9 s10 s11 s12 s13 s14 s15 s16 s17 := by kernel_rfl
theorem f83.l1_eq {R : Type} (L N : Nat) (κ : KX R) : ∀ (n : Nat) (s8 : LI) (s9 : Int) (s10 : Int) (s11 : LM) (s12 : Int) (s13 : Int) (s14 : LLM) (s15 : LM) (s16 : (List (Int × Bool))) (s17 : LI),
    evLp (E83 L N) (evCallI (E83 L N) 1 2000) 1000 83 80 2 f83.c1 κ n (f83.T1 s8 s9 s10 s11 s12 s13 s14 s15 s16 s17) (f83.H1 s8 s9 s10 s11 s12 s13 s14 s15 s16 s17)
    = f83.l1 L N (f83.X1_e2 κ) n s8 s9 s10 s11 s12 s13 s14 s15 s16 s17 := by
  intro n
  induction n with
  | zero => intros; rfl
  | succ n ih =>
    intro s8 s9 s10 s11 s12 s13 s14 s15 s16 s17
    rw [evLp_succ, f83.s1_eq]
    delta f83.R1
    simp only [ih]
    rfl
def f83.X0_e0 {R : Type} (κ : KX R) := fun z7 => κ (.exit 0) (f83.T0_e0 z7) (f83.H0_e0 z7)
def f83.R0 {R : Type} (rec : KT R) := fun s0 s1 s2 s3 s4 s5 s6 => rec (f83.T0 s0 s1 s2 s3 s4 s5 s6) (f83.H0 s0 s1 s2 s3 s4 s5 s6)
theorem f83.p1_e2_eq {R : Type} (L N : Nat) (κ : KX R) (rec : KT R) (z18 : LI) (z19 : Int) (z20 : Int) (z21 : LLM) (z22 : LM) (z23 : (List (Int × Bool))) (z24 : LI) :
    (contAt (E83 L N) (evCallI (E83 L N) 1 2000) 1000 83 80 2 f83.c0 (rdK (E83 L N) 1000 83 80 0 κ rec)) (.exit 2) (f83.T1_e2 z18 z19 z20 z21 z22 z23 z24) (f83.H1_e2 z18 z19 z20 z21 z22 z23 z24)
    = f83.p1_e2 L N (f83.X0_e0 κ) (f83.R0 rec) z18 z19 z20 z21 z22 z23 z24 := by kernel_rfl
theorem f83.s0_eq {R : Type} (L N : Nat) (κ : KX R) (rec : KT R) (s0 : LI) (s1 : Int) (s2 : Int) (s3 : LLM) (s4 : LM) (s5 : (List (Int × Bool))) (s6 : LI) :
    evRd (E83 L N) (evCallI (E83 L N) 1 2000) 1000 83 80 0 f83.c0 κ rec (f83.T0 s0 s1 s2 s3 s4 s5 s6) (f83.H0 s0 s1 s2 s3 s4 s5 s6)
    = f83.s0 L N (f83.X0_e0 κ) (f83.R0 rec) s0 s1 s2 s3 s4 s5 s6 := by
  refine Eq.trans (b := f83.s0' L N (f83.X0_e0 κ) (f83.R0 rec) (fun s8 s9 s10 s11 s12 s13 s14 s15 s16 s17 => evLp (E83 L N) (evCallI (E83 L N) 1 2000) 1000 83 80 2 f83.c1 (contAt (E83 L N) (evCallI (E83 L N) 1 2000) 1000 83 80 2 f83.c0 (rdK (E83 L N) 1000 83 80 0 κ rec)) L (f83.T1 s8 s9 s10 s11 s12 s13 s14 s15 s16 s17) (f83.H1 s8 s9 s10 s11 s12 s13 s14 s15 s16 s17)) s0 s1 s2 s3 s4 s5 s6) (by kernel_rfl) ?_
  unfold f83.s0
  simp only [f83.l1_eq]
  delta f83.X1_e2
  simp only [f83.p1_e2_eq]
theorem f83.l0_eq {R : Type} (L N : Nat) (κ : KX R) : ∀ (n : Nat) (s0 : LI) (s1 : Int) (s2 : Int) (s3 : LLM) (s4 : LM) (s5 : (List (Int × Bool))) (s6 : LI),
    evLp (E83 L N) (evCallI (E83 L N) 1 2000) 1000 83 80 0 f83.c0 κ n (f83.T0 s0 s1 s2 s3 s4 s5 s6) (f83.H0 s0 s1 s2 s3 s4 s5 s6)
    = f83.l0 L N (f83.X0_e0 κ) n s0 s1 s2 s3 s4 s5 s6 := by
  intro n
  induction n with
  | zero => intros; rfl
  | succ n ih =>
    intro s0 s1 s2 s3 s4 s5 s6
    rw [evLp_succ, f83.s0_eq]
    delta f83.R0
    simp only [ih]
    rfl
theorem f83.p0_e0_eq {R : Type} (L N : Nat) (κ : AV → Option R) (z7 : LM) :
    (contAt (E83 L N) (evCallI (E83 L N) 1 2000) 1000 83 80 0 (codeOf Try.f83) (finK (E83 L N) 1000 Try.f83 (finC (.one (.sl (.st 0))) κ))) (.exit 0) (f83.T0_e0 z7) (f83.H0_e0 z7)
    = f83.p0_e0 L N (fun a0 => κ (.tv (.sl (.st 0)) a0)) z7 := by kernel_rfl
theorem f83.b_eq {R : Type} (L N : Nat) (κ : AV → Option R) (x0 : Graph) (x1 : LI) (x2 : Int) :
    evBody (E83 L N) (evCallI (E83 L N) 1 2000) 1000 83 Try.f83 [(.tv (.st 2) x0), (.tv (.sl i64) x1), (.tv i64 x2)] [] [] (finC (.one (.sl (.st 0))) κ)
    = f83.b L N (fun a0 => κ (.tv (.sl (.st 0)) a0)) x0 x1 x2 := by
  refine Eq.trans (b := f83.b' L N (fun a0 => κ (.tv (.sl (.st 0)) a0)) (fun s0 s1 s2 s3 s4 s5 s6 => evLp (E83 L N) (evCallI (E83 L N) 1 2000) 1000 83 80 0 f83.c0 (contAt (E83 L N) (evCallI (E83 L N) 1 2000) 1000 83 80 0 (codeOf Try.f83) (finK (E83 L N) 1000 Try.f83 (finC (.one (.sl (.st 0))) κ))) L (f83.T0 s0 s1 s2 s3 s4 s5 s6) (f83.H0 s0 s1 s2 s3 s4 s5 s6)) x0 x1 x2) (by kernel_rfl) ?_
  unfold f83.b
  simp only [f83.l0_eq]
  delta f83.X0_e0
  simp only [f83.p0_e0_eq]
theorem f83.ok (L N : Nat) (hΦ : TellsOk Try.prog ((Φ142 L N))) : EntOk Try.prog 83 (f83.ent L N) := entDa_ok (E := (E83 L N)) (dep := 1000) (f := Try.f83) (sound_of hΦ) okP (callI_sound (sound_of hΦ) okP 1 2000) rfl fun d _ hy => (f83.b_eq L N (unR (.one (.sl (.st 0)))) d.1 d.2.1 d.2.2.1).trans (Eq.trans (b := f83.b L N some d.1 d.2.1 d.2.2.1) (by kernel_rfl) hy)
def Φ83 (L N : Nat) : Tells := (addT (Φ142 L N) 83 (f83.ent L N))
theorem Φ83_ok (L N : Nat) : TellsOk Try.prog (Φ83 L N) := addT_ok (Φ142_ok L N) (f83.ok L N (Φ142_ok L N))
def f82_1.b' {R : Type} (L N : Nat) (k : LM → Option R) (x0 : LI) (x1 : Int) (x2 : LLM) : Option R :=
  (f83 L N (Graph.mk x2) x0 x1).bind fun y0 =>
  k y0
def f82_1.b {R : Type} (L N : Nat) (k : LM → Option R) (x0 : LI) (x1 : Int) (x2 : LLM) : Option R :=
  f82_1.b' L N k x0 x1 x2
def f82_1 (L N : Nat) (x0 : LI) (x1 : Int) (x2 : LLM) : Option (LM) := f82_1.b L N some x0 x1 x2
def f82_1.ent (L N : Nat) := entDf [(.dat (.sl i64)), (.dat i64), (.imp (.sl (.sl (.st 0))) 0)] (.one (.sl (.st 0))) fun d => f82_1 L N d.1 d.2.1 d.2.2.1
noncomputable def E82_1 (L N : Nat) : Env := { P := Try.prog, ty := tyOf, Φ := (Φ83 L N), inl := inlT, live := lives, liveX := livesX, L := L, dp := none, prom := promT, heal := healT, ren := renT }
theorem f82_1.b_eq {R : Type} (L N : Nat) (κ : AV → Option R) (x0 : LI) (x1 : Int) (x2 : LLM) :
    evBody (E82_1 L N) (evCallI (E82_1 L N) 1 2000) 1000 82 Try.f82 [(.tv (.sl i64) x0), (.tv i64 x1), (.imp (.sl (.sl (.st 0))) x2 0)] [] [] (finC (.one (.sl (.st 0))) κ)
    = f82_1.b L N (fun a0 => κ (.tv (.sl (.st 0)) a0)) x0 x1 x2 := by kernel_rfl
theorem f82_1.ok (L N : Nat) (hΦ : TellsOk Try.prog ((Φ83 L N))) : EntOkO Try.prog 82 (f82_1.ent L N) := entDf_ok (E := (E82_1 L N)) (dep := 1000) (f := Try.f82) (sound_of hΦ) okP (callI_sound (sound_of hΦ) okP 1 2000) rfl fun d _ hy => (f82_1.b_eq L N (unR (.one (.sl (.st 0)))) d.1 d.2.1 d.2.2.1).trans (Eq.trans (b := f82_1.b L N some d.1 d.2.1 d.2.2.1) (by kernel_rfl) hy)
def Φ82_1 (L N : Nat) : Tells := (addO (Φ83 L N) 82 (f82_1.ent L N))
theorem Φ82_1_ok (L N : Nat) : TellsOk Try.prog (Φ82_1 L N) := addO_ok (Φ83_ok L N) (f82_1.ok L N (Φ83_ok L N))
def f118_1.b' {R : Type} (L N : Nat) (k : LM → Option R) (x0 : Int) (x1 : LLM) (x2 : LI) : Option R :=
  (f82_1 L N x2 x0 x1).bind fun y0 =>
  k y0
def f118_1.b {R : Type} (L N : Nat) (k : LM → Option R) (x0 : Int) (x1 : LLM) (x2 : LI) : Option R :=
  f118_1.b' L N k x0 x1 x2
def f118_1 (L N : Nat) (x0 : Int) (x1 : LLM) (x2 : LI) : Option (LM) := f118_1.b L N some x0 x1 x2
def f118_1.ent (L N : Nat) := entDf [(.dat i64), (.pfn 82 [(.imp (.sl (.sl (.st 0))) 0)]), (.imp (.sl i64) 0)] (.one (.sl (.st 0))) fun d => f118_1 L N d.1 d.2.1.1 d.2.2.1
noncomputable def E118_1 (L N : Nat) : Env := { P := Try.prog, ty := tyOf, Φ := (Φ82_1 L N), inl := inlT, live := lives, liveX := livesX, L := L, dp := none, prom := promT, heal := healT, ren := renT }
theorem f118_1.b_eq {R : Type} (L N : Nat) (κ : AV → Option R) (x0 : Int) (x1 : LLM) (x2 : LI) :
    evBody (E118_1 L N) (evCallI (E118_1 L N) 1 2000) 1000 118 Try.f118 [(.tv i64 x0), (.imf 82 [(.imp (.sl (.sl (.st 0))) x1 0)]), (.imp (.sl i64) x2 0)] [] [] (finC (.one (.sl (.st 0))) κ)
    = f118_1.b L N (fun a0 => κ (.tv (.sl (.st 0)) a0)) x0 x1 x2 := by kernel_rfl
theorem f118_1.ok (L N : Nat) (hΦ : TellsOk Try.prog ((Φ82_1 L N))) : EntOkO Try.prog 118 (f118_1.ent L N) := entDf_ok (E := (E118_1 L N)) (dep := 1000) (f := Try.f118) (sound_of hΦ) okP (callI_sound (sound_of hΦ) okP 1 2000) rfl fun d _ hy => (f118_1.b_eq L N (unR (.one (.sl (.st 0)))) d.1 d.2.1.1 d.2.2.1).trans (Eq.trans (b := f118_1.b L N some d.1 d.2.1.1 d.2.2.1) (by kernel_rfl) hy)
def Φ118_1 (L N : Nat) : Tells := (addO (Φ82_1 L N) 118 (f118_1.ent L N))
theorem Φ118_1_ok (L N : Nat) : TellsOk Try.prog (Φ118_1 L N) := addO_ok (Φ82_1_ok L N) (f118_1.ok L N (Φ82_1_ok L N))
def f117_1.j0' {R : Type} (L N : Nat) (k1_e2 : LI → LLM → LI → Int → Int → LI → LLM → Option R) (rec1 : LI → LLM → LI → Int → Int → Int → Int → LI → LLM → Option R) (v26 : LI) (v27 : LLM) (v28 : LI) (v29 : Int) (v30 : Int) (v31 : Int) (v32 : Int) (v33 : Bool) (v34 : LI) (v35 : LLM) : Option R :=
  bif v33 then
    bif (decide (0 ≤ v29) && decide (v29 < (v34.length : Int))) then
      k1_e2 v26 v27 v28 v31 v32 (v34.set v29.toNat v30) v35
    else none
  else rec1 v26 v27 v28 v29 (wi (v30 + (1 : Int))) v31 v32 v34 v35
def f117_1.s1' {R : Type} (L N : Nat) (k1_e2 : LI → LLM → LI → Int → Int → LI → LLM → Option R) (rec1 : LI → LLM → LI → Int → Int → Int → Int → LI → LLM → Option R) (s9 : LI) (s10 : LLM) (s11 : LI) (s12 : Int) (s13 : Int) (s14 : Int) (s15 : Int) (s16 : LI) (s17 : LLM) : Option R :=
  bif (decide (s13 < s12)) then
    bif (decide (0 ≤ s13) && decide (s13 < (s9.length : Int))) then
      bif (decide (0 ≤ s12) && decide (s12 < (s9.length : Int))) then
        bif ((listAt s9 (0 : Int) s13.toNat) == (listAt s9 (0 : Int) s12.toNat)) then
          bif (decide (0 ≤ s13) && decide (s13 < (s17.length : Int))) then
            bif (decide (0 ≤ s12) && decide (s12 < (s17.length : Int))) then
              (f142 L N (listAt s17 [] s13.toNat) (listAt s17 [] s12.toNat)).bind fun y25 =>
              f117_1.j0' L N k1_e2 rec1 s9 s10 s11 s12 s13 s14 s15 y25 s16 s17
            else none
          else none
        else f117_1.j0' L N k1_e2 rec1 s9 s10 s11 s12 s13 s14 s15 false s16 s17
      else none
    else none
  else k1_e2 s9 s10 s11 s14 s15 s16 s17
def f117_1.s1 {R : Type} (L N : Nat) (k1_e2 : LI → LLM → LI → Int → Int → LI → LLM → Option R) (rec1 : LI → LLM → LI → Int → Int → Int → Int → LI → LLM → Option R) (s9 : LI) (s10 : LLM) (s11 : LI) (s12 : Int) (s13 : Int) (s14 : Int) (s15 : Int) (s16 : LI) (s17 : LLM) : Option R :=
  f117_1.s1' L N k1_e2 rec1 s9 s10 s11 s12 s13 s14 s15 s16 s17
def f117_1.l1 {R : Type} (L N : Nat) (k1_e2 : LI → LLM → LI → Int → Int → LI → LLM → Option R) : Nat → LI → LLM → LI → Int → Int → Int → Int → LI → LLM → Option R
  | 0, _, _, _, _, _, _, _, _, _ => none
  | n + 1, s9, s10, s11, s12, s13, s14, s15, s16, s17 => f117_1.s1 L N k1_e2 (f117_1.l1 L N k1_e2 n) s9 s10 s11 s12 s13 s14 s15 s16 s17
def f117_1.T1 (s9 : LI) (s10 : LLM) (s11 : LI) (s12 : Int) (s13 : Int) (s14 : Int) (s15 : Int) (s16 : LI) (s17 : LLM) : T := mkT 61 [(0, (.tv (.sl i64) s9)), (1, (.fn 118 [(.imf 82 [(.imp (.sl (.sl (.st 0))) s10 0)]), (.imp (.sl i64) s11 0)])), (5, (.row 1011)), (6, (.row 1014)), (7, (.tv i64 s12)), (8, (.tv i64 s13)), (16, (.tv i64 s14)), (17, (.tv i64 s15))]
def f117_1.H1 (s9 : LI) (s10 : LLM) (s11 : LI) (s12 : Int) (s13 : Int) (s14 : Int) (s15 : Int) (s16 : LI) (s17 : LLM) : H := [(1011, (.row 3 i64 s16)), (1014, (.row 51 (.sl (.st 0)) s17))]
def f117_1.T1_e2 (z18 : LI) (z19 : LLM) (z20 : LI) (z21 : Int) (z22 : Int) (z23 : LI) (z24 : LLM) : T := mkT 61 [(0, (.tv (.sl i64) z18)), (1, (.fn 118 [(.imf 82 [(.imp (.sl (.sl (.st 0))) z19 0)]), (.imp (.sl i64) z20 0)])), (5, (.row 1011)), (6, (.row 1014)), (16, (.tv i64 z21)), (17, (.tv i64 z22))]
def f117_1.H1_e2 (z18 : LI) (z19 : LLM) (z20 : LI) (z21 : Int) (z22 : Int) (z23 : LI) (z24 : LLM) : H := [(1011, (.row 3 i64 z23)), (1014, (.row 51 (.sl (.st 0)) z24))]
def f117_1.p1_e2' {R : Type} (L N : Nat) (k0_e0 : LI → Option R) (rec0 : LI → LLM → LI → Int → Int → LI → LLM → Option R) (z18 : LI) (z19 : LLM) (z20 : LI) (z21 : Int) (z22 : Int) (z23 : LI) (z24 : LLM) : Option R :=
  rec0 z18 z19 z20 z21 (wi (z22 + (1 : Int))) z23 z24
def f117_1.p1_e2 {R : Type} (L N : Nat) (k0_e0 : LI → Option R) (rec0 : LI → LLM → LI → Int → Int → LI → LLM → Option R) (z18 : LI) (z19 : LLM) (z20 : LI) (z21 : Int) (z22 : Int) (z23 : LI) (z24 : LLM) : Option R :=
  f117_1.p1_e2' L N k0_e0 rec0 z18 z19 z20 z21 z22 z23 z24
def f117_1.s0' {R : Type} (L N : Nat) (k0_e0 : LI → Option R) (rec0 : LI → LLM → LI → Int → Int → LI → LLM → Option R) (w1 : LI → LLM → LI → Int → Int → Int → Int → LI → LLM → Option R) (s0 : LI) (s1 : LLM) (s2 : LI) (s3 : Int) (s4 : Int) (s5 : LI) (s6 : LLM) : Option R :=
  bif (decide (s4 < s3)) then
    (f118_1 L N s4 s1 s2).bind fun y8 =>
    bif (decide (0 ≤ s4) && decide (s4 < (s6.length : Int))) then
      bif (decide (0 ≤ s4) && decide (s4 < (s5.length : Int))) then
        w1 s0 s1 s2 s4 (0 : Int) s3 s4 (s5.set s4.toNat s4) (s6.set s4.toNat y8)
      else none
    else none
  else k0_e0 s5
def f117_1.s0 {R : Type} (L N : Nat) (k0_e0 : LI → Option R) (rec0 : LI → LLM → LI → Int → Int → LI → LLM → Option R) (s0 : LI) (s1 : LLM) (s2 : LI) (s3 : Int) (s4 : Int) (s5 : LI) (s6 : LLM) : Option R :=
  f117_1.s0' L N k0_e0 rec0 (fun s9 s10 s11 s12 s13 s14 s15 s16 s17 => f117_1.l1 L N (fun z18 z19 z20 z21 z22 z23 z24 => f117_1.p1_e2 L N k0_e0 rec0 z18 z19 z20 z21 z22 z23 z24) L s9 s10 s11 s12 s13 s14 s15 s16 s17) s0 s1 s2 s3 s4 s5 s6
def f117_1.l0 {R : Type} (L N : Nat) (k0_e0 : LI → Option R) : Nat → LI → LLM → LI → Int → Int → LI → LLM → Option R
  | 0, _, _, _, _, _, _, _ => none
  | n + 1, s0, s1, s2, s3, s4, s5, s6 => f117_1.s0 L N k0_e0 (f117_1.l0 L N k0_e0 n) s0 s1 s2 s3 s4 s5 s6
def f117_1.T0 (s0 : LI) (s1 : LLM) (s2 : LI) (s3 : Int) (s4 : Int) (s5 : LI) (s6 : LLM) : T := mkT 61 [(0, (.tv (.sl i64) s0)), (1, (.fn 118 [(.imf 82 [(.imp (.sl (.sl (.st 0))) s1 0)]), (.imp (.sl i64) s2 0)])), (5, (.row 1011)), (6, (.row 1014)), (16, (.tv i64 s3)), (17, (.tv i64 s4))]
def f117_1.H0 (s0 : LI) (s1 : LLM) (s2 : LI) (s3 : Int) (s4 : Int) (s5 : LI) (s6 : LLM) : H := [(1011, (.row 3 i64 s5)), (1014, (.row 51 (.sl (.st 0)) s6))]
def f117_1.T0_e0 (z7 : LI) : T := mkT 61 [(5, (.row 1011))]
def f117_1.H0_e0 (z7 : LI) : H := [(1011, (.row 3 i64 z7))]
def f117_1.p0_e0' {R : Type} (L N : Nat) (k : LI → Option R) (z7 : LI) : Option R :=
  k z7
def f117_1.p0_e0 {R : Type} (L N : Nat) (k : LI → Option R) (z7 : LI) : Option R :=
  f117_1.p0_e0' L N k z7
def f117_1.b' {R : Type} (L N : Nat) (k : LI → Option R) (w0 : LI → LLM → LI → Int → Int → LI → LLM → Option R) (x0 : LI) (x1 : LLM) (x2 : LI) : Option R :=
  bif (decide (0 ≤ (x0.length : Int)) && decide ((x0.length : Int) ≤ (lim : Int))) then
    bif (decide (0 ≤ (x0.length : Int)) && decide ((x0.length : Int) ≤ (lim : Int))) then
      w0 x0 x1 x2 (x0.length : Int) (0 : Int) (List.replicate (x0.length : Int).toNat (0 : Int)) (List.replicate (x0.length : Int).toNat [])
    else none
  else none
def f117_1.b {R : Type} (L N : Nat) (k : LI → Option R) (x0 : LI) (x1 : LLM) (x2 : LI) : Option R :=
  f117_1.b' L N k (fun s0 s1 s2 s3 s4 s5 s6 => f117_1.l0 L N (fun z7 => f117_1.p0_e0 L N k z7) L s0 s1 s2 s3 s4 s5 s6) x0 x1 x2
def f117_1 (L N : Nat) (x0 : LI) (x1 : LLM) (x2 : LI) : Option (LI) := f117_1.b L N some x0 x1 x2
def f117_1.ent (L N : Nat) (args : List AV) (vw : View) (site : Nat) : Option Ans := match shD [(.dat (.sl i64)), (.fn 118 [(.pfn 82 [(.imp (.sl (.sl (.st 0))) 0)]), (.imp (.sl i64) 0)])] vw args with
  | some d => some ⟨LI, f117_1 L N d.1 d.2.1.1.1 d.2.1.2.1, fun y => (RN.av site .row (), [(site, some (mkO none 3 i64 y))], [])⟩
  | none => none
noncomputable def E117_1 (L N : Nat) : Env := { P := Try.prog, ty := tyOf, Φ := (Φ118_1 L N), inl := inlT, live := lives, liveX := livesX, L := L, dp := none, prom := promT, heal := healT, ren := renT }
noncomputable def f117_1.c0 : Code := loopAt 0 (codeOf Try.f117)
noncomputable def f117_1.c1 : Code := loopAt 2 f117_1.c0
def f117_1.X1_e2 {R : Type} (κ : KX R) := fun z18 z19 z20 z21 z22 z23 z24 => κ (.exit 2) (f117_1.T1_e2 z18 z19 z20 z21 z22 z23 z24) (f117_1.H1_e2 z18 z19 z20 z21 z22 z23 z24)
def f117_1.R1 {R : Type} (rec : KT R) := fun s9 s10 s11 s12 s13 s14 s15 s16 s17 => rec (f117_1.T1 s9 s10 s11 s12 s13 s14 s15 s16 s17) (f117_1.H1 s9 s10 s11 s12 s13 s14 s15 s16 s17)
theorem f117_1.s1_eq {R : Type} (L N : Nat) (κ : KX R) (rec : KT R) (s9 : LI) (s10 : LLM) (s11 : LI) (s12 : Int) (s13 : Int) (s14 : Int) (s15 : Int) (s16 : LI) (s17 : LLM) :
    evRd (E117_1 L N) (evCallI (E117_1 L N) 1 2000) 1000 117 61 2 f117_1.c1 κ rec (f117_1.T1 s9 s10 s11 s12 s13 s14 s15 s16 s17) (f117_1.H1 s9 s10 s11 s12 s13 s14 s15 s16 s17)
    = f117_1.s1 L N (f117_1.X1_e2 κ) (f117_1.R1 rec) s9 s10 s11 s12 s13 s14 s15 s16 s17 := by kernel_rfl
theorem f117_1.l1_eq {R : Type} (L N : Nat) (κ : KX R) : ∀ (n : Nat) (s9 : LI) (s10 : LLM) (s11 : LI) (s12 : Int) (s13 : Int) (s14 : Int) (s15 : Int) (s16 : LI) (s17 : LLM),
    evLp (E117_1 L N) (evCallI (E117_1 L N) 1 2000) 1000 117 61 2 f117_1.c1 κ n (f117_1.T1 s9 s10 s11 s12 s13 s14 s15 s16 s17) (f117_1.H1 s9 s10 s11 s12 s13 s14 s15 s16 s17)
    = f117_1.l1 L N (f117_1.X1_e2 κ) n s9 s10 s11 s12 s13 s14 s15 s16 s17 := by
  intro n
  induction n with
  | zero => intros; rfl
  | succ n ih =>
    intro s9 s10 s11 s12 s13 s14 s15 s16 s17
    rw [evLp_succ, f117_1.s1_eq]
    delta f117_1.R1
    simp only [ih]
    rfl
def f117_1.X0_e0 {R : Type} (κ : KX R) := fun z7 => κ (.exit 0) (f117_1.T0_e0 z7) (f117_1.H0_e0 z7)
def f117_1.R0 {R : Type} (rec : KT R) := fun s0 s1 s2 s3 s4 s5 s6 => rec (f117_1.T0 s0 s1 s2 s3 s4 s5 s6) (f117_1.H0 s0 s1 s2 s3 s4 s5 s6)
theorem f117_1.p1_e2_eq {R : Type} (L N : Nat) (κ : KX R) (rec : KT R) (z18 : LI) (z19 : LLM) (z20 : LI) (z21 : Int) (z22 : Int) (z23 : LI) (z24 : LLM) :
    (contAt (E117_1 L N) (evCallI (E117_1 L N) 1 2000) 1000 117 61 2 f117_1.c0 (rdK (E117_1 L N) 1000 117 61 0 κ rec)) (.exit 2) (f117_1.T1_e2 z18 z19 z20 z21 z22 z23 z24) (f117_1.H1_e2 z18 z19 z20 z21 z22 z23 z24)
    = f117_1.p1_e2 L N (f117_1.X0_e0 κ) (f117_1.R0 rec) z18 z19 z20 z21 z22 z23 z24 := by kernel_rfl
theorem f117_1.s0_eq {R : Type} (L N : Nat) (κ : KX R) (rec : KT R) (s0 : LI) (s1 : LLM) (s2 : LI) (s3 : Int) (s4 : Int) (s5 : LI) (s6 : LLM) :
    evRd (E117_1 L N) (evCallI (E117_1 L N) 1 2000) 1000 117 61 0 f117_1.c0 κ rec (f117_1.T0 s0 s1 s2 s3 s4 s5 s6) (f117_1.H0 s0 s1 s2 s3 s4 s5 s6)
    = f117_1.s0 L N (f117_1.X0_e0 κ) (f117_1.R0 rec) s0 s1 s2 s3 s4 s5 s6 := by
  refine Eq.trans (b := f117_1.s0' L N (f117_1.X0_e0 κ) (f117_1.R0 rec) (fun s9 s10 s11 s12 s13 s14 s15 s16 s17 => evLp (E117_1 L N) (evCallI (E117_1 L N) 1 2000) 1000 117 61 2 f117_1.c1 (contAt (E117_1 L N) (evCallI (E117_1 L N) 1 2000) 1000 117 61 2 f117_1.c0 (rdK (E117_1 L N) 1000 117 61 0 κ rec)) L (f117_1.T1 s9 s10 s11 s12 s13 s14 s15 s16 s17) (f117_1.H1 s9 s10 s11 s12 s13 s14 s15 s16 s17)) s0 s1 s2 s3 s4 s5 s6) (by kernel_rfl) ?_
  unfold f117_1.s0
  simp only [f117_1.l1_eq]
  delta f117_1.X1_e2
  simp only [f117_1.p1_e2_eq]
theorem f117_1.l0_eq {R : Type} (L N : Nat) (κ : KX R) : ∀ (n : Nat) (s0 : LI) (s1 : LLM) (s2 : LI) (s3 : Int) (s4 : Int) (s5 : LI) (s6 : LLM),
    evLp (E117_1 L N) (evCallI (E117_1 L N) 1 2000) 1000 117 61 0 f117_1.c0 κ n (f117_1.T0 s0 s1 s2 s3 s4 s5 s6) (f117_1.H0 s0 s1 s2 s3 s4 s5 s6)
    = f117_1.l0 L N (f117_1.X0_e0 κ) n s0 s1 s2 s3 s4 s5 s6 := by
  intro n
  induction n with
  | zero => intros; rfl
  | succ n ih =>
    intro s0 s1 s2 s3 s4 s5 s6
    rw [evLp_succ, f117_1.s0_eq]
    delta f117_1.R0
    simp only [ih]
    rfl
theorem f117_1.p0_e0_eq {R : Type} (L N : Nat) (κ : RN.Den .row → List Int → Option R) (z7 : LI) :
    (contAt (E117_1 L N) (evCallI (E117_1 L N) 1 2000) 1000 117 61 0 (codeOf Try.f117) (finK (E117_1 L N) 1000 Try.f117 (finN .row none 3 i64 κ))) (.exit 0) (f117_1.T0_e0 z7) (f117_1.H0_e0 z7)
    = f117_1.p0_e0 L N (fun a0 => κ () a0) z7 := by kernel_rfl
theorem f117_1.b_eq {R : Type} (L N : Nat) (κ : RN.Den .row → List Int → Option R) (x0 : LI) (x1 : LLM) (x2 : LI) :
    evBody (E117_1 L N) (evCallI (E117_1 L N) 1 2000) 1000 117 Try.f117 [(.tv (.sl i64) x0), (.fn 118 [(.imf 82 [(.imp (.sl (.sl (.st 0))) x1 0)]), (.imp (.sl i64) x2 0)])] [] [] (finN .row none 3 i64 κ)
    = f117_1.b L N (fun a0 => κ () a0) x0 x1 x2 := by
  refine Eq.trans (b := f117_1.b' L N (fun a0 => κ () a0) (fun s0 s1 s2 s3 s4 s5 s6 => evLp (E117_1 L N) (evCallI (E117_1 L N) 1 2000) 1000 117 61 0 f117_1.c0 (contAt (E117_1 L N) (evCallI (E117_1 L N) 1 2000) 1000 117 61 0 (codeOf Try.f117) (finK (E117_1 L N) 1000 Try.f117 (finN .row none 3 i64 κ))) L (f117_1.T0 s0 s1 s2 s3 s4 s5 s6) (f117_1.H0 s0 s1 s2 s3 s4 s5 s6)) x0 x1 x2) (by kernel_rfl) ?_
  unfold f117_1.b
  simp only [f117_1.l0_eq]
  delta f117_1.X0_e0
  simp only [f117_1.p0_e0_eq]
theorem f117_1.ok (L N : Nat) (hΦ : TellsOk Try.prog ((Φ118_1 L N))) : EntOkO Try.prog 117 (f117_1.ent L N) := by
  intro args vw site h a ha
  unfold f117_1.ent at ha
  split at ha
  · rename_i d hd
    obtain rfl := Option.some.inj ha
    intro y hy hs
    refine call_ronF (y := y) (dep := 1000) (E := (E117_1 L N)) (rn := .row) (q := none) (el := 3) (ty := i64) (d1 := ()) (xs := y) (κ := (fun d xs => some xs)) (sound_of hΦ) okP (callI_sound (sound_of hΦ) okP 1 2000) (f := Try.f117) rfl hs hd ?_ (fun _ _ h => by obtain rfl := Option.some.inj h; exact ⟨rfl, rfl⟩) rfl site
    exact (f117_1.b_eq L N (fun d xs => some xs) d.1 d.2.1.1.1 d.2.1.2.1).trans (Eq.trans (b := f117_1.b L N some d.1 d.2.1.1.1 d.2.1.2.1) (by kernel_rfl) hy)
  · cases ha
def Φ117_1 (L N : Nat) : Tells := (addO (Φ118_1 L N) 117 (f117_1.ent L N))
theorem Φ117_1_ok (L N : Nat) : TellsOk Try.prog (Φ117_1 L N) := addO_ok (Φ118_1_ok L N) (f117_1.ok L N (Φ118_1_ok L N))
def f81_1.s0' {R : Type} (L N : Nat) (k0_r : LLI → Option R) (rec0 : LLM → LLI → Option R) (s0 : LLM) (s1 : LLI) : Option R :=
  bif (decide (0 ≤ (wi ((s1.length : Int) - (1 : Int)))) && decide ((wi ((s1.length : Int) - (1 : Int))) < (s1.length : Int))) then
    (f117_1 L N (listAt s1 [] (wi ((s1.length : Int) - (1 : Int))).toNat) s0 (listAt s1 [] (wi ((s1.length : Int) - (1 : Int))).toNat)).bind fun y2 =>
    (f119 L N y2 (listAt s1 [] (wi ((s1.length : Int) - (1 : Int))).toNat)).bind fun y3 =>
    bif y3 then
      k0_r s1
    else bif (decide (s1.length + ([y2] : LLI).length ≤ lim)) then
      rec0 s0 (s1 ++ ([y2] : LLI))
    else none
  else none
def f81_1.s0 {R : Type} (L N : Nat) (k0_r : LLI → Option R) (rec0 : LLM → LLI → Option R) (s0 : LLM) (s1 : LLI) : Option R :=
  f81_1.s0' L N k0_r rec0 s0 s1
def f81_1.l0 {R : Type} (L N : Nat) (k0_r : LLI → Option R) : Nat → LLM → LLI → Option R
  | 0, _, _ => none
  | n + 1, s0, s1 => f81_1.s0 L N k0_r (f81_1.l0 L N k0_r n) s0 s1
def f81_1.T0 (s0 : LLM) (s1 : LLI) : T := mkT 28 [(3, (.ptr 1003 0)), (5, (.row 1010))]
def f81_1.H0 (s0 : LLM) (s1 : LLI) : H := [(1003, (.box [(.fn 82 [(.imp (.sl (.sl (.st 0))) s0 0)])])), (1010, (.row 30 (.sl i64) s1))]
def f81_1.T0_r (z4 : LLI) : T := mkT 28 [(4, (.row 1010))]
def f81_1.H0_r (z4 : LLI) : H := [(1010, (.row 30 (.sl i64) z4))]
def f81_1.p0_r' {R : Type} (L N : Nat) (k : LLI → Option R) (z4 : LLI) : Option R :=
  k z4
def f81_1.p0_r {R : Type} (L N : Nat) (k : LLI → Option R) (z4 : LLI) : Option R :=
  f81_1.p0_r' L N k z4
def f81_1.b' {R : Type} (L N : Nat) (k : LLI → Option R) (w0 : LLM → LLI → Option R) (x0 : Int) (x1 : LLM) : Option R :=
  bif (decide (0 ≤ x0) && decide (x0 ≤ (lim : Int))) then
    w0 x1 ([(List.replicate x0.toNat (0 : Int))] : LLI)
  else none
def f81_1.b {R : Type} (L N : Nat) (k : LLI → Option R) (x0 : Int) (x1 : LLM) : Option R :=
  f81_1.b' L N k (fun s0 s1 => f81_1.l0 L N (fun z4 => f81_1.p0_r L N k z4) L s0 s1) x0 x1
def f81_1 (L N : Nat) (x0 : Int) (x1 : LLM) : Option (LLI) := f81_1.b L N some x0 x1
def f81_1.ent (L N : Nat) := entDf [(.dat i64), (.fn 82 [(.imp (.sl (.sl (.st 0))) 0)])] (.one (.sl (.sl i64))) fun d => f81_1 L N d.1 d.2.1.1
noncomputable def E81_1 (L N : Nat) : Env := { P := Try.prog, ty := tyOf, Φ := (Φ117_1 L N), inl := inlT, live := lives, liveX := livesX, L := L, dp := none, prom := promT, heal := healT, ren := renT }
noncomputable def f81_1.c0 : Code := loopAt 0 (codeOf Try.f81)
def f81_1.X0_r {R : Type} (κ : KX R) := fun z4 => κ .ret (f81_1.T0_r z4) (f81_1.H0_r z4)
def f81_1.R0 {R : Type} (rec : KT R) := fun s0 s1 => rec (f81_1.T0 s0 s1) (f81_1.H0 s0 s1)
theorem f81_1.s0_eq {R : Type} (L N : Nat) (κ : KX R) (rec : KT R) (s0 : LLM) (s1 : LLI) :
    evRd (E81_1 L N) (evCallI (E81_1 L N) 1 2000) 1000 81 28 0 f81_1.c0 κ rec (f81_1.T0 s0 s1) (f81_1.H0 s0 s1)
    = f81_1.s0 L N (f81_1.X0_r κ) (f81_1.R0 rec) s0 s1 := by kernel_rfl
theorem f81_1.l0_eq {R : Type} (L N : Nat) (κ : KX R) : ∀ (n : Nat) (s0 : LLM) (s1 : LLI),
    evLp (E81_1 L N) (evCallI (E81_1 L N) 1 2000) 1000 81 28 0 f81_1.c0 κ n (f81_1.T0 s0 s1) (f81_1.H0 s0 s1)
    = f81_1.l0 L N (f81_1.X0_r κ) n s0 s1 := by
  intro n
  induction n with
  | zero => intros; rfl
  | succ n ih =>
    intro s0 s1
    rw [evLp_succ, f81_1.s0_eq]
    delta f81_1.R0
    simp only [ih]
    rfl
theorem f81_1.p0_r_eq {R : Type} (L N : Nat) (κ : AV → Option R) (z4 : LLI) :
    (contAt (E81_1 L N) (evCallI (E81_1 L N) 1 2000) 1000 81 28 0 (codeOf Try.f81) (finK (E81_1 L N) 1000 Try.f81 (finC (.one (.sl (.sl i64))) κ))) .ret (f81_1.T0_r z4) (f81_1.H0_r z4)
    = f81_1.p0_r L N (fun a0 => κ (.tv (.sl (.sl i64)) a0)) z4 := by kernel_rfl
theorem f81_1.b_eq {R : Type} (L N : Nat) (κ : AV → Option R) (x0 : Int) (x1 : LLM) :
    evBody (E81_1 L N) (evCallI (E81_1 L N) 1 2000) 1000 81 Try.f81 [(.tv i64 x0), (.fn 82 [(.imp (.sl (.sl (.st 0))) x1 0)])] [] [] (finC (.one (.sl (.sl i64))) κ)
    = f81_1.b L N (fun a0 => κ (.tv (.sl (.sl i64)) a0)) x0 x1 := by
  refine Eq.trans (b := f81_1.b' L N (fun a0 => κ (.tv (.sl (.sl i64)) a0)) (fun s0 s1 => evLp (E81_1 L N) (evCallI (E81_1 L N) 1 2000) 1000 81 28 0 f81_1.c0 (contAt (E81_1 L N) (evCallI (E81_1 L N) 1 2000) 1000 81 28 0 (codeOf Try.f81) (finK (E81_1 L N) 1000 Try.f81 (finC (.one (.sl (.sl i64))) κ))) L (f81_1.T0 s0 s1) (f81_1.H0 s0 s1)) x0 x1) (by kernel_rfl) ?_
  unfold f81_1.b
  simp only [f81_1.l0_eq]
  delta f81_1.X0_r
  simp only [f81_1.p0_r_eq]
theorem f81_1.ok (L N : Nat) (hΦ : TellsOk Try.prog ((Φ117_1 L N))) : EntOkO Try.prog 81 (f81_1.ent L N) := entDf_ok (E := (E81_1 L N)) (dep := 1000) (f := Try.f81) (sound_of hΦ) okP (callI_sound (sound_of hΦ) okP 1 2000) rfl fun d _ hy => (f81_1.b_eq L N (unR (.one (.sl (.sl i64)))) d.1 d.2.1.1).trans (Eq.trans (b := f81_1.b L N some d.1 d.2.1.1) (by kernel_rfl) hy)
def Φ81_1 (L N : Nat) : Tells := (addO (Φ117_1 L N) 81 (f81_1.ent L N))
theorem Φ81_1_ok (L N : Nat) : TellsOk Try.prog (Φ81_1 L N) := addO_ok (Φ117_1_ok L N) (f81_1.ok L N (Φ117_1_ok L N))
def f41.b' {R : Type} (L N : Nat) (k : LI → Option R) (x0 : Graph) : Option R :=
  (f32 L N (Graph.mk x0.moves)).bind fun y0 =>
  bif (!y0) then
    k []
  else (f81_1 L N (x0.moves.length : Int) x0.moves).bind fun y1 =>
  bif (decide (0 ≤ (wi ((y1.length : Int) - (1 : Int)))) && decide ((wi ((y1.length : Int) - (1 : Int))) < (y1.length : Int))) then
    ((fclone (listAt y1 [] (wi ((y1.length : Int) - (1 : Int))).toNat))).bind fun y2 =>
    k (listAt y1 [] (wi ((y1.length : Int) - (1 : Int))).toNat)
  else none
def f41.b {R : Type} (L N : Nat) (k : LI → Option R) (x0 : Graph) : Option R :=
  f41.b' L N k x0
def f41 (L N : Nat) (x0 : Graph) : Option (LI) := f41.b L N some x0
def f41.ent (L N : Nat) (args : List AV) (vw : View) (site : Nat) : Ans := match roD [(.st 2)] vw args with
  | some d => ⟨LI, f41 L N d.1, fun y => (RN.av site .row (), [(site, some (mkO none 3 i64 y))], [])⟩
  | none => Ans.no
noncomputable def E41 (L N : Nat) : Env := { P := Try.prog, ty := tyOf, Φ := (Φ81_1 L N), inl := inlT, live := lives, liveX := livesX, L := L, dp := none, prom := promT, heal := healT, ren := renT }
theorem f41.b_eq {R : Type} (L N : Nat) (κ : RN.Den .row → List Int → Option R) (x0 : Graph) :
    evBody (E41 L N) (evCallI (E41 L N) 1 2000) 1000 41 Try.f41 [(.tv (.st 2) x0)] [] [] (finN .row none 3 i64 κ)
    = f41.b L N (fun a0 => κ () a0) x0 := by kernel_rfl
theorem f41.ok (L N : Nat) (hΦ : TellsOk Try.prog ((Φ81_1 L N))) : EntOk Try.prog 41 (f41.ent L N) := by
  intro args vw site h
  unfold f41.ent
  split
  · rename_i d ha
    intro y hy hs
    refine call_ron (y := y) (dep := 1000) (E := (E41 L N)) (ts := [(.st 2)]) (rn := .row) (q := none) (el := 3) (ty := i64) (d1 := ()) (xs := y) (κ := (fun d xs => some xs)) (sound_of hΦ) okP (callI_sound (sound_of hΦ) okP 1 2000) (f := Try.f41) rfl hs ha ?_ (fun _ _ h => by obtain rfl := Option.some.inj h; exact ⟨rfl, rfl⟩) rfl site
    exact (f41.b_eq L N (fun d xs => some xs) d.1).trans (Eq.trans (b := f41.b L N some d.1) (by kernel_rfl) hy)
  · intro y hy
    cases hy
def Φ41 (L N : Nat) : Tells := (addT (Φ81_1 L N) 41 (f41.ent L N))
theorem Φ41_ok (L N : Nat) : TellsOk Try.prog (Φ41 L N) := addT_ok (Φ81_1_ok L N) (f41.ok L N (Φ81_1_ok L N))
def f145_1.s0' {R : Type} (L N : Nat) (k0_e0 : LM → Option R) (rec0 : LI → LM → Int → Int → LM → Option R) (s0 : LI) (s1 : LM) (s2 : Int) (s3 : Int) (s4 : LM) : Option R :=
  bif (decide (s3 < s2)) then
    bif (decide (0 ≤ s3) && decide (s3 < (s1.length : Int))) then
      bif (decide (0 ≤ (listAt s1 (Ty.dflt (.st 0)) s3.toNat).to) && decide ((listAt s1 (Ty.dflt (.st 0)) s3.toNat).to < (s0.length : Int))) then
        bif (decide (s4.length + ([(Move.mk ((listAt s1 (Ty.dflt (.st 0)) s3.toNat).act) (listAt s0 (0 : Int) ((listAt s1 (Ty.dflt (.st 0)) s3.toNat).to).toNat))] : LM).length ≤ lim)) then
          rec0 s0 s1 s2 (wi (s3 + (1 : Int))) (s4 ++ ([(Move.mk ((listAt s1 (Ty.dflt (.st 0)) s3.toNat).act) (listAt s0 (0 : Int) ((listAt s1 (Ty.dflt (.st 0)) s3.toNat).to).toNat))] : LM))
        else none
      else none
    else none
  else k0_e0 s4
def f145_1.s0 {R : Type} (L N : Nat) (k0_e0 : LM → Option R) (rec0 : LI → LM → Int → Int → LM → Option R) (s0 : LI) (s1 : LM) (s2 : Int) (s3 : Int) (s4 : LM) : Option R :=
  f145_1.s0' L N k0_e0 rec0 s0 s1 s2 s3 s4
def f145_1.l0 {R : Type} (L N : Nat) (k0_e0 : LM → Option R) : Nat → LI → LM → Int → Int → LM → Option R
  | 0, _, _, _, _, _ => none
  | n + 1, s0, s1, s2, s3, s4 => f145_1.s0 L N k0_e0 (f145_1.l0 L N k0_e0 n) s0 s1 s2 s3 s4
def f145_1.T0 (s0 : LI) (s1 : LM) (s2 : Int) (s3 : Int) (s4 : LM) : T := mkT 34 [(0, (.tv (.sl i64) s0)), (6, (.row 1009)), (14, (.tv (.sl (.st 0)) s1)), (15, (.tv i64 s2)), (16, (.tv i64 s3))]
def f145_1.H0 (s0 : LI) (s1 : LM) (s2 : Int) (s3 : Int) (s4 : LM) : H := [(1009, (.row 53 (.st 0) s4))]
def f145_1.T0_e0 (z5 : LM) : T := mkT 34 [(6, (.row 1009))]
def f145_1.H0_e0 (z5 : LM) : H := [(1009, (.row 53 (.st 0) z5))]
def f145_1.p0_e0' {R : Type} (L N : Nat) (k : LM → Option R) (z5 : LM) : Option R :=
  ((fsortM z5)).bind fun y6 =>
  k (tidyM z5)
def f145_1.p0_e0 {R : Type} (L N : Nat) (k : LM → Option R) (z5 : LM) : Option R :=
  f145_1.p0_e0' L N k z5
def f145_1.b' {R : Type} (L N : Nat) (k : LM → Option R) (w0 : LI → LM → Int → Int → LM → Option R) (x0 : LI) (x1 : Int) (x2 : LLM) : Option R :=
  bif (decide (0 ≤ x1) && decide (x1 < (x2.length : Int))) then
    w0 x0 (listAt x2 [] x1.toNat) ((listAt x2 [] x1.toNat).length : Int) (0 : Int) ([] : LM)
  else none
def f145_1.b {R : Type} (L N : Nat) (k : LM → Option R) (x0 : LI) (x1 : Int) (x2 : LLM) : Option R :=
  f145_1.b' L N k (fun s0 s1 s2 s3 s4 => f145_1.l0 L N (fun z5 => f145_1.p0_e0 L N k z5) L s0 s1 s2 s3 s4) x0 x1 x2
def f145_1 (L N : Nat) (x0 : LI) (x1 : Int) (x2 : LLM) : Option (LM) := f145_1.b L N some x0 x1 x2
def f145_1.ent (L N : Nat) := entDf [(.dat (.sl i64)), (.dat i64), (.imp (.sl (.sl (.st 0))) 0)] (.one (.sl (.st 0))) fun d => f145_1 L N d.1 d.2.1 d.2.2.1
noncomputable def E145_1 (L N : Nat) : Env := { P := Try.prog, ty := tyOf, Φ := (Φ41 L N), inl := inlT, live := lives, liveX := livesX, L := L, dp := none, prom := promT, heal := healT, ren := renT }
noncomputable def f145_1.c0 : Code := loopAt 0 (codeOf Try.f145)
def f145_1.X0_e0 {R : Type} (κ : KX R) := fun z5 => κ (.exit 0) (f145_1.T0_e0 z5) (f145_1.H0_e0 z5)
def f145_1.R0 {R : Type} (rec : KT R) := fun s0 s1 s2 s3 s4 => rec (f145_1.T0 s0 s1 s2 s3 s4) (f145_1.H0 s0 s1 s2 s3 s4)
theorem f145_1.s0_eq {R : Type} (L N : Nat) (κ : KX R) (rec : KT R) (s0 : LI) (s1 : LM) (s2 : Int) (s3 : Int) (s4 : LM) :
    evRd (E145_1 L N) (evCallI (E145_1 L N) 1 2000) 1000 145 34 0 f145_1.c0 κ rec (f145_1.T0 s0 s1 s2 s3 s4) (f145_1.H0 s0 s1 s2 s3 s4)
    = f145_1.s0 L N (f145_1.X0_e0 κ) (f145_1.R0 rec) s0 s1 s2 s3 s4 := by kernel_rfl
theorem f145_1.l0_eq {R : Type} (L N : Nat) (κ : KX R) : ∀ (n : Nat) (s0 : LI) (s1 : LM) (s2 : Int) (s3 : Int) (s4 : LM),
    evLp (E145_1 L N) (evCallI (E145_1 L N) 1 2000) 1000 145 34 0 f145_1.c0 κ n (f145_1.T0 s0 s1 s2 s3 s4) (f145_1.H0 s0 s1 s2 s3 s4)
    = f145_1.l0 L N (f145_1.X0_e0 κ) n s0 s1 s2 s3 s4 := by
  intro n
  induction n with
  | zero => intros; rfl
  | succ n ih =>
    intro s0 s1 s2 s3 s4
    rw [evLp_succ, f145_1.s0_eq]
    delta f145_1.R0
    simp only [ih]
    rfl
theorem f145_1.p0_e0_eq {R : Type} (L N : Nat) (κ : AV → Option R) (z5 : LM) :
    (contAt (E145_1 L N) (evCallI (E145_1 L N) 1 2000) 1000 145 34 0 (codeOf Try.f145) (finK (E145_1 L N) 1000 Try.f145 (finC (.one (.sl (.st 0))) κ))) (.exit 0) (f145_1.T0_e0 z5) (f145_1.H0_e0 z5)
    = f145_1.p0_e0 L N (fun a0 => κ (.tv (.sl (.st 0)) a0)) z5 := by kernel_rfl
theorem f145_1.b_eq {R : Type} (L N : Nat) (κ : AV → Option R) (x0 : LI) (x1 : Int) (x2 : LLM) :
    evBody (E145_1 L N) (evCallI (E145_1 L N) 1 2000) 1000 145 Try.f145 [(.tv (.sl i64) x0), (.tv i64 x1), (.imp (.sl (.sl (.st 0))) x2 0)] [] [] (finC (.one (.sl (.st 0))) κ)
    = f145_1.b L N (fun a0 => κ (.tv (.sl (.st 0)) a0)) x0 x1 x2 := by
  refine Eq.trans (b := f145_1.b' L N (fun a0 => κ (.tv (.sl (.st 0)) a0)) (fun s0 s1 s2 s3 s4 => evLp (E145_1 L N) (evCallI (E145_1 L N) 1 2000) 1000 145 34 0 f145_1.c0 (contAt (E145_1 L N) (evCallI (E145_1 L N) 1 2000) 1000 145 34 0 (codeOf Try.f145) (finK (E145_1 L N) 1000 Try.f145 (finC (.one (.sl (.st 0))) κ))) L (f145_1.T0 s0 s1 s2 s3 s4) (f145_1.H0 s0 s1 s2 s3 s4)) x0 x1 x2) (by kernel_rfl) ?_
  unfold f145_1.b
  simp only [f145_1.l0_eq]
  delta f145_1.X0_e0
  simp only [f145_1.p0_e0_eq]
theorem f145_1.ok (L N : Nat) (hΦ : TellsOk Try.prog ((Φ41 L N))) : EntOkO Try.prog 145 (f145_1.ent L N) := entDf_ok (E := (E145_1 L N)) (dep := 1000) (f := Try.f145) (sound_of hΦ) okP (callI_sound (sound_of hΦ) okP 1 2000) rfl fun d _ hy => (f145_1.b_eq L N (unR (.one (.sl (.st 0)))) d.1 d.2.1 d.2.2.1).trans (Eq.trans (b := f145_1.b L N some d.1 d.2.1 d.2.2.1) (by kernel_rfl) hy)
def Φ145_1 (L N : Nat) : Tells := (addO (Φ41 L N) 145 (f145_1.ent L N))
theorem Φ145_1_ok (L N : Nat) : TellsOk Try.prog (Φ145_1 L N) := addO_ok (Φ41_ok L N) (f145_1.ok L N (Φ41_ok L N))
def f118_2.b' {R : Type} (L N : Nat) (k : LM → Option R) (x0 : Int) (x1 : LLM) (x2 : LI) : Option R :=
  (f145_1 L N x2 x0 x1).bind fun y0 =>
  k y0
def f118_2.b {R : Type} (L N : Nat) (k : LM → Option R) (x0 : Int) (x1 : LLM) (x2 : LI) : Option R :=
  f118_2.b' L N k x0 x1 x2
def f118_2 (L N : Nat) (x0 : Int) (x1 : LLM) (x2 : LI) : Option (LM) := f118_2.b L N some x0 x1 x2
def f118_2.ent (L N : Nat) := entDf [(.dat i64), (.pfn 145 [(.imp (.sl (.sl (.st 0))) 0)]), (.imp (.sl i64) 0)] (.one (.sl (.st 0))) fun d => f118_2 L N d.1 d.2.1.1 d.2.2.1
noncomputable def E118_2 (L N : Nat) : Env := { P := Try.prog, ty := tyOf, Φ := (Φ145_1 L N), inl := inlT, live := lives, liveX := livesX, L := L, dp := none, prom := promT, heal := healT, ren := renT }
theorem f118_2.b_eq {R : Type} (L N : Nat) (κ : AV → Option R) (x0 : Int) (x1 : LLM) (x2 : LI) :
    evBody (E118_2 L N) (evCallI (E118_2 L N) 1 2000) 1000 118 Try.f118 [(.tv i64 x0), (.imf 145 [(.imp (.sl (.sl (.st 0))) x1 0)]), (.imp (.sl i64) x2 0)] [] [] (finC (.one (.sl (.st 0))) κ)
    = f118_2.b L N (fun a0 => κ (.tv (.sl (.st 0)) a0)) x0 x1 x2 := by kernel_rfl
theorem f118_2.ok (L N : Nat) (hΦ : TellsOk Try.prog ((Φ145_1 L N))) : EntOkO Try.prog 118 (f118_2.ent L N) := entDf_ok (E := (E118_2 L N)) (dep := 1000) (f := Try.f118) (sound_of hΦ) okP (callI_sound (sound_of hΦ) okP 1 2000) rfl fun d _ hy => (f118_2.b_eq L N (unR (.one (.sl (.st 0)))) d.1 d.2.1.1 d.2.2.1).trans (Eq.trans (b := f118_2.b L N some d.1 d.2.1.1 d.2.2.1) (by kernel_rfl) hy)
def Φ118_2 (L N : Nat) : Tells := (addO (Φ145_1 L N) 118 (f118_2.ent L N))
theorem Φ118_2_ok (L N : Nat) : TellsOk Try.prog (Φ118_2 L N) := addO_ok (Φ145_1_ok L N) (f118_2.ok L N (Φ145_1_ok L N))
def f117_2.j0' {R : Type} (L N : Nat) (k1_e2 : LI → LLM → LI → Int → Int → LI → LLM → Option R) (rec1 : LI → LLM → LI → Int → Int → Int → Int → LI → LLM → Option R) (v26 : LI) (v27 : LLM) (v28 : LI) (v29 : Int) (v30 : Int) (v31 : Int) (v32 : Int) (v33 : Bool) (v34 : LI) (v35 : LLM) : Option R :=
  bif v33 then
    bif (decide (0 ≤ v29) && decide (v29 < (v34.length : Int))) then
      k1_e2 v26 v27 v28 v31 v32 (v34.set v29.toNat v30) v35
    else none
  else rec1 v26 v27 v28 v29 (wi (v30 + (1 : Int))) v31 v32 v34 v35
def f117_2.s1' {R : Type} (L N : Nat) (k1_e2 : LI → LLM → LI → Int → Int → LI → LLM → Option R) (rec1 : LI → LLM → LI → Int → Int → Int → Int → LI → LLM → Option R) (s9 : LI) (s10 : LLM) (s11 : LI) (s12 : Int) (s13 : Int) (s14 : Int) (s15 : Int) (s16 : LI) (s17 : LLM) : Option R :=
  bif (decide (s13 < s12)) then
    bif (decide (0 ≤ s13) && decide (s13 < (s9.length : Int))) then
      bif (decide (0 ≤ s12) && decide (s12 < (s9.length : Int))) then
        bif ((listAt s9 (0 : Int) s13.toNat) == (listAt s9 (0 : Int) s12.toNat)) then
          bif (decide (0 ≤ s13) && decide (s13 < (s17.length : Int))) then
            bif (decide (0 ≤ s12) && decide (s12 < (s17.length : Int))) then
              (f142 L N (listAt s17 [] s13.toNat) (listAt s17 [] s12.toNat)).bind fun y25 =>
              f117_2.j0' L N k1_e2 rec1 s9 s10 s11 s12 s13 s14 s15 y25 s16 s17
            else none
          else none
        else f117_2.j0' L N k1_e2 rec1 s9 s10 s11 s12 s13 s14 s15 false s16 s17
      else none
    else none
  else k1_e2 s9 s10 s11 s14 s15 s16 s17
def f117_2.s1 {R : Type} (L N : Nat) (k1_e2 : LI → LLM → LI → Int → Int → LI → LLM → Option R) (rec1 : LI → LLM → LI → Int → Int → Int → Int → LI → LLM → Option R) (s9 : LI) (s10 : LLM) (s11 : LI) (s12 : Int) (s13 : Int) (s14 : Int) (s15 : Int) (s16 : LI) (s17 : LLM) : Option R :=
  f117_2.s1' L N k1_e2 rec1 s9 s10 s11 s12 s13 s14 s15 s16 s17
def f117_2.l1 {R : Type} (L N : Nat) (k1_e2 : LI → LLM → LI → Int → Int → LI → LLM → Option R) : Nat → LI → LLM → LI → Int → Int → Int → Int → LI → LLM → Option R
  | 0, _, _, _, _, _, _, _, _, _ => none
  | n + 1, s9, s10, s11, s12, s13, s14, s15, s16, s17 => f117_2.s1 L N k1_e2 (f117_2.l1 L N k1_e2 n) s9 s10 s11 s12 s13 s14 s15 s16 s17
def f117_2.T1 (s9 : LI) (s10 : LLM) (s11 : LI) (s12 : Int) (s13 : Int) (s14 : Int) (s15 : Int) (s16 : LI) (s17 : LLM) : T := mkT 61 [(0, (.tv (.sl i64) s9)), (1, (.fn 118 [(.imf 145 [(.imp (.sl (.sl (.st 0))) s10 0)]), (.imp (.sl i64) s11 0)])), (5, (.row 1011)), (6, (.row 1014)), (7, (.tv i64 s12)), (8, (.tv i64 s13)), (16, (.tv i64 s14)), (17, (.tv i64 s15))]
def f117_2.H1 (s9 : LI) (s10 : LLM) (s11 : LI) (s12 : Int) (s13 : Int) (s14 : Int) (s15 : Int) (s16 : LI) (s17 : LLM) : H := [(1011, (.row 3 i64 s16)), (1014, (.row 51 (.sl (.st 0)) s17))]
def f117_2.T1_e2 (z18 : LI) (z19 : LLM) (z20 : LI) (z21 : Int) (z22 : Int) (z23 : LI) (z24 : LLM) : T := mkT 61 [(0, (.tv (.sl i64) z18)), (1, (.fn 118 [(.imf 145 [(.imp (.sl (.sl (.st 0))) z19 0)]), (.imp (.sl i64) z20 0)])), (5, (.row 1011)), (6, (.row 1014)), (16, (.tv i64 z21)), (17, (.tv i64 z22))]
def f117_2.H1_e2 (z18 : LI) (z19 : LLM) (z20 : LI) (z21 : Int) (z22 : Int) (z23 : LI) (z24 : LLM) : H := [(1011, (.row 3 i64 z23)), (1014, (.row 51 (.sl (.st 0)) z24))]
def f117_2.p1_e2' {R : Type} (L N : Nat) (k0_e0 : LI → Option R) (rec0 : LI → LLM → LI → Int → Int → LI → LLM → Option R) (z18 : LI) (z19 : LLM) (z20 : LI) (z21 : Int) (z22 : Int) (z23 : LI) (z24 : LLM) : Option R :=
  rec0 z18 z19 z20 z21 (wi (z22 + (1 : Int))) z23 z24
def f117_2.p1_e2 {R : Type} (L N : Nat) (k0_e0 : LI → Option R) (rec0 : LI → LLM → LI → Int → Int → LI → LLM → Option R) (z18 : LI) (z19 : LLM) (z20 : LI) (z21 : Int) (z22 : Int) (z23 : LI) (z24 : LLM) : Option R :=
  f117_2.p1_e2' L N k0_e0 rec0 z18 z19 z20 z21 z22 z23 z24
def f117_2.s0' {R : Type} (L N : Nat) (k0_e0 : LI → Option R) (rec0 : LI → LLM → LI → Int → Int → LI → LLM → Option R) (w1 : LI → LLM → LI → Int → Int → Int → Int → LI → LLM → Option R) (s0 : LI) (s1 : LLM) (s2 : LI) (s3 : Int) (s4 : Int) (s5 : LI) (s6 : LLM) : Option R :=
  bif (decide (s4 < s3)) then
    (f118_2 L N s4 s1 s2).bind fun y8 =>
    bif (decide (0 ≤ s4) && decide (s4 < (s6.length : Int))) then
      bif (decide (0 ≤ s4) && decide (s4 < (s5.length : Int))) then
        w1 s0 s1 s2 s4 (0 : Int) s3 s4 (s5.set s4.toNat s4) (s6.set s4.toNat y8)
      else none
    else none
  else k0_e0 s5
def f117_2.s0 {R : Type} (L N : Nat) (k0_e0 : LI → Option R) (rec0 : LI → LLM → LI → Int → Int → LI → LLM → Option R) (s0 : LI) (s1 : LLM) (s2 : LI) (s3 : Int) (s4 : Int) (s5 : LI) (s6 : LLM) : Option R :=
  f117_2.s0' L N k0_e0 rec0 (fun s9 s10 s11 s12 s13 s14 s15 s16 s17 => f117_2.l1 L N (fun z18 z19 z20 z21 z22 z23 z24 => f117_2.p1_e2 L N k0_e0 rec0 z18 z19 z20 z21 z22 z23 z24) L s9 s10 s11 s12 s13 s14 s15 s16 s17) s0 s1 s2 s3 s4 s5 s6
def f117_2.l0 {R : Type} (L N : Nat) (k0_e0 : LI → Option R) : Nat → LI → LLM → LI → Int → Int → LI → LLM → Option R
  | 0, _, _, _, _, _, _, _ => none
  | n + 1, s0, s1, s2, s3, s4, s5, s6 => f117_2.s0 L N k0_e0 (f117_2.l0 L N k0_e0 n) s0 s1 s2 s3 s4 s5 s6
def f117_2.T0 (s0 : LI) (s1 : LLM) (s2 : LI) (s3 : Int) (s4 : Int) (s5 : LI) (s6 : LLM) : T := mkT 61 [(0, (.tv (.sl i64) s0)), (1, (.fn 118 [(.imf 145 [(.imp (.sl (.sl (.st 0))) s1 0)]), (.imp (.sl i64) s2 0)])), (5, (.row 1011)), (6, (.row 1014)), (16, (.tv i64 s3)), (17, (.tv i64 s4))]
def f117_2.H0 (s0 : LI) (s1 : LLM) (s2 : LI) (s3 : Int) (s4 : Int) (s5 : LI) (s6 : LLM) : H := [(1011, (.row 3 i64 s5)), (1014, (.row 51 (.sl (.st 0)) s6))]
def f117_2.T0_e0 (z7 : LI) : T := mkT 61 [(5, (.row 1011))]
def f117_2.H0_e0 (z7 : LI) : H := [(1011, (.row 3 i64 z7))]
def f117_2.p0_e0' {R : Type} (L N : Nat) (k : LI → Option R) (z7 : LI) : Option R :=
  k z7
def f117_2.p0_e0 {R : Type} (L N : Nat) (k : LI → Option R) (z7 : LI) : Option R :=
  f117_2.p0_e0' L N k z7
def f117_2.b' {R : Type} (L N : Nat) (k : LI → Option R) (w0 : LI → LLM → LI → Int → Int → LI → LLM → Option R) (x0 : LI) (x1 : LLM) (x2 : LI) : Option R :=
  bif (decide (0 ≤ (x0.length : Int)) && decide ((x0.length : Int) ≤ (lim : Int))) then
    bif (decide (0 ≤ (x0.length : Int)) && decide ((x0.length : Int) ≤ (lim : Int))) then
      w0 x0 x1 x2 (x0.length : Int) (0 : Int) (List.replicate (x0.length : Int).toNat (0 : Int)) (List.replicate (x0.length : Int).toNat [])
    else none
  else none
def f117_2.b {R : Type} (L N : Nat) (k : LI → Option R) (x0 : LI) (x1 : LLM) (x2 : LI) : Option R :=
  f117_2.b' L N k (fun s0 s1 s2 s3 s4 s5 s6 => f117_2.l0 L N (fun z7 => f117_2.p0_e0 L N k z7) L s0 s1 s2 s3 s4 s5 s6) x0 x1 x2
def f117_2 (L N : Nat) (x0 : LI) (x1 : LLM) (x2 : LI) : Option (LI) := f117_2.b L N some x0 x1 x2
def f117_2.ent (L N : Nat) (args : List AV) (vw : View) (site : Nat) : Option Ans := match shD [(.dat (.sl i64)), (.fn 118 [(.pfn 145 [(.imp (.sl (.sl (.st 0))) 0)]), (.imp (.sl i64) 0)])] vw args with
  | some d => some ⟨LI, f117_2 L N d.1 d.2.1.1.1 d.2.1.2.1, fun y => (RN.av site .row (), [(site, some (mkO none 3 i64 y))], [])⟩
  | none => none
noncomputable def E117_2 (L N : Nat) : Env := { P := Try.prog, ty := tyOf, Φ := (Φ118_2 L N), inl := inlT, live := lives, liveX := livesX, L := L, dp := none, prom := promT, heal := healT, ren := renT }
noncomputable def f117_2.c0 : Code := loopAt 0 (codeOf Try.f117)
noncomputable def f117_2.c1 : Code := loopAt 2 f117_2.c0
def f117_2.X1_e2 {R : Type} (κ : KX R) := fun z18 z19 z20 z21 z22 z23 z24 => κ (.exit 2) (f117_2.T1_e2 z18 z19 z20 z21 z22 z23 z24) (f117_2.H1_e2 z18 z19 z20 z21 z22 z23 z24)
def f117_2.R1 {R : Type} (rec : KT R) := fun s9 s10 s11 s12 s13 s14 s15 s16 s17 => rec (f117_2.T1 s9 s10 s11 s12 s13 s14 s15 s16 s17) (f117_2.H1 s9 s10 s11 s12 s13 s14 s15 s16 s17)
theorem f117_2.s1_eq {R : Type} (L N : Nat) (κ : KX R) (rec : KT R) (s9 : LI) (s10 : LLM) (s11 : LI) (s12 : Int) (s13 : Int) (s14 : Int) (s15 : Int) (s16 : LI) (s17 : LLM) :
    evRd (E117_2 L N) (evCallI (E117_2 L N) 1 2000) 1000 117 61 2 f117_2.c1 κ rec (f117_2.T1 s9 s10 s11 s12 s13 s14 s15 s16 s17) (f117_2.H1 s9 s10 s11 s12 s13 s14 s15 s16 s17)
    = f117_2.s1 L N (f117_2.X1_e2 κ) (f117_2.R1 rec) s9 s10 s11 s12 s13 s14 s15 s16 s17 := by kernel_rfl
theorem f117_2.l1_eq {R : Type} (L N : Nat) (κ : KX R) : ∀ (n : Nat) (s9 : LI) (s10 : LLM) (s11 : LI) (s12 : Int) (s13 : Int) (s14 : Int) (s15 : Int) (s16 : LI) (s17 : LLM),
    evLp (E117_2 L N) (evCallI (E117_2 L N) 1 2000) 1000 117 61 2 f117_2.c1 κ n (f117_2.T1 s9 s10 s11 s12 s13 s14 s15 s16 s17) (f117_2.H1 s9 s10 s11 s12 s13 s14 s15 s16 s17)
    = f117_2.l1 L N (f117_2.X1_e2 κ) n s9 s10 s11 s12 s13 s14 s15 s16 s17 := by
  intro n
  induction n with
  | zero => intros; rfl
  | succ n ih =>
    intro s9 s10 s11 s12 s13 s14 s15 s16 s17
    rw [evLp_succ, f117_2.s1_eq]
    delta f117_2.R1
    simp only [ih]
    rfl
def f117_2.X0_e0 {R : Type} (κ : KX R) := fun z7 => κ (.exit 0) (f117_2.T0_e0 z7) (f117_2.H0_e0 z7)
def f117_2.R0 {R : Type} (rec : KT R) := fun s0 s1 s2 s3 s4 s5 s6 => rec (f117_2.T0 s0 s1 s2 s3 s4 s5 s6) (f117_2.H0 s0 s1 s2 s3 s4 s5 s6)
theorem f117_2.p1_e2_eq {R : Type} (L N : Nat) (κ : KX R) (rec : KT R) (z18 : LI) (z19 : LLM) (z20 : LI) (z21 : Int) (z22 : Int) (z23 : LI) (z24 : LLM) :
    (contAt (E117_2 L N) (evCallI (E117_2 L N) 1 2000) 1000 117 61 2 f117_2.c0 (rdK (E117_2 L N) 1000 117 61 0 κ rec)) (.exit 2) (f117_2.T1_e2 z18 z19 z20 z21 z22 z23 z24) (f117_2.H1_e2 z18 z19 z20 z21 z22 z23 z24)
    = f117_2.p1_e2 L N (f117_2.X0_e0 κ) (f117_2.R0 rec) z18 z19 z20 z21 z22 z23 z24 := by kernel_rfl
theorem f117_2.s0_eq {R : Type} (L N : Nat) (κ : KX R) (rec : KT R) (s0 : LI) (s1 : LLM) (s2 : LI) (s3 : Int) (s4 : Int) (s5 : LI) (s6 : LLM) :
    evRd (E117_2 L N) (evCallI (E117_2 L N) 1 2000) 1000 117 61 0 f117_2.c0 κ rec (f117_2.T0 s0 s1 s2 s3 s4 s5 s6) (f117_2.H0 s0 s1 s2 s3 s4 s5 s6)
    = f117_2.s0 L N (f117_2.X0_e0 κ) (f117_2.R0 rec) s0 s1 s2 s3 s4 s5 s6 := by
  refine Eq.trans (b := f117_2.s0' L N (f117_2.X0_e0 κ) (f117_2.R0 rec) (fun s9 s10 s11 s12 s13 s14 s15 s16 s17 => evLp (E117_2 L N) (evCallI (E117_2 L N) 1 2000) 1000 117 61 2 f117_2.c1 (contAt (E117_2 L N) (evCallI (E117_2 L N) 1 2000) 1000 117 61 2 f117_2.c0 (rdK (E117_2 L N) 1000 117 61 0 κ rec)) L (f117_2.T1 s9 s10 s11 s12 s13 s14 s15 s16 s17) (f117_2.H1 s9 s10 s11 s12 s13 s14 s15 s16 s17)) s0 s1 s2 s3 s4 s5 s6) (by kernel_rfl) ?_
  unfold f117_2.s0
  simp only [f117_2.l1_eq]
  delta f117_2.X1_e2
  simp only [f117_2.p1_e2_eq]
theorem f117_2.l0_eq {R : Type} (L N : Nat) (κ : KX R) : ∀ (n : Nat) (s0 : LI) (s1 : LLM) (s2 : LI) (s3 : Int) (s4 : Int) (s5 : LI) (s6 : LLM),
    evLp (E117_2 L N) (evCallI (E117_2 L N) 1 2000) 1000 117 61 0 f117_2.c0 κ n (f117_2.T0 s0 s1 s2 s3 s4 s5 s6) (f117_2.H0 s0 s1 s2 s3 s4 s5 s6)
    = f117_2.l0 L N (f117_2.X0_e0 κ) n s0 s1 s2 s3 s4 s5 s6 := by
  intro n
  induction n with
  | zero => intros; rfl
  | succ n ih =>
    intro s0 s1 s2 s3 s4 s5 s6
    rw [evLp_succ, f117_2.s0_eq]
    delta f117_2.R0
    simp only [ih]
    rfl
theorem f117_2.p0_e0_eq {R : Type} (L N : Nat) (κ : RN.Den .row → List Int → Option R) (z7 : LI) :
    (contAt (E117_2 L N) (evCallI (E117_2 L N) 1 2000) 1000 117 61 0 (codeOf Try.f117) (finK (E117_2 L N) 1000 Try.f117 (finN .row none 3 i64 κ))) (.exit 0) (f117_2.T0_e0 z7) (f117_2.H0_e0 z7)
    = f117_2.p0_e0 L N (fun a0 => κ () a0) z7 := by kernel_rfl
theorem f117_2.b_eq {R : Type} (L N : Nat) (κ : RN.Den .row → List Int → Option R) (x0 : LI) (x1 : LLM) (x2 : LI) :
    evBody (E117_2 L N) (evCallI (E117_2 L N) 1 2000) 1000 117 Try.f117 [(.tv (.sl i64) x0), (.fn 118 [(.imf 145 [(.imp (.sl (.sl (.st 0))) x1 0)]), (.imp (.sl i64) x2 0)])] [] [] (finN .row none 3 i64 κ)
    = f117_2.b L N (fun a0 => κ () a0) x0 x1 x2 := by
  refine Eq.trans (b := f117_2.b' L N (fun a0 => κ () a0) (fun s0 s1 s2 s3 s4 s5 s6 => evLp (E117_2 L N) (evCallI (E117_2 L N) 1 2000) 1000 117 61 0 f117_2.c0 (contAt (E117_2 L N) (evCallI (E117_2 L N) 1 2000) 1000 117 61 0 (codeOf Try.f117) (finK (E117_2 L N) 1000 Try.f117 (finN .row none 3 i64 κ))) L (f117_2.T0 s0 s1 s2 s3 s4 s5 s6) (f117_2.H0 s0 s1 s2 s3 s4 s5 s6)) x0 x1 x2) (by kernel_rfl) ?_
  unfold f117_2.b
  simp only [f117_2.l0_eq]
  delta f117_2.X0_e0
  simp only [f117_2.p0_e0_eq]
theorem f117_2.ok (L N : Nat) (hΦ : TellsOk Try.prog ((Φ118_2 L N))) : EntOkO Try.prog 117 (f117_2.ent L N) := by
  intro args vw site h a ha
  unfold f117_2.ent at ha
  split at ha
  · rename_i d hd
    obtain rfl := Option.some.inj ha
    intro y hy hs
    refine call_ronF (y := y) (dep := 1000) (E := (E117_2 L N)) (rn := .row) (q := none) (el := 3) (ty := i64) (d1 := ()) (xs := y) (κ := (fun d xs => some xs)) (sound_of hΦ) okP (callI_sound (sound_of hΦ) okP 1 2000) (f := Try.f117) rfl hs hd ?_ (fun _ _ h => by obtain rfl := Option.some.inj h; exact ⟨rfl, rfl⟩) rfl site
    exact (f117_2.b_eq L N (fun d xs => some xs) d.1 d.2.1.1.1 d.2.1.2.1).trans (Eq.trans (b := f117_2.b L N some d.1 d.2.1.1.1 d.2.1.2.1) (by kernel_rfl) hy)
  · cases ha
def Φ117_2 (L N : Nat) : Tells := (addO (Φ118_2 L N) 117 (f117_2.ent L N))
theorem Φ117_2_ok (L N : Nat) : TellsOk Try.prog (Φ117_2 L N) := addO_ok (Φ118_2_ok L N) (f117_2.ok L N (Φ118_2_ok L N))
def f81_2.s0' {R : Type} (L N : Nat) (k0_r : LLI → Option R) (rec0 : LLM → LLI → Option R) (s0 : LLM) (s1 : LLI) : Option R :=
  bif (decide (0 ≤ (wi ((s1.length : Int) - (1 : Int)))) && decide ((wi ((s1.length : Int) - (1 : Int))) < (s1.length : Int))) then
    (f117_2 L N (listAt s1 [] (wi ((s1.length : Int) - (1 : Int))).toNat) s0 (listAt s1 [] (wi ((s1.length : Int) - (1 : Int))).toNat)).bind fun y2 =>
    (f119 L N y2 (listAt s1 [] (wi ((s1.length : Int) - (1 : Int))).toNat)).bind fun y3 =>
    bif y3 then
      k0_r s1
    else bif (decide (s1.length + ([y2] : LLI).length ≤ lim)) then
      rec0 s0 (s1 ++ ([y2] : LLI))
    else none
  else none
def f81_2.s0 {R : Type} (L N : Nat) (k0_r : LLI → Option R) (rec0 : LLM → LLI → Option R) (s0 : LLM) (s1 : LLI) : Option R :=
  f81_2.s0' L N k0_r rec0 s0 s1
def f81_2.l0 {R : Type} (L N : Nat) (k0_r : LLI → Option R) : Nat → LLM → LLI → Option R
  | 0, _, _ => none
  | n + 1, s0, s1 => f81_2.s0 L N k0_r (f81_2.l0 L N k0_r n) s0 s1
def f81_2.T0 (s0 : LLM) (s1 : LLI) : T := mkT 28 [(3, (.ptr 1003 0)), (5, (.row 1010))]
def f81_2.H0 (s0 : LLM) (s1 : LLI) : H := [(1003, (.box [(.fn 145 [(.imp (.sl (.sl (.st 0))) s0 0)])])), (1010, (.row 30 (.sl i64) s1))]
def f81_2.T0_r (z4 : LLI) : T := mkT 28 [(4, (.row 1010))]
def f81_2.H0_r (z4 : LLI) : H := [(1010, (.row 30 (.sl i64) z4))]
def f81_2.p0_r' {R : Type} (L N : Nat) (k : LLI → Option R) (z4 : LLI) : Option R :=
  k z4
def f81_2.p0_r {R : Type} (L N : Nat) (k : LLI → Option R) (z4 : LLI) : Option R :=
  f81_2.p0_r' L N k z4
def f81_2.b' {R : Type} (L N : Nat) (k : LLI → Option R) (w0 : LLM → LLI → Option R) (x0 : Int) (x1 : LLM) : Option R :=
  bif (decide (0 ≤ x0) && decide (x0 ≤ (lim : Int))) then
    w0 x1 ([(List.replicate x0.toNat (0 : Int))] : LLI)
  else none
def f81_2.b {R : Type} (L N : Nat) (k : LLI → Option R) (x0 : Int) (x1 : LLM) : Option R :=
  f81_2.b' L N k (fun s0 s1 => f81_2.l0 L N (fun z4 => f81_2.p0_r L N k z4) L s0 s1) x0 x1
def f81_2 (L N : Nat) (x0 : Int) (x1 : LLM) : Option (LLI) := f81_2.b L N some x0 x1
def f81_2.ent (L N : Nat) := entDf [(.dat i64), (.fn 145 [(.imp (.sl (.sl (.st 0))) 0)])] (.one (.sl (.sl i64))) fun d => f81_2 L N d.1 d.2.1.1
noncomputable def E81_2 (L N : Nat) : Env := { P := Try.prog, ty := tyOf, Φ := (Φ117_2 L N), inl := inlT, live := lives, liveX := livesX, L := L, dp := none, prom := promT, heal := healT, ren := renT }
noncomputable def f81_2.c0 : Code := loopAt 0 (codeOf Try.f81)
def f81_2.X0_r {R : Type} (κ : KX R) := fun z4 => κ .ret (f81_2.T0_r z4) (f81_2.H0_r z4)
def f81_2.R0 {R : Type} (rec : KT R) := fun s0 s1 => rec (f81_2.T0 s0 s1) (f81_2.H0 s0 s1)
theorem f81_2.s0_eq {R : Type} (L N : Nat) (κ : KX R) (rec : KT R) (s0 : LLM) (s1 : LLI) :
    evRd (E81_2 L N) (evCallI (E81_2 L N) 1 2000) 1000 81 28 0 f81_2.c0 κ rec (f81_2.T0 s0 s1) (f81_2.H0 s0 s1)
    = f81_2.s0 L N (f81_2.X0_r κ) (f81_2.R0 rec) s0 s1 := by kernel_rfl
theorem f81_2.l0_eq {R : Type} (L N : Nat) (κ : KX R) : ∀ (n : Nat) (s0 : LLM) (s1 : LLI),
    evLp (E81_2 L N) (evCallI (E81_2 L N) 1 2000) 1000 81 28 0 f81_2.c0 κ n (f81_2.T0 s0 s1) (f81_2.H0 s0 s1)
    = f81_2.l0 L N (f81_2.X0_r κ) n s0 s1 := by
  intro n
  induction n with
  | zero => intros; rfl
  | succ n ih =>
    intro s0 s1
    rw [evLp_succ, f81_2.s0_eq]
    delta f81_2.R0
    simp only [ih]
    rfl
theorem f81_2.p0_r_eq {R : Type} (L N : Nat) (κ : AV → Option R) (z4 : LLI) :
    (contAt (E81_2 L N) (evCallI (E81_2 L N) 1 2000) 1000 81 28 0 (codeOf Try.f81) (finK (E81_2 L N) 1000 Try.f81 (finC (.one (.sl (.sl i64))) κ))) .ret (f81_2.T0_r z4) (f81_2.H0_r z4)
    = f81_2.p0_r L N (fun a0 => κ (.tv (.sl (.sl i64)) a0)) z4 := by kernel_rfl
theorem f81_2.b_eq {R : Type} (L N : Nat) (κ : AV → Option R) (x0 : Int) (x1 : LLM) :
    evBody (E81_2 L N) (evCallI (E81_2 L N) 1 2000) 1000 81 Try.f81 [(.tv i64 x0), (.fn 145 [(.imp (.sl (.sl (.st 0))) x1 0)])] [] [] (finC (.one (.sl (.sl i64))) κ)
    = f81_2.b L N (fun a0 => κ (.tv (.sl (.sl i64)) a0)) x0 x1 := by
  refine Eq.trans (b := f81_2.b' L N (fun a0 => κ (.tv (.sl (.sl i64)) a0)) (fun s0 s1 => evLp (E81_2 L N) (evCallI (E81_2 L N) 1 2000) 1000 81 28 0 f81_2.c0 (contAt (E81_2 L N) (evCallI (E81_2 L N) 1 2000) 1000 81 28 0 (codeOf Try.f81) (finK (E81_2 L N) 1000 Try.f81 (finC (.one (.sl (.sl i64))) κ))) L (f81_2.T0 s0 s1) (f81_2.H0 s0 s1)) x0 x1) (by kernel_rfl) ?_
  unfold f81_2.b
  simp only [f81_2.l0_eq]
  delta f81_2.X0_r
  simp only [f81_2.p0_r_eq]
theorem f81_2.ok (L N : Nat) (hΦ : TellsOk Try.prog ((Φ117_2 L N))) : EntOkO Try.prog 81 (f81_2.ent L N) := entDf_ok (E := (E81_2 L N)) (dep := 1000) (f := Try.f81) (sound_of hΦ) okP (callI_sound (sound_of hΦ) okP 1 2000) rfl fun d _ hy => (f81_2.b_eq L N (unR (.one (.sl (.sl i64)))) d.1 d.2.1.1).trans (Eq.trans (b := f81_2.b L N some d.1 d.2.1.1) (by kernel_rfl) hy)
def Φ81_2 (L N : Nat) : Tells := (addO (Φ117_2 L N) 81 (f81_2.ent L N))
theorem Φ81_2_ok (L N : Nat) : TellsOk Try.prog (Φ81_2 L N) := addO_ok (Φ117_2_ok L N) (f81_2.ok L N (Φ117_2_ok L N))
def f121.b' {R : Type} (L N : Nat) (k : LLI → Option R) (x0 : Graph) : Option R :=
  (f81_2 L N (x0.moves.length : Int) x0.moves).bind fun y0 =>
  k y0
def f121.b {R : Type} (L N : Nat) (k : LLI → Option R) (x0 : Graph) : Option R :=
  f121.b' L N k x0
def f121 (L N : Nat) (x0 : Graph) : Option (LLI) := f121.b L N some x0
def f121.ent (L N : Nat) := entDa [(.st 2)] (.one (.sl (.sl i64))) fun d => f121 L N d.1
noncomputable def E121 (L N : Nat) : Env := { P := Try.prog, ty := tyOf, Φ := (Φ81_2 L N), inl := inlT, live := lives, liveX := livesX, L := L, dp := none, prom := promT, heal := healT, ren := renT }
theorem f121.b_eq {R : Type} (L N : Nat) (κ : AV → Option R) (x0 : Graph) :
    evBody (E121 L N) (evCallI (E121 L N) 1 2000) 1000 121 Try.f121 [(.tv (.st 2) x0)] [] [] (finC (.one (.sl (.sl i64))) κ)
    = f121.b L N (fun a0 => κ (.tv (.sl (.sl i64)) a0)) x0 := by kernel_rfl
theorem f121.ok (L N : Nat) (hΦ : TellsOk Try.prog ((Φ81_2 L N))) : EntOk Try.prog 121 (f121.ent L N) := entDa_ok (E := (E121 L N)) (dep := 1000) (f := Try.f121) (sound_of hΦ) okP (callI_sound (sound_of hΦ) okP 1 2000) rfl fun d _ hy => (f121.b_eq L N (unR (.one (.sl (.sl i64)))) d.1).trans (Eq.trans (b := f121.b L N some d.1) (by kernel_rfl) hy)
def Φ121 (L N : Nat) : Tells := (addT (Φ81_2 L N) 121 (f121.ent L N))
theorem Φ121_ok (L N : Nat) : TellsOk Try.prog (Φ121 L N) := addT_ok (Φ81_2_ok L N) (f121.ok L N (Φ81_2_ok L N))
def f86.b' {R : Type} (L N : Nat) (k : LI → Option R) (x0 : Graph) : Option R :=
  (f121 L N (Graph.mk x0.moves)).bind fun y0 =>
  bif (decide (0 ≤ (wi ((y0.length : Int) - (1 : Int)))) && decide ((wi ((y0.length : Int) - (1 : Int))) < (y0.length : Int))) then
    ((fclone (listAt y0 [] (wi ((y0.length : Int) - (1 : Int))).toNat))).bind fun y1 =>
    k (listAt y0 [] (wi ((y0.length : Int) - (1 : Int))).toNat)
  else none
def f86.b {R : Type} (L N : Nat) (k : LI → Option R) (x0 : Graph) : Option R :=
  f86.b' L N k x0
def f86 (L N : Nat) (x0 : Graph) : Option (LI) := f86.b L N some x0
def f86.ent (L N : Nat) (args : List AV) (vw : View) (site : Nat) : Ans := match roD [(.st 2)] vw args with
  | some d => ⟨LI, f86 L N d.1, fun y => (RN.av site .row (), [(site, some (mkO none 3 i64 y))], [])⟩
  | none => Ans.no
noncomputable def E86 (L N : Nat) : Env := { P := Try.prog, ty := tyOf, Φ := (Φ121 L N), inl := inlT, live := lives, liveX := livesX, L := L, dp := none, prom := promT, heal := healT, ren := renT }
theorem f86.b_eq {R : Type} (L N : Nat) (κ : RN.Den .row → List Int → Option R) (x0 : Graph) :
    evBody (E86 L N) (evCallI (E86 L N) 1 2000) 1000 86 Try.f86 [(.tv (.st 2) x0)] [] [] (finN .row none 3 i64 κ)
    = f86.b L N (fun a0 => κ () a0) x0 := by kernel_rfl
theorem f86.ok (L N : Nat) (hΦ : TellsOk Try.prog ((Φ121 L N))) : EntOk Try.prog 86 (f86.ent L N) := by
  intro args vw site h
  unfold f86.ent
  split
  · rename_i d ha
    intro y hy hs
    refine call_ron (y := y) (dep := 1000) (E := (E86 L N)) (ts := [(.st 2)]) (rn := .row) (q := none) (el := 3) (ty := i64) (d1 := ()) (xs := y) (κ := (fun d xs => some xs)) (sound_of hΦ) okP (callI_sound (sound_of hΦ) okP 1 2000) (f := Try.f86) rfl hs ha ?_ (fun _ _ h => by obtain rfl := Option.some.inj h; exact ⟨rfl, rfl⟩) rfl site
    exact (f86.b_eq L N (fun d xs => some xs) d.1).trans (Eq.trans (b := f86.b L N some d.1) (by kernel_rfl) hy)
  · intro y hy
    cases hy
def Φ86 (L N : Nat) : Tells := (addT (Φ121 L N) 86 (f86.ent L N))
theorem Φ86_ok (L N : Nat) : TellsOk Try.prog (Φ86 L N) := addT_ok (Φ121_ok L N) (f86.ok L N (Φ121_ok L N))
def f44.b' {R : Type} (L N : Nat) (k : LI → Option R) (x0 : Graph) : Option R :=
  (f32 L N (Graph.mk x0.moves)).bind fun y0 =>
  bif (!y0) then
    k []
  else (f86 L N (Graph.mk x0.moves)).bind fun y1 =>
  k y1
def f44.b {R : Type} (L N : Nat) (k : LI → Option R) (x0 : Graph) : Option R :=
  f44.b' L N k x0
def f44 (L N : Nat) (x0 : Graph) : Option (LI) := f44.b L N some x0
def f44.ent (L N : Nat) (args : List AV) (vw : View) (site : Nat) : Ans := match roD [(.st 2)] vw args with
  | some d => ⟨LI, f44 L N d.1, fun y => (RN.av site .row (), [(site, some (mkO none 3 i64 y))], [])⟩
  | none => Ans.no
noncomputable def E44 (L N : Nat) : Env := { P := Try.prog, ty := tyOf, Φ := (Φ86 L N), inl := inlT, live := lives, liveX := livesX, L := L, dp := none, prom := promT, heal := healT, ren := renT }
theorem f44.b_eq {R : Type} (L N : Nat) (κ : RN.Den .row → List Int → Option R) (x0 : Graph) :
    evBody (E44 L N) (evCallI (E44 L N) 1 2000) 1000 44 Try.f44 [(.tv (.st 2) x0)] [] [] (finN .row none 3 i64 κ)
    = f44.b L N (fun a0 => κ () a0) x0 := by kernel_rfl
theorem f44.ok (L N : Nat) (hΦ : TellsOk Try.prog ((Φ86 L N))) : EntOk Try.prog 44 (f44.ent L N) := by
  intro args vw site h
  unfold f44.ent
  split
  · rename_i d ha
    intro y hy hs
    refine call_ron (y := y) (dep := 1000) (E := (E44 L N)) (ts := [(.st 2)]) (rn := .row) (q := none) (el := 3) (ty := i64) (d1 := ()) (xs := y) (κ := (fun d xs => some xs)) (sound_of hΦ) okP (callI_sound (sound_of hΦ) okP 1 2000) (f := Try.f44) rfl hs ha ?_ (fun _ _ h => by obtain rfl := Option.some.inj h; exact ⟨rfl, rfl⟩) rfl site
    exact (f44.b_eq L N (fun d xs => some xs) d.1).trans (Eq.trans (b := f44.b L N some d.1) (by kernel_rfl) hy)
  · intro y hy
    cases hy
def Φ44 (L N : Nat) : Tells := (addT (Φ86 L N) 44 (f44.ent L N))
theorem Φ44_ok (L N : Nat) : TellsOk Try.prog (Φ44 L N) := addT_ok (Φ86_ok L N) (f44.ok L N (Φ86_ok L N))
def f45.s1' {R : Type} (L N : Nat) (k1_e2 : LI → LI → Int → Option R) (k1_r : LI → LI → Bool → Int → Option R) (rec1 : LI → LI → Int → Int → Option R) (s3 : LI) (s4 : LI) (s5 : Int) (s6 : Int) : Option R :=
  bif (decide (s6 < s5)) then
    bif (decide (0 ≤ s5) && decide (s5 < (s3.length : Int))) then
      bif (decide (0 ≤ s6) && decide (s6 < (s3.length : Int))) then
        bif ((listAt s3 (0 : Int) s5.toNat) == (listAt s3 (0 : Int) s6.toNat)) then
          bif (decide (0 ≤ s5) && decide (s5 < (s4.length : Int))) then
            bif (decide (0 ≤ s6) && decide (s6 < (s4.length : Int))) then
              bif ((listAt s4 (0 : Int) s5.toNat) != (listAt s4 (0 : Int) s6.toNat)) then
                k1_r s3 s4 false s5
              else rec1 s3 s4 s5 (wi (s6 + (1 : Int)))
            else none
          else none
        else rec1 s3 s4 s5 (wi (s6 + (1 : Int)))
      else none
    else none
  else k1_e2 s3 s4 s5
def f45.s1 {R : Type} (L N : Nat) (k1_e2 : LI → LI → Int → Option R) (k1_r : LI → LI → Bool → Int → Option R) (rec1 : LI → LI → Int → Int → Option R) (s3 : LI) (s4 : LI) (s5 : Int) (s6 : Int) : Option R :=
  f45.s1' L N k1_e2 k1_r rec1 s3 s4 s5 s6
def f45.l1 {R : Type} (L N : Nat) (k1_e2 : LI → LI → Int → Option R) (k1_r : LI → LI → Bool → Int → Option R) : Nat → LI → LI → Int → Int → Option R
  | 0, _, _, _, _ => none
  | n + 1, s3, s4, s5, s6 => f45.s1 L N k1_e2 k1_r (f45.l1 L N k1_e2 k1_r n) s3 s4 s5 s6
def f45.T1 (s3 : LI) (s4 : LI) (s5 : Int) (s6 : Int) : T := mkT 43 [(0, (.tv (.sl i64) s3)), (1, (.tv (.sl i64) s4)), (5, (.tv i64 s5)), (6, (.tv i64 s6))]
def f45.H1 (s3 : LI) (s4 : LI) (s5 : Int) (s6 : Int) : H := []
def f45.T1_e2 (z7 : LI) (z8 : LI) (z9 : Int) : T := mkT 43 [(0, (.tv (.sl i64) z7)), (1, (.tv (.sl i64) z8)), (5, (.tv i64 z9))]
def f45.H1_e2 (z7 : LI) (z8 : LI) (z9 : Int) : H := []
def f45.T1_r (z15 : LI) (z16 : LI) (z17 : Bool) (z18 : Int) : T := mkT 43 [(0, (.tv (.sl i64) z15)), (1, (.tv (.sl i64) z16)), (4, (.tv .bool z17)), (5, (.tv i64 z18))]
def f45.H1_r (z15 : LI) (z16 : LI) (z17 : Bool) (z18 : Int) : H := []
def f45.p1_e2' {R : Type} (L N : Nat) (k0_e0 : Option R) (k0_r : Bool → Option R) (rec0 : LI → LI → Int → Option R) (z7 : LI) (z8 : LI) (z9 : Int) : Option R :=
  rec0 z7 z8 (wi (z9 + (1 : Int)))
def f45.p1_e2 {R : Type} (L N : Nat) (k0_e0 : Option R) (k0_r : Bool → Option R) (rec0 : LI → LI → Int → Option R) (z7 : LI) (z8 : LI) (z9 : Int) : Option R :=
  f45.p1_e2' L N k0_e0 k0_r rec0 z7 z8 z9
def f45.p1_r' {R : Type} (L N : Nat) (k0_e0 : Option R) (k0_r : Bool → Option R) (rec0 : LI → LI → Int → Option R) (z15 : LI) (z16 : LI) (z17 : Bool) (z18 : Int) : Option R :=
  k0_r z17
def f45.p1_r {R : Type} (L N : Nat) (k0_e0 : Option R) (k0_r : Bool → Option R) (rec0 : LI → LI → Int → Option R) (z15 : LI) (z16 : LI) (z17 : Bool) (z18 : Int) : Option R :=
  f45.p1_r' L N k0_e0 k0_r rec0 z15 z16 z17 z18
def f45.s0' {R : Type} (L N : Nat) (k0_e0 : Option R) (k0_r : Bool → Option R) (rec0 : LI → LI → Int → Option R) (w1 : LI → LI → Int → Int → Option R) (s0 : LI) (s1 : LI) (s2 : Int) : Option R :=
  bif (decide (s2 < (s0.length : Int))) then
    w1 s0 s1 s2 (0 : Int)
  else k0_e0
def f45.s0 {R : Type} (L N : Nat) (k0_e0 : Option R) (k0_r : Bool → Option R) (rec0 : LI → LI → Int → Option R) (s0 : LI) (s1 : LI) (s2 : Int) : Option R :=
  f45.s0' L N k0_e0 k0_r rec0 (fun s3 s4 s5 s6 => f45.l1 L N (fun z7 z8 z9 => f45.p1_e2 L N k0_e0 k0_r rec0 z7 z8 z9) (fun z15 z16 z17 z18 => f45.p1_r L N k0_e0 k0_r rec0 z15 z16 z17 z18) L s3 s4 s5 s6) s0 s1 s2
def f45.l0 {R : Type} (L N : Nat) (k0_e0 : Option R) (k0_r : Bool → Option R) : Nat → LI → LI → Int → Option R
  | 0, _, _, _ => none
  | n + 1, s0, s1, s2 => f45.s0 L N k0_e0 k0_r (f45.l0 L N k0_e0 k0_r n) s0 s1 s2
def f45.T0 (s0 : LI) (s1 : LI) (s2 : Int) : T := mkT 43 [(0, (.tv (.sl i64) s0)), (1, (.tv (.sl i64) s1)), (5, (.tv i64 s2))]
def f45.H0 (s0 : LI) (s1 : LI) (s2 : Int) : H := []
def f45.T0_e0 : T := mkT 43 []
def f45.H0_e0 : H := []
def f45.T0_r (z23 : Bool) : T := mkT 43 [(4, (.tv .bool z23))]
def f45.H0_r (z23 : Bool) : H := []
def f45.p0_e0' {R : Type} (L N : Nat) (k : Bool → Option R) : Option R :=
  k true
def f45.p0_e0 {R : Type} (L N : Nat) (k : Bool → Option R) : Option R :=
  f45.p0_e0' L N k
def f45.p0_r' {R : Type} (L N : Nat) (k : Bool → Option R) (z23 : Bool) : Option R :=
  k z23
def f45.p0_r {R : Type} (L N : Nat) (k : Bool → Option R) (z23 : Bool) : Option R :=
  f45.p0_r' L N k z23
def f45.b' {R : Type} (L N : Nat) (k : Bool → Option R) (w0 : LI → LI → Int → Option R) (x0 : LI) (x1 : LI) : Option R :=
  bif ((x0.length : Int) != (x1.length : Int)) then
    k false
  else w0 x0 x1 (0 : Int)
def f45.b {R : Type} (L N : Nat) (k : Bool → Option R) (x0 : LI) (x1 : LI) : Option R :=
  f45.b' L N k (fun s0 s1 s2 => f45.l0 L N (f45.p0_e0 L N k) (fun z23 => f45.p0_r L N k z23) L s0 s1 s2) x0 x1
def f45 (L N : Nat) (x0 : LI) (x1 : LI) : Option (Bool) := f45.b L N some x0 x1
def f45.ent (L N : Nat) := entRo [(.sl i64), (.sl i64)] (.one .bool) fun d => f45 L N d.1 d.2.1
noncomputable def E45 (L N : Nat) : Env := { P := Try.prog, ty := tyOf, Φ := (Φ44 L N), inl := inlT, live := lives, liveX := livesX, L := L, dp := none, prom := promT, heal := healT, ren := renT }
noncomputable def f45.c0 : Code := loopAt 0 (codeOf Try.f45)
noncomputable def f45.c1 : Code := loopAt 2 f45.c0
def f45.X1_e2 {R : Type} (κ : KX R) := fun z7 z8 z9 => κ (.exit 2) (f45.T1_e2 z7 z8 z9) (f45.H1_e2 z7 z8 z9)
def f45.X1_r {R : Type} (κ : KX R) := fun z15 z16 z17 z18 => κ .ret (f45.T1_r z15 z16 z17 z18) (f45.H1_r z15 z16 z17 z18)
def f45.R1 {R : Type} (rec : KT R) := fun s3 s4 s5 s6 => rec (f45.T1 s3 s4 s5 s6) (f45.H1 s3 s4 s5 s6)
theorem f45.s1_eq {R : Type} (L N : Nat) (κ : KX R) (rec : KT R) (s3 : LI) (s4 : LI) (s5 : Int) (s6 : Int) :
    evRd (E45 L N) (evCallI (E45 L N) 1 2000) 1000 45 43 2 f45.c1 κ rec (f45.T1 s3 s4 s5 s6) (f45.H1 s3 s4 s5 s6)
    = f45.s1 L N (f45.X1_e2 κ) (f45.X1_r κ) (f45.R1 rec) s3 s4 s5 s6 := by kernel_rfl
theorem f45.l1_eq {R : Type} (L N : Nat) (κ : KX R) : ∀ (n : Nat) (s3 : LI) (s4 : LI) (s5 : Int) (s6 : Int),
    evLp (E45 L N) (evCallI (E45 L N) 1 2000) 1000 45 43 2 f45.c1 κ n (f45.T1 s3 s4 s5 s6) (f45.H1 s3 s4 s5 s6)
    = f45.l1 L N (f45.X1_e2 κ) (f45.X1_r κ) n s3 s4 s5 s6 := by
  intro n
  induction n with
  | zero => intros; rfl
  | succ n ih =>
    intro s3 s4 s5 s6
    rw [evLp_succ, f45.s1_eq]
    delta f45.R1
    simp only [ih]
    rfl
def f45.X0_e0 {R : Type} (κ : KX R) := κ (.exit 0) f45.T0_e0 f45.H0_e0
def f45.X0_r {R : Type} (κ : KX R) := fun z23 => κ .ret (f45.T0_r z23) (f45.H0_r z23)
def f45.R0 {R : Type} (rec : KT R) := fun s0 s1 s2 => rec (f45.T0 s0 s1 s2) (f45.H0 s0 s1 s2)
theorem f45.p1_e2_eq {R : Type} (L N : Nat) (κ : KX R) (rec : KT R) (z7 : LI) (z8 : LI) (z9 : Int) :
    (contAt (E45 L N) (evCallI (E45 L N) 1 2000) 1000 45 43 2 f45.c0 (rdK (E45 L N) 1000 45 43 0 κ rec)) (.exit 2) (f45.T1_e2 z7 z8 z9) (f45.H1_e2 z7 z8 z9)
    = f45.p1_e2 L N (f45.X0_e0 κ) (f45.X0_r κ) (f45.R0 rec) z7 z8 z9 := by kernel_rfl
theorem f45.p1_r_eq {R : Type} (L N : Nat) (κ : KX R) (rec : KT R) (z15 : LI) (z16 : LI) (z17 : Bool) (z18 : Int) :
    (contAt (E45 L N) (evCallI (E45 L N) 1 2000) 1000 45 43 2 f45.c0 (rdK (E45 L N) 1000 45 43 0 κ rec)) .ret (f45.T1_r z15 z16 z17 z18) (f45.H1_r z15 z16 z17 z18)
    = f45.p1_r L N (f45.X0_e0 κ) (f45.X0_r κ) (f45.R0 rec) z15 z16 z17 z18 := by kernel_rfl
theorem f45.s0_eq {R : Type} (L N : Nat) (κ : KX R) (rec : KT R) (s0 : LI) (s1 : LI) (s2 : Int) :
    evRd (E45 L N) (evCallI (E45 L N) 1 2000) 1000 45 43 0 f45.c0 κ rec (f45.T0 s0 s1 s2) (f45.H0 s0 s1 s2)
    = f45.s0 L N (f45.X0_e0 κ) (f45.X0_r κ) (f45.R0 rec) s0 s1 s2 := by
  refine Eq.trans (b := f45.s0' L N (f45.X0_e0 κ) (f45.X0_r κ) (f45.R0 rec) (fun s3 s4 s5 s6 => evLp (E45 L N) (evCallI (E45 L N) 1 2000) 1000 45 43 2 f45.c1 (contAt (E45 L N) (evCallI (E45 L N) 1 2000) 1000 45 43 2 f45.c0 (rdK (E45 L N) 1000 45 43 0 κ rec)) L (f45.T1 s3 s4 s5 s6) (f45.H1 s3 s4 s5 s6)) s0 s1 s2) (by kernel_rfl) ?_
  unfold f45.s0
  simp only [f45.l1_eq]
  delta f45.X1_e2 f45.X1_r
  simp only [f45.p1_e2_eq, f45.p1_r_eq]
theorem f45.l0_eq {R : Type} (L N : Nat) (κ : KX R) : ∀ (n : Nat) (s0 : LI) (s1 : LI) (s2 : Int),
    evLp (E45 L N) (evCallI (E45 L N) 1 2000) 1000 45 43 0 f45.c0 κ n (f45.T0 s0 s1 s2) (f45.H0 s0 s1 s2)
    = f45.l0 L N (f45.X0_e0 κ) (f45.X0_r κ) n s0 s1 s2 := by
  intro n
  induction n with
  | zero => intros; rfl
  | succ n ih =>
    intro s0 s1 s2
    rw [evLp_succ, f45.s0_eq]
    delta f45.R0
    simp only [ih]
    rfl
theorem f45.p0_e0_eq {R : Type} (L N : Nat) (κ : AV → Option R) :
    (contAt (E45 L N) (evCallI (E45 L N) 1 2000) 1000 45 43 0 (codeOf Try.f45) (finK (E45 L N) 1000 Try.f45 (finC (.one .bool) κ))) (.exit 0) f45.T0_e0 f45.H0_e0
    = f45.p0_e0 L N (fun a0 => κ (.tv .bool a0)) := by kernel_rfl
theorem f45.p0_r_eq {R : Type} (L N : Nat) (κ : AV → Option R) (z23 : Bool) :
    (contAt (E45 L N) (evCallI (E45 L N) 1 2000) 1000 45 43 0 (codeOf Try.f45) (finK (E45 L N) 1000 Try.f45 (finC (.one .bool) κ))) .ret (f45.T0_r z23) (f45.H0_r z23)
    = f45.p0_r L N (fun a0 => κ (.tv .bool a0)) z23 := by kernel_rfl
theorem f45.b_eq {R : Type} (L N : Nat) (κ : AV → Option R) (x0 : LI) (x1 : LI) :
    evBody (E45 L N) (evCallI (E45 L N) 1 2000) 1000 45 Try.f45 [(.tv (.sl i64) x0), (.tv (.sl i64) x1)] [] [] (finC (.one .bool) κ)
    = f45.b L N (fun a0 => κ (.tv .bool a0)) x0 x1 := by
  refine Eq.trans (b := f45.b' L N (fun a0 => κ (.tv .bool a0)) (fun s0 s1 s2 => evLp (E45 L N) (evCallI (E45 L N) 1 2000) 1000 45 43 0 f45.c0 (contAt (E45 L N) (evCallI (E45 L N) 1 2000) 1000 45 43 0 (codeOf Try.f45) (finK (E45 L N) 1000 Try.f45 (finC (.one .bool) κ))) L (f45.T0 s0 s1 s2) (f45.H0 s0 s1 s2)) x0 x1) (by kernel_rfl) ?_
  unfold f45.b
  simp only [f45.l0_eq]
  delta f45.X0_e0 f45.X0_r
  simp only [f45.p0_e0_eq, f45.p0_r_eq]
theorem f45.ok (L N : Nat) (hΦ : TellsOk Try.prog ((Φ44 L N))) : EntOk Try.prog 45 (f45.ent L N) := entRo_ok (E := (E45 L N)) (dep := 1000) (f := Try.f45) (sound_of hΦ) okP (callI_sound (sound_of hΦ) okP 1 2000) rfl rfl fun d _ hy => (f45.b_eq L N (unR (.one .bool)) d.1 d.2.1).trans (Eq.trans (b := f45.b L N some d.1 d.2.1) (by kernel_rfl) hy)
def Φ45 (L N : Nat) : Tells := (addT (Φ44 L N) 45 (f45.ent L N))
theorem Φ45_ok (L N : Nat) : TellsOk Try.prog (Φ45 L N) := addT_ok (Φ44_ok L N) (f45.ok L N (Φ44_ok L N))
def f112.s0' {R : Type} (L N : Nat) (k0_e0 : LLM → LB → LI → Option R) (rec0 : LI → Int → Int → LLM → LB → LI → Option R) (s0 : LI) (s1 : Int) (s2 : Int) (s3 : LLM) (s4 : LB) (s5 : LI) : Option R :=
  bif (decide (s2 < s1)) then
    bif (decide (0 ≤ s2) && decide (s2 < (s0.length : Int))) then
      bif (decide (0 ≤ (listAt s0 (0 : Int) s2.toNat)) && decide ((listAt s0 (0 : Int) s2.toNat) < (s4.length : Int))) then
        bif (!(listAt s4 false (listAt s0 (0 : Int) s2.toNat).toNat)) then
          bif (decide (0 ≤ (listAt s0 (0 : Int) s2.toNat)) && decide ((listAt s0 (0 : Int) s2.toNat) < (s4.length : Int))) then
            bif (decide (s5.length + ([(listAt s0 (0 : Int) s2.toNat)] : LI).length ≤ lim)) then
              rec0 s0 s1 (wi (s2 + (1 : Int))) s3 (s4.set ((listAt s0 (0 : Int) s2.toNat).toNat) true) (s5 ++ ([(listAt s0 (0 : Int) s2.toNat)] : LI))
            else none
          else none
        else rec0 s0 s1 (wi (s2 + (1 : Int))) s3 s4 s5
      else none
    else none
  else k0_e0 s3 s4 s5
def f112.s0 {R : Type} (L N : Nat) (k0_e0 : LLM → LB → LI → Option R) (rec0 : LI → Int → Int → LLM → LB → LI → Option R) (s0 : LI) (s1 : Int) (s2 : Int) (s3 : LLM) (s4 : LB) (s5 : LI) : Option R :=
  f112.s0' L N k0_e0 rec0 s0 s1 s2 s3 s4 s5
def f112.l0 {R : Type} (L N : Nat) (k0_e0 : LLM → LB → LI → Option R) : Nat → LI → Int → Int → LLM → LB → LI → Option R
  | 0, _, _, _, _, _, _ => none
  | n + 1, s0, s1, s2, s3, s4, s5 => f112.s0 L N k0_e0 (f112.l0 L N k0_e0 n) s0 s1 s2 s3 s4 s5
def f112.T0 (s0 : LI) (s1 : Int) (s2 : Int) (s3 : LLM) (s4 : LB) (s5 : LI) : T := mkT 79 [(2, (.ptr 1002 0)), (5, (.row 1015)), (6, (.row 1016)), (17, (.tv (.sl i64) s0)), (18, (.tv i64 s1)), (19, (.tv i64 s2))]
def f112.H0 (s0 : LI) (s1 : Int) (s2 : Int) (s3 : LLM) (s4 : LB) (s5 : LI) : H := [(1002, (.box [(.tv (.sl (.sl (.st 0))) s3)])), (1015, (.row 4 .bool s4)), (1016, (.row 3 i64 s5))]
def f112.T0_e0 (z6 : LLM) (z7 : LB) (z8 : LI) : T := mkT 79 [(2, (.ptr 1002 0)), (5, (.row 1015)), (6, (.row 1016))]
def f112.H0_e0 (z6 : LLM) (z7 : LB) (z8 : LI) : H := [(1002, (.box [(.tv (.sl (.sl (.st 0))) z6)])), (1015, (.row 4 .bool z7)), (1016, (.row 3 i64 z8))]
def f112.j0' {R : Type} (L N : Nat) (k2_e4 : Int → LLM → LB → LI → Option R) (rec2 : Int → LM → Int → Int → LLM → LB → LI → Option R) (v31 : Int) (v32 : LM) (v33 : Int) (v34 : Int) (v35 : Bool) (v36 : LLM) (v37 : Int) (v38 : Int) (v39 : LB) (v40 : LI) : Option R :=
  bif v35 then
    bif (decide (0 ≤ v38) && decide (v38 < (v39.length : Int))) then
      bif (decide (v40.length + ([v38] : LI).length ≤ lim)) then
        rec2 v31 v32 v33 (wi (v34 + (1 : Int))) v36 (v39.set v38.toNat true) (v40 ++ ([v38] : LI))
      else none
    else none
  else rec2 v31 v32 v33 (wi (v34 + (1 : Int))) v36 v39 v40
def f112.s2' {R : Type} (L N : Nat) (k2_e4 : Int → LLM → LB → LI → Option R) (rec2 : Int → LM → Int → Int → LLM → LB → LI → Option R) (s20 : Int) (s21 : LM) (s22 : Int) (s23 : Int) (s24 : LLM) (s25 : LB) (s26 : LI) : Option R :=
  bif (decide (s23 < s22)) then
    bif (decide (0 ≤ s23) && decide (s23 < (s21.length : Int))) then
      bif ((listAt s21 (Ty.dflt (.st 0)) s23.toNat).act == (0 : Int)) then
        bif (decide (0 ≤ (listAt s21 (Ty.dflt (.st 0)) s23.toNat).to) && decide ((listAt s21 (Ty.dflt (.st 0)) s23.toNat).to < (s25.length : Int))) then
          f112.j0' L N k2_e4 rec2 s20 s21 s22 s23 (!(listAt s25 false ((listAt s21 (Ty.dflt (.st 0)) s23.toNat).to).toNat)) s24 ((listAt s21 (Ty.dflt (.st 0)) s23.toNat).act) ((listAt s21 (Ty.dflt (.st 0)) s23.toNat).to) s25 s26
        else none
      else f112.j0' L N k2_e4 rec2 s20 s21 s22 s23 false s24 ((listAt s21 (Ty.dflt (.st 0)) s23.toNat).act) ((listAt s21 (Ty.dflt (.st 0)) s23.toNat).to) s25 s26
    else none
  else k2_e4 s20 s24 s25 s26
def f112.s2 {R : Type} (L N : Nat) (k2_e4 : Int → LLM → LB → LI → Option R) (rec2 : Int → LM → Int → Int → LLM → LB → LI → Option R) (s20 : Int) (s21 : LM) (s22 : Int) (s23 : Int) (s24 : LLM) (s25 : LB) (s26 : LI) : Option R :=
  f112.s2' L N k2_e4 rec2 s20 s21 s22 s23 s24 s25 s26
def f112.l2 {R : Type} (L N : Nat) (k2_e4 : Int → LLM → LB → LI → Option R) : Nat → Int → LM → Int → Int → LLM → LB → LI → Option R
  | 0, _, _, _, _, _, _, _ => none
  | n + 1, s20, s21, s22, s23, s24, s25, s26 => f112.s2 L N k2_e4 (f112.l2 L N k2_e4 n) s20 s21 s22 s23 s24 s25 s26
def f112.T2 (s20 : Int) (s21 : LM) (s22 : Int) (s23 : Int) (s24 : LLM) (s25 : LB) (s26 : LI) : T := mkT 79 [(2, (.ptr 1002 0)), (5, (.row 1015)), (6, (.row 1016)), (9, (.tv i64 s20)), (49, (.tv (.sl (.st 0)) s21)), (50, (.tv i64 s22)), (51, (.tv i64 s23))]
def f112.H2 (s20 : Int) (s21 : LM) (s22 : Int) (s23 : Int) (s24 : LLM) (s25 : LB) (s26 : LI) : H := [(1002, (.box [(.tv (.sl (.sl (.st 0))) s24)])), (1015, (.row 4 .bool s25)), (1016, (.row 3 i64 s26))]
def f112.T2_e4 (z27 : Int) (z28 : LLM) (z29 : LB) (z30 : LI) : T := mkT 79 [(2, (.ptr 1002 0)), (5, (.row 1015)), (6, (.row 1016)), (9, (.tv i64 z27))]
def f112.H2_e4 (z27 : Int) (z28 : LLM) (z29 : LB) (z30 : LI) : H := [(1002, (.box [(.tv (.sl (.sl (.st 0))) z28)])), (1015, (.row 4 .bool z29)), (1016, (.row 3 i64 z30))]
def f112.p2_e4' {R : Type} (L N : Nat) (k1_e2 : LI → Option R) (rec1 : Int → LLM → LB → LI → Option R) (z27 : Int) (z28 : LLM) (z29 : LB) (z30 : LI) : Option R :=
  rec1 (wi (z27 + (1 : Int))) z28 z29 z30
def f112.p2_e4 {R : Type} (L N : Nat) (k1_e2 : LI → Option R) (rec1 : Int → LLM → LB → LI → Option R) (z27 : Int) (z28 : LLM) (z29 : LB) (z30 : LI) : Option R :=
  f112.p2_e4' L N k1_e2 rec1 z27 z28 z29 z30
def f112.s1' {R : Type} (L N : Nat) (k1_e2 : LI → Option R) (rec1 : Int → LLM → LB → LI → Option R) (w2 : Int → LM → Int → Int → LLM → LB → LI → Option R) (s15 : Int) (s16 : LLM) (s17 : LB) (s18 : LI) : Option R :=
  bif (decide (s15 < (s18.length : Int))) then
    bif (decide (0 ≤ s15) && decide (s15 < (s18.length : Int))) then
      bif (decide (0 ≤ (listAt s18 (0 : Int) s15.toNat)) && decide ((listAt s18 (0 : Int) s15.toNat) < (s16.length : Int))) then
        w2 s15 (listAt s16 [] (listAt s18 (0 : Int) s15.toNat).toNat) ((listAt s16 [] (listAt s18 (0 : Int) s15.toNat).toNat).length : Int) (0 : Int) s16 s17 s18
      else none
    else none
  else k1_e2 s18
def f112.s1 {R : Type} (L N : Nat) (k1_e2 : LI → Option R) (rec1 : Int → LLM → LB → LI → Option R) (s15 : Int) (s16 : LLM) (s17 : LB) (s18 : LI) : Option R :=
  f112.s1' L N k1_e2 rec1 (fun s20 s21 s22 s23 s24 s25 s26 => f112.l2 L N (fun z27 z28 z29 z30 => f112.p2_e4 L N k1_e2 rec1 z27 z28 z29 z30) L s20 s21 s22 s23 s24 s25 s26) s15 s16 s17 s18
def f112.l1 {R : Type} (L N : Nat) (k1_e2 : LI → Option R) : Nat → Int → LLM → LB → LI → Option R
  | 0, _, _, _, _ => none
  | n + 1, s15, s16, s17, s18 => f112.s1 L N k1_e2 (f112.l1 L N k1_e2 n) s15 s16 s17 s18
def f112.T1 (s15 : Int) (s16 : LLM) (s17 : LB) (s18 : LI) : T := mkT 79 [(2, (.ptr 1002 0)), (5, (.row 1015)), (6, (.row 1016)), (9, (.tv i64 s15))]
def f112.H1 (s15 : Int) (s16 : LLM) (s17 : LB) (s18 : LI) : H := [(1002, (.box [(.tv (.sl (.sl (.st 0))) s16)])), (1015, (.row 4 .bool s17)), (1016, (.row 3 i64 s18))]
def f112.T1_e2 (z19 : LI) : T := mkT 79 [(6, (.row 1016))]
def f112.H1_e2 (z19 : LI) : H := [(1016, (.row 3 i64 z19))]
def f112.p1_e2' {R : Type} (L N : Nat) (k : LI → Option R) (z19 : LI) : Option R :=
  ((fsort z19)).bind fun y48 =>
  k (sortI z19)
def f112.p1_e2 {R : Type} (L N : Nat) (k : LI → Option R) (z19 : LI) : Option R :=
  f112.p1_e2' L N k z19
def f112.p0_e0' {R : Type} (L N : Nat) (k : LI → Option R) (w1 : Int → LLM → LB → LI → Option R) (z6 : LLM) (z7 : LB) (z8 : LI) : Option R :=
  w1 (0 : Int) z6 z7 z8
def f112.p0_e0 {R : Type} (L N : Nat) (k : LI → Option R) (z6 : LLM) (z7 : LB) (z8 : LI) : Option R :=
  f112.p0_e0' L N k (fun s15 s16 s17 s18 => f112.l1 L N (fun z19 => f112.p1_e2 L N k z19) L s15 s16 s17 s18) z6 z7 z8
def f112.b' {R : Type} (L N : Nat) (k : LI → Option R) (w0 : LI → Int → Int → LLM → LB → LI → Option R) (x0 : Graph) (x1 : LI) : Option R :=
  bif (decide (0 ≤ (x0.moves.length : Int)) && decide ((x0.moves.length : Int) ≤ (lim : Int))) then
    w0 x1 (x1.length : Int) (0 : Int) x0.moves (List.replicate (x0.moves.length : Int).toNat false) ([] : LI)
  else none
def f112.b {R : Type} (L N : Nat) (k : LI → Option R) (x0 : Graph) (x1 : LI) : Option R :=
  f112.b' L N k (fun s0 s1 s2 s3 s4 s5 => f112.l0 L N (fun z6 z7 z8 => f112.p0_e0 L N k z6 z7 z8) L s0 s1 s2 s3 s4 s5) x0 x1
def f112 (L N : Nat) (x0 : Graph) (x1 : LI) : Option (LI) := f112.b L N some x0 x1
def f112.ent (L N : Nat) (args : List AV) (vw : View) (site : Nat) : Ans := match roD [(.st 2), (.sl i64)] vw args with
  | some d => ⟨LI, f112 L N d.1 d.2.1, fun y => (RN.av site .row (), [(site, some (mkO none 3 i64 y))], [])⟩
  | none => Ans.no
noncomputable def E112 (L N : Nat) : Env := { P := Try.prog, ty := tyOf, Φ := (Φ45 L N), inl := inlT, live := lives, liveX := livesX, L := L, dp := none, prom := promT, heal := healT, ren := renT }
noncomputable def f112.c0 : Code := loopAt 0 (codeOf Try.f112)
def f112.X0_e0 {R : Type} (κ : KX R) := fun z6 z7 z8 => κ (.exit 0) (f112.T0_e0 z6 z7 z8) (f112.H0_e0 z6 z7 z8)
def f112.R0 {R : Type} (rec : KT R) := fun s0 s1 s2 s3 s4 s5 => rec (f112.T0 s0 s1 s2 s3 s4 s5) (f112.H0 s0 s1 s2 s3 s4 s5)
theorem f112.s0_eq {R : Type} (L N : Nat) (κ : KX R) (rec : KT R) (s0 : LI) (s1 : Int) (s2 : Int) (s3 : LLM) (s4 : LB) (s5 : LI) :
    evRd (E112 L N) (evCallI (E112 L N) 1 2000) 1000 112 79 0 f112.c0 κ rec (f112.T0 s0 s1 s2 s3 s4 s5) (f112.H0 s0 s1 s2 s3 s4 s5)
    = f112.s0 L N (f112.X0_e0 κ) (f112.R0 rec) s0 s1 s2 s3 s4 s5 := by kernel_rfl
theorem f112.l0_eq {R : Type} (L N : Nat) (κ : KX R) : ∀ (n : Nat) (s0 : LI) (s1 : Int) (s2 : Int) (s3 : LLM) (s4 : LB) (s5 : LI),
    evLp (E112 L N) (evCallI (E112 L N) 1 2000) 1000 112 79 0 f112.c0 κ n (f112.T0 s0 s1 s2 s3 s4 s5) (f112.H0 s0 s1 s2 s3 s4 s5)
    = f112.l0 L N (f112.X0_e0 κ) n s0 s1 s2 s3 s4 s5 := by
  intro n
  induction n with
  | zero => intros; rfl
  | succ n ih =>
    intro s0 s1 s2 s3 s4 s5
    rw [evLp_succ, f112.s0_eq]
    delta f112.R0
    simp only [ih]
    rfl
noncomputable def f112.c1 : Code := loopAt 2 (codeOf Try.f112)
noncomputable def f112.c2 : Code := loopAt 4 f112.c1
def f112.X2_e4 {R : Type} (κ : KX R) := fun z27 z28 z29 z30 => κ (.exit 4) (f112.T2_e4 z27 z28 z29 z30) (f112.H2_e4 z27 z28 z29 z30)
def f112.R2 {R : Type} (rec : KT R) := fun s20 s21 s22 s23 s24 s25 s26 => rec (f112.T2 s20 s21 s22 s23 s24 s25 s26) (f112.H2 s20 s21 s22 s23 s24 s25 s26)
theorem f112.s2_eq {R : Type} (L N : Nat) (κ : KX R) (rec : KT R) (s20 : Int) (s21 : LM) (s22 : Int) (s23 : Int) (s24 : LLM) (s25 : LB) (s26 : LI) :
    evRd (E112 L N) (evCallI (E112 L N) 1 2000) 1000 112 79 4 f112.c2 κ rec (f112.T2 s20 s21 s22 s23 s24 s25 s26) (f112.H2 s20 s21 s22 s23 s24 s25 s26)
    = f112.s2 L N (f112.X2_e4 κ) (f112.R2 rec) s20 s21 s22 s23 s24 s25 s26 := by kernel_rfl
theorem f112.l2_eq {R : Type} (L N : Nat) (κ : KX R) : ∀ (n : Nat) (s20 : Int) (s21 : LM) (s22 : Int) (s23 : Int) (s24 : LLM) (s25 : LB) (s26 : LI),
    evLp (E112 L N) (evCallI (E112 L N) 1 2000) 1000 112 79 4 f112.c2 κ n (f112.T2 s20 s21 s22 s23 s24 s25 s26) (f112.H2 s20 s21 s22 s23 s24 s25 s26)
    = f112.l2 L N (f112.X2_e4 κ) n s20 s21 s22 s23 s24 s25 s26 := by
  intro n
  induction n with
  | zero => intros; rfl
  | succ n ih =>
    intro s20 s21 s22 s23 s24 s25 s26
    rw [evLp_succ, f112.s2_eq]
    delta f112.R2
    simp only [ih]
    rfl
def f112.X1_e2 {R : Type} (κ : KX R) := fun z19 => κ (.exit 2) (f112.T1_e2 z19) (f112.H1_e2 z19)
def f112.R1 {R : Type} (rec : KT R) := fun s15 s16 s17 s18 => rec (f112.T1 s15 s16 s17 s18) (f112.H1 s15 s16 s17 s18)
theorem f112.p2_e4_eq {R : Type} (L N : Nat) (κ : KX R) (rec : KT R) (z27 : Int) (z28 : LLM) (z29 : LB) (z30 : LI) :
    (contAt (E112 L N) (evCallI (E112 L N) 1 2000) 1000 112 79 4 f112.c1 (rdK (E112 L N) 1000 112 79 2 κ rec)) (.exit 4) (f112.T2_e4 z27 z28 z29 z30) (f112.H2_e4 z27 z28 z29 z30)
    = f112.p2_e4 L N (f112.X1_e2 κ) (f112.R1 rec) z27 z28 z29 z30 := by kernel_rfl
theorem f112.s1_eq {R : Type} (L N : Nat) (κ : KX R) (rec : KT R) (s15 : Int) (s16 : LLM) (s17 : LB) (s18 : LI) :
    evRd (E112 L N) (evCallI (E112 L N) 1 2000) 1000 112 79 2 f112.c1 κ rec (f112.T1 s15 s16 s17 s18) (f112.H1 s15 s16 s17 s18)
    = f112.s1 L N (f112.X1_e2 κ) (f112.R1 rec) s15 s16 s17 s18 := by
  refine Eq.trans (b := f112.s1' L N (f112.X1_e2 κ) (f112.R1 rec) (fun s20 s21 s22 s23 s24 s25 s26 => evLp (E112 L N) (evCallI (E112 L N) 1 2000) 1000 112 79 4 f112.c2 (contAt (E112 L N) (evCallI (E112 L N) 1 2000) 1000 112 79 4 f112.c1 (rdK (E112 L N) 1000 112 79 2 κ rec)) L (f112.T2 s20 s21 s22 s23 s24 s25 s26) (f112.H2 s20 s21 s22 s23 s24 s25 s26)) s15 s16 s17 s18) (by kernel_rfl) ?_
  unfold f112.s1
  simp only [f112.l2_eq]
  delta f112.X2_e4
  simp only [f112.p2_e4_eq]
theorem f112.l1_eq {R : Type} (L N : Nat) (κ : KX R) : ∀ (n : Nat) (s15 : Int) (s16 : LLM) (s17 : LB) (s18 : LI),
    evLp (E112 L N) (evCallI (E112 L N) 1 2000) 1000 112 79 2 f112.c1 κ n (f112.T1 s15 s16 s17 s18) (f112.H1 s15 s16 s17 s18)
    = f112.l1 L N (f112.X1_e2 κ) n s15 s16 s17 s18 := by
  intro n
  induction n with
  | zero => intros; rfl
  | succ n ih =>
    intro s15 s16 s17 s18
    rw [evLp_succ, f112.s1_eq]
    delta f112.R1
    simp only [ih]
    rfl
theorem f112.p1_e2_eq {R : Type} (L N : Nat) (κ : RN.Den .row → List Int → Option R) (z19 : LI) :
    (contAt (E112 L N) (evCallI (E112 L N) 1 2000) 1000 112 79 2 (codeOf Try.f112) (finK (E112 L N) 1000 Try.f112 (finN .row none 3 i64 κ))) (.exit 2) (f112.T1_e2 z19) (f112.H1_e2 z19)
    = f112.p1_e2 L N (fun a0 => κ () a0) z19 := by kernel_rfl
theorem f112.p0_e0_eq {R : Type} (L N : Nat) (κ : RN.Den .row → List Int → Option R) (z6 : LLM) (z7 : LB) (z8 : LI) :
    (contAt (E112 L N) (evCallI (E112 L N) 1 2000) 1000 112 79 0 (codeOf Try.f112) (finK (E112 L N) 1000 Try.f112 (finN .row none 3 i64 κ))) (.exit 0) (f112.T0_e0 z6 z7 z8) (f112.H0_e0 z6 z7 z8)
    = f112.p0_e0 L N (fun a0 => κ () a0) z6 z7 z8 := by
  refine Eq.trans (b := f112.p0_e0' L N (fun a0 => κ () a0) (fun s15 s16 s17 s18 => evLp (E112 L N) (evCallI (E112 L N) 1 2000) 1000 112 79 2 f112.c1 (contAt (E112 L N) (evCallI (E112 L N) 1 2000) 1000 112 79 2 (codeOf Try.f112) (finK (E112 L N) 1000 Try.f112 (finN .row none 3 i64 κ))) L (f112.T1 s15 s16 s17 s18) (f112.H1 s15 s16 s17 s18)) z6 z7 z8) (by kernel_rfl) ?_
  unfold f112.p0_e0
  simp only [f112.l1_eq]
  delta f112.X1_e2
  simp only [f112.p1_e2_eq]
theorem f112.b_eq {R : Type} (L N : Nat) (κ : RN.Den .row → List Int → Option R) (x0 : Graph) (x1 : LI) :
    evBody (E112 L N) (evCallI (E112 L N) 1 2000) 1000 112 Try.f112 [(.tv (.st 2) x0), (.tv (.sl i64) x1)] [] [] (finN .row none 3 i64 κ)
    = f112.b L N (fun a0 => κ () a0) x0 x1 := by
  refine Eq.trans (b := f112.b' L N (fun a0 => κ () a0) (fun s0 s1 s2 s3 s4 s5 => evLp (E112 L N) (evCallI (E112 L N) 1 2000) 1000 112 79 0 f112.c0 (contAt (E112 L N) (evCallI (E112 L N) 1 2000) 1000 112 79 0 (codeOf Try.f112) (finK (E112 L N) 1000 Try.f112 (finN .row none 3 i64 κ))) L (f112.T0 s0 s1 s2 s3 s4 s5) (f112.H0 s0 s1 s2 s3 s4 s5)) x0 x1) (by kernel_rfl) ?_
  unfold f112.b
  simp only [f112.l0_eq]
  delta f112.X0_e0
  simp only [f112.p0_e0_eq]
theorem f112.ok (L N : Nat) (hΦ : TellsOk Try.prog ((Φ45 L N))) : EntOk Try.prog 112 (f112.ent L N) := by
  intro args vw site h
  unfold f112.ent
  split
  · rename_i d ha
    intro y hy hs
    refine call_ron (y := y) (dep := 1000) (E := (E112 L N)) (ts := [(.st 2), (.sl i64)]) (rn := .row) (q := none) (el := 3) (ty := i64) (d1 := ()) (xs := y) (κ := (fun d xs => some xs)) (sound_of hΦ) okP (callI_sound (sound_of hΦ) okP 1 2000) (f := Try.f112) rfl hs ha ?_ (fun _ _ h => by obtain rfl := Option.some.inj h; exact ⟨rfl, rfl⟩) rfl site
    exact (f112.b_eq L N (fun d xs => some xs) d.1 d.2.1).trans (Eq.trans (b := f112.b L N some d.1 d.2.1) (by kernel_rfl) hy)
  · intro y hy
    cases hy
def Φ112 (L N : Nat) : Tells := (addT (Φ45 L N) 112 (f112.ent L N))
theorem Φ112_ok (L N : Nat) : TellsOk Try.prog (Φ112 L N) := addT_ok (Φ45_ok L N) (f112.ok L N (Φ45_ok L N))
def f124.s0' {R : Type} (L N : Nat) (k0_e0 : LLI → Option R) (rec0 : Int → Int → LLM → LLI → Option R) (s0 : Int) (s1 : Int) (s2 : LLM) (s3 : LLI) : Option R :=
  bif (decide (s1 < s0)) then
    (f112 L N (Graph.mk s2) ([s1] : LI)).bind fun y5 =>
    bif (decide (s3.length + ([y5] : LLI).length ≤ lim)) then
      rec0 s0 (wi (s1 + (1 : Int))) s2 (s3 ++ ([y5] : LLI))
    else none
  else k0_e0 s3
def f124.s0 {R : Type} (L N : Nat) (k0_e0 : LLI → Option R) (rec0 : Int → Int → LLM → LLI → Option R) (s0 : Int) (s1 : Int) (s2 : LLM) (s3 : LLI) : Option R :=
  f124.s0' L N k0_e0 rec0 s0 s1 s2 s3
def f124.l0 {R : Type} (L N : Nat) (k0_e0 : LLI → Option R) : Nat → Int → Int → LLM → LLI → Option R
  | 0, _, _, _, _ => none
  | n + 1, s0, s1, s2, s3 => f124.s0 L N k0_e0 (f124.l0 L N k0_e0 n) s0 s1 s2 s3
def f124.T0 (s0 : Int) (s1 : Int) (s2 : LLM) (s3 : LLI) : T := mkT 21 [(1, (.ptr 1001 0)), (3, (.row 1005)), (8, (.tv i64 s0)), (9, (.tv i64 s1))]
def f124.H0 (s0 : Int) (s1 : Int) (s2 : LLM) (s3 : LLI) : H := [(1001, (.box [(.tv (.sl (.sl (.st 0))) s2)])), (1005, (.row 30 (.sl i64) s3))]
def f124.T0_e0 (z4 : LLI) : T := mkT 21 [(3, (.row 1005))]
def f124.H0_e0 (z4 : LLI) : H := [(1005, (.row 30 (.sl i64) z4))]
def f124.p0_e0' {R : Type} (L N : Nat) (k : LLI → Option R) (z4 : LLI) : Option R :=
  k z4
def f124.p0_e0 {R : Type} (L N : Nat) (k : LLI → Option R) (z4 : LLI) : Option R :=
  f124.p0_e0' L N k z4
def f124.b' {R : Type} (L N : Nat) (k : LLI → Option R) (w0 : Int → Int → LLM → LLI → Option R) (x0 : Graph) : Option R :=
  w0 (x0.moves.length : Int) (0 : Int) x0.moves ([] : LLI)
def f124.b {R : Type} (L N : Nat) (k : LLI → Option R) (x0 : Graph) : Option R :=
  f124.b' L N k (fun s0 s1 s2 s3 => f124.l0 L N (fun z4 => f124.p0_e0 L N k z4) L s0 s1 s2 s3) x0
def f124 (L N : Nat) (x0 : Graph) : Option (LLI) := f124.b L N some x0
def f124.ent (L N : Nat) := entDa [(.st 2)] (.one (.sl (.sl i64))) fun d => f124 L N d.1
noncomputable def E124 (L N : Nat) : Env := { P := Try.prog, ty := tyOf, Φ := (Φ112 L N), inl := inlT, live := lives, liveX := livesX, L := L, dp := none, prom := promT, heal := healT, ren := renT }
noncomputable def f124.c0 : Code := loopAt 0 (codeOf Try.f124)
def f124.X0_e0 {R : Type} (κ : KX R) := fun z4 => κ (.exit 0) (f124.T0_e0 z4) (f124.H0_e0 z4)
def f124.R0 {R : Type} (rec : KT R) := fun s0 s1 s2 s3 => rec (f124.T0 s0 s1 s2 s3) (f124.H0 s0 s1 s2 s3)
theorem f124.s0_eq {R : Type} (L N : Nat) (κ : KX R) (rec : KT R) (s0 : Int) (s1 : Int) (s2 : LLM) (s3 : LLI) :
    evRd (E124 L N) (evCallI (E124 L N) 1 2000) 1000 124 21 0 f124.c0 κ rec (f124.T0 s0 s1 s2 s3) (f124.H0 s0 s1 s2 s3)
    = f124.s0 L N (f124.X0_e0 κ) (f124.R0 rec) s0 s1 s2 s3 := by kernel_rfl
theorem f124.l0_eq {R : Type} (L N : Nat) (κ : KX R) : ∀ (n : Nat) (s0 : Int) (s1 : Int) (s2 : LLM) (s3 : LLI),
    evLp (E124 L N) (evCallI (E124 L N) 1 2000) 1000 124 21 0 f124.c0 κ n (f124.T0 s0 s1 s2 s3) (f124.H0 s0 s1 s2 s3)
    = f124.l0 L N (f124.X0_e0 κ) n s0 s1 s2 s3 := by
  intro n
  induction n with
  | zero => intros; rfl
  | succ n ih =>
    intro s0 s1 s2 s3
    rw [evLp_succ, f124.s0_eq]
    delta f124.R0
    simp only [ih]
    rfl
theorem f124.p0_e0_eq {R : Type} (L N : Nat) (κ : AV → Option R) (z4 : LLI) :
    (contAt (E124 L N) (evCallI (E124 L N) 1 2000) 1000 124 21 0 (codeOf Try.f124) (finK (E124 L N) 1000 Try.f124 (finC (.one (.sl (.sl i64))) κ))) (.exit 0) (f124.T0_e0 z4) (f124.H0_e0 z4)
    = f124.p0_e0 L N (fun a0 => κ (.tv (.sl (.sl i64)) a0)) z4 := by kernel_rfl
theorem f124.b_eq {R : Type} (L N : Nat) (κ : AV → Option R) (x0 : Graph) :
    evBody (E124 L N) (evCallI (E124 L N) 1 2000) 1000 124 Try.f124 [(.tv (.st 2) x0)] [] [] (finC (.one (.sl (.sl i64))) κ)
    = f124.b L N (fun a0 => κ (.tv (.sl (.sl i64)) a0)) x0 := by
  refine Eq.trans (b := f124.b' L N (fun a0 => κ (.tv (.sl (.sl i64)) a0)) (fun s0 s1 s2 s3 => evLp (E124 L N) (evCallI (E124 L N) 1 2000) 1000 124 21 0 f124.c0 (contAt (E124 L N) (evCallI (E124 L N) 1 2000) 1000 124 21 0 (codeOf Try.f124) (finK (E124 L N) 1000 Try.f124 (finC (.one (.sl (.sl i64))) κ))) L (f124.T0 s0 s1 s2 s3) (f124.H0 s0 s1 s2 s3)) x0) (by kernel_rfl) ?_
  unfold f124.b
  simp only [f124.l0_eq]
  delta f124.X0_e0
  simp only [f124.p0_e0_eq]
theorem f124.ok (L N : Nat) (hΦ : TellsOk Try.prog ((Φ112 L N))) : EntOk Try.prog 124 (f124.ent L N) := entDa_ok (E := (E124 L N)) (dep := 1000) (f := Try.f124) (sound_of hΦ) okP (callI_sound (sound_of hΦ) okP 1 2000) rfl fun d _ hy => (f124.b_eq L N (unR (.one (.sl (.sl i64)))) d.1).trans (Eq.trans (b := f124.b L N some d.1) (by kernel_rfl) hy)
def Φ124 (L N : Nat) : Tells := (addT (Φ112 L N) 124 (f124.ent L N))
theorem Φ124_ok (L N : Nat) : TellsOk Try.prog (Φ124 L N) := addT_ok (Φ112_ok L N) (f124.ok L N (Φ112_ok L N))
def f88.s3' {R : Type} (L N : Nat) (k3_e6 : LLI → Int → Int → LI → Int → Int → LM → Int → Int → LLM → LM → LLM → LLM → Option R) (rec3 : LLI → Int → Int → LI → Int → Int → LM → Int → Int → LI → Int → Int → LLM → Int → Int → LM → LLM → LLM → Option R) (s49 : LLI) (s50 : Int) (s51 : Int) (s52 : LI) (s53 : Int) (s54 : Int) (s55 : LM) (s56 : Int) (s57 : Int) (s58 : LI) (s59 : Int) (s60 : Int) (s61 : LLM) (s62 : Int) (s63 : Int) (s64 : LM) (s65 : LLM) (s66 : LLM) : Option R :=
  bif (decide (s60 < s59)) then
    bif (decide (0 ≤ s60) && decide (s60 < (s58.length : Int))) then
      bif (decide (s64.length + ([(Move.mk s62 (listAt s58 (0 : Int) s60.toNat))] : LM).length ≤ lim)) then
        rec3 s49 s50 s51 s52 s53 s54 s55 s56 s57 s58 s59 (wi (s60 + (1 : Int))) s61 s62 s63 (s64 ++ ([(Move.mk s62 (listAt s58 (0 : Int) s60.toNat))] : LM)) s65 s66
      else none
    else none
  else k3_e6 s49 s50 s51 s52 s53 s54 s55 s56 s57 s61 s64 s65 s66
def f88.s3 {R : Type} (L N : Nat) (k3_e6 : LLI → Int → Int → LI → Int → Int → LM → Int → Int → LLM → LM → LLM → LLM → Option R) (rec3 : LLI → Int → Int → LI → Int → Int → LM → Int → Int → LI → Int → Int → LLM → Int → Int → LM → LLM → LLM → Option R) (s49 : LLI) (s50 : Int) (s51 : Int) (s52 : LI) (s53 : Int) (s54 : Int) (s55 : LM) (s56 : Int) (s57 : Int) (s58 : LI) (s59 : Int) (s60 : Int) (s61 : LLM) (s62 : Int) (s63 : Int) (s64 : LM) (s65 : LLM) (s66 : LLM) : Option R :=
  f88.s3' L N k3_e6 rec3 s49 s50 s51 s52 s53 s54 s55 s56 s57 s58 s59 s60 s61 s62 s63 s64 s65 s66
def f88.l3 {R : Type} (L N : Nat) (k3_e6 : LLI → Int → Int → LI → Int → Int → LM → Int → Int → LLM → LM → LLM → LLM → Option R) : Nat → LLI → Int → Int → LI → Int → Int → LM → Int → Int → LI → Int → Int → LLM → Int → Int → LM → LLM → LLM → Option R
  | 0, _, _, _, _, _, _, _, _, _, _, _, _, _, _, _, _, _, _ => none
  | n + 1, s49, s50, s51, s52, s53, s54, s55, s56, s57, s58, s59, s60, s61, s62, s63, s64, s65, s66 => f88.s3 L N k3_e6 (f88.l3 L N k3_e6 n) s49 s50 s51 s52 s53 s54 s55 s56 s57 s58 s59 s60 s61 s62 s63 s64 s65 s66
def f88.T3 (s49 : LLI) (s50 : Int) (s51 : Int) (s52 : LI) (s53 : Int) (s54 : Int) (s55 : LM) (s56 : Int) (s57 : Int) (s58 : LI) (s59 : Int) (s60 : Int) (s61 : LLM) (s62 : Int) (s63 : Int) (s64 : LM) (s65 : LLM) (s66 : LLM) : T := mkT 79 [(1, (.ptr 1001 0)), (2, (.ptr 1002 0)), (3, (.tv (.sl (.sl i64)) s49)), (4, (.ptr 1004 0)), (6, (.row 1022)), (10, (.ptr 1010 0)), (18, (.tv i64 s50)), (19, (.tv i64 s51)), (26, (.tv (.sl i64) s52)), (27, (.tv i64 s53)), (28, (.tv i64 s54)), (41, (.tv (.sl (.st 0)) s55)), (42, (.tv i64 s56)), (43, (.tv i64 s57)), (54, (.tv (.sl i64) s58)), (55, (.tv i64 s59)), (56, (.tv i64 s60))]
def f88.H3 (s49 : LLI) (s50 : Int) (s51 : Int) (s52 : LI) (s53 : Int) (s54 : Int) (s55 : LM) (s56 : Int) (s57 : Int) (s58 : LI) (s59 : Int) (s60 : Int) (s61 : LLM) (s62 : Int) (s63 : Int) (s64 : LM) (s65 : LLM) (s66 : LLM) : H := [(1001, (.box [(.tv (.sl (.sl (.st 0))) s61)])), (1002, (.box [(.row 1900)])), (1004, (.box [(.row 1901)])), (1010, (.box [(.tv i64 s62), (.tv i64 s63)])), (1022, (.row 53 (.st 0) s64)), (1900, (.deep 0 (.sl (.st 0)) s65 none)), (1901, (.deep 0 (.sl (.st 0)) s66 none))]
def f88.T3_e6 (z67 : LLI) (z68 : Int) (z69 : Int) (z70 : LI) (z71 : Int) (z72 : Int) (z73 : LM) (z74 : Int) (z75 : Int) (z76 : LLM) (z77 : LM) (z78 : LLM) (z79 : LLM) : T := mkT 79 [(1, (.ptr 1001 0)), (2, (.ptr 1002 0)), (3, (.tv (.sl (.sl i64)) z67)), (4, (.ptr 1004 0)), (6, (.row 1022)), (18, (.tv i64 z68)), (19, (.tv i64 z69)), (26, (.tv (.sl i64) z70)), (27, (.tv i64 z71)), (28, (.tv i64 z72)), (41, (.tv (.sl (.st 0)) z73)), (42, (.tv i64 z74)), (43, (.tv i64 z75))]
def f88.H3_e6 (z67 : LLI) (z68 : Int) (z69 : Int) (z70 : LI) (z71 : Int) (z72 : Int) (z73 : LM) (z74 : Int) (z75 : Int) (z76 : LLM) (z77 : LM) (z78 : LLM) (z79 : LLM) : H := [(1001, (.box [(.tv (.sl (.sl (.st 0))) z76)])), (1002, (.box [(.row 1900)])), (1004, (.box [(.row 1901)])), (1022, (.row 53 (.st 0) z77)), (1900, (.deep 0 (.sl (.st 0)) z78 none)), (1901, (.deep 0 (.sl (.st 0)) z79 none))]
def f88.p3_e6' {R : Type} (L N : Nat) (k2_e4 : LLI → Int → Int → LI → Int → Int → LLM → LM → LLM → LLM → Option R) (rec2 : LLI → Int → Int → LI → Int → Int → LM → Int → Int → LLM → LM → LLM → LLM → Option R) (z67 : LLI) (z68 : Int) (z69 : Int) (z70 : LI) (z71 : Int) (z72 : Int) (z73 : LM) (z74 : Int) (z75 : Int) (z76 : LLM) (z77 : LM) (z78 : LLM) (z79 : LLM) : Option R :=
  rec2 z67 z68 z69 z70 z71 z72 z73 z74 (wi (z75 + (1 : Int))) z76 z77 z78 z79
def f88.p3_e6 {R : Type} (L N : Nat) (k2_e4 : LLI → Int → Int → LI → Int → Int → LLM → LM → LLM → LLM → Option R) (rec2 : LLI → Int → Int → LI → Int → Int → LM → Int → Int → LLM → LM → LLM → LLM → Option R) (z67 : LLI) (z68 : Int) (z69 : Int) (z70 : LI) (z71 : Int) (z72 : Int) (z73 : LM) (z74 : Int) (z75 : Int) (z76 : LLM) (z77 : LM) (z78 : LLM) (z79 : LLM) : Option R :=
  f88.p3_e6' L N k2_e4 rec2 z67 z68 z69 z70 z71 z72 z73 z74 z75 z76 z77 z78 z79
def f88.s2' {R : Type} (L N : Nat) (k2_e4 : LLI → Int → Int → LI → Int → Int → LLM → LM → LLM → LLM → Option R) (rec2 : LLI → Int → Int → LI → Int → Int → LM → Int → Int → LLM → LM → LLM → LLM → Option R) (w3 : LLI → Int → Int → LI → Int → Int → LM → Int → Int → LI → Int → Int → LLM → Int → Int → LM → LLM → LLM → Option R) (s26 : LLI) (s27 : Int) (s28 : Int) (s29 : LI) (s30 : Int) (s31 : Int) (s32 : LM) (s33 : Int) (s34 : Int) (s35 : LLM) (s36 : LM) (s37 : LLM) (s38 : LLM) : Option R :=
  bif (decide (s34 < s33)) then
    bif (decide (0 ≤ s34) && decide (s34 < (s32.length : Int))) then
      bif ((listAt s32 (Ty.dflt (.st 0)) s34.toNat).act != (0 : Int)) then
        bif (decide (0 ≤ (listAt s32 (Ty.dflt (.st 0)) s34.toNat).to) && decide ((listAt s32 (Ty.dflt (.st 0)) s34.toNat).to < (s26.length : Int))) then
          w3 s26 s27 s28 s29 s30 s31 s32 s33 s34 (listAt s26 [] ((listAt s32 (Ty.dflt (.st 0)) s34.toNat).to).toNat) ((listAt s26 [] ((listAt s32 (Ty.dflt (.st 0)) s34.toNat).to).toNat).length : Int) (0 : Int) s35 ((listAt s32 (Ty.dflt (.st 0)) s34.toNat).act) ((listAt s32 (Ty.dflt (.st 0)) s34.toNat).to) s36 s37 s38
        else none
      else rec2 s26 s27 s28 s29 s30 s31 s32 s33 (wi (s34 + (1 : Int))) s35 s36 s37 s38
    else none
  else k2_e4 s26 s27 s28 s29 s30 s31 s35 s36 s37 s38
def f88.s2 {R : Type} (L N : Nat) (k2_e4 : LLI → Int → Int → LI → Int → Int → LLM → LM → LLM → LLM → Option R) (rec2 : LLI → Int → Int → LI → Int → Int → LM → Int → Int → LLM → LM → LLM → LLM → Option R) (s26 : LLI) (s27 : Int) (s28 : Int) (s29 : LI) (s30 : Int) (s31 : Int) (s32 : LM) (s33 : Int) (s34 : Int) (s35 : LLM) (s36 : LM) (s37 : LLM) (s38 : LLM) : Option R :=
  f88.s2' L N k2_e4 rec2 (fun s49 s50 s51 s52 s53 s54 s55 s56 s57 s58 s59 s60 s61 s62 s63 s64 s65 s66 => f88.l3 L N (fun z67 z68 z69 z70 z71 z72 z73 z74 z75 z76 z77 z78 z79 => f88.p3_e6 L N k2_e4 rec2 z67 z68 z69 z70 z71 z72 z73 z74 z75 z76 z77 z78 z79) L s49 s50 s51 s52 s53 s54 s55 s56 s57 s58 s59 s60 s61 s62 s63 s64 s65 s66) s26 s27 s28 s29 s30 s31 s32 s33 s34 s35 s36 s37 s38
def f88.l2 {R : Type} (L N : Nat) (k2_e4 : LLI → Int → Int → LI → Int → Int → LLM → LM → LLM → LLM → Option R) : Nat → LLI → Int → Int → LI → Int → Int → LM → Int → Int → LLM → LM → LLM → LLM → Option R
  | 0, _, _, _, _, _, _, _, _, _, _, _, _, _ => none
  | n + 1, s26, s27, s28, s29, s30, s31, s32, s33, s34, s35, s36, s37, s38 => f88.s2 L N k2_e4 (f88.l2 L N k2_e4 n) s26 s27 s28 s29 s30 s31 s32 s33 s34 s35 s36 s37 s38
def f88.T2 (s26 : LLI) (s27 : Int) (s28 : Int) (s29 : LI) (s30 : Int) (s31 : Int) (s32 : LM) (s33 : Int) (s34 : Int) (s35 : LLM) (s36 : LM) (s37 : LLM) (s38 : LLM) : T := mkT 79 [(1, (.ptr 1001 0)), (2, (.ptr 1002 0)), (3, (.tv (.sl (.sl i64)) s26)), (4, (.ptr 1004 0)), (6, (.row 1022)), (18, (.tv i64 s27)), (19, (.tv i64 s28)), (26, (.tv (.sl i64) s29)), (27, (.tv i64 s30)), (28, (.tv i64 s31)), (41, (.tv (.sl (.st 0)) s32)), (42, (.tv i64 s33)), (43, (.tv i64 s34))]
def f88.H2 (s26 : LLI) (s27 : Int) (s28 : Int) (s29 : LI) (s30 : Int) (s31 : Int) (s32 : LM) (s33 : Int) (s34 : Int) (s35 : LLM) (s36 : LM) (s37 : LLM) (s38 : LLM) : H := [(1001, (.box [(.tv (.sl (.sl (.st 0))) s35)])), (1002, (.box [(.row 1900)])), (1004, (.box [(.row 1901)])), (1022, (.row 53 (.st 0) s36)), (1900, (.deep 0 (.sl (.st 0)) s37 none)), (1901, (.deep 0 (.sl (.st 0)) s38 none))]
def f88.T2_e4 (z39 : LLI) (z40 : Int) (z41 : Int) (z42 : LI) (z43 : Int) (z44 : Int) (z45 : LLM) (z46 : LM) (z47 : LLM) (z48 : LLM) : T := mkT 79 [(1, (.ptr 1001 0)), (2, (.ptr 1002 0)), (3, (.tv (.sl (.sl i64)) z39)), (4, (.ptr 1004 0)), (6, (.row 1022)), (18, (.tv i64 z40)), (19, (.tv i64 z41)), (26, (.tv (.sl i64) z42)), (27, (.tv i64 z43)), (28, (.tv i64 z44))]
def f88.H2_e4 (z39 : LLI) (z40 : Int) (z41 : Int) (z42 : LI) (z43 : Int) (z44 : Int) (z45 : LLM) (z46 : LM) (z47 : LLM) (z48 : LLM) : H := [(1001, (.box [(.tv (.sl (.sl (.st 0))) z45)])), (1002, (.box [(.row 1900)])), (1004, (.box [(.row 1901)])), (1022, (.row 53 (.st 0) z46)), (1900, (.deep 0 (.sl (.st 0)) z47 none)), (1901, (.deep 0 (.sl (.st 0)) z48 none))]
def f88.p2_e4' {R : Type} (L N : Nat) (k1_e2 : LLI → Int → Int → LLM → LM → LLM → LLM → Option R) (rec1 : LLI → Int → Int → LI → Int → Int → LLM → LM → LLM → LLM → Option R) (z39 : LLI) (z40 : Int) (z41 : Int) (z42 : LI) (z43 : Int) (z44 : Int) (z45 : LLM) (z46 : LM) (z47 : LLM) (z48 : LLM) : Option R :=
  rec1 z39 z40 z41 z42 z43 (wi (z44 + (1 : Int))) z45 z46 z47 z48
def f88.p2_e4 {R : Type} (L N : Nat) (k1_e2 : LLI → Int → Int → LLM → LM → LLM → LLM → Option R) (rec1 : LLI → Int → Int → LI → Int → Int → LLM → LM → LLM → LLM → Option R) (z39 : LLI) (z40 : Int) (z41 : Int) (z42 : LI) (z43 : Int) (z44 : Int) (z45 : LLM) (z46 : LM) (z47 : LLM) (z48 : LLM) : Option R :=
  f88.p2_e4' L N k1_e2 rec1 z39 z40 z41 z42 z43 z44 z45 z46 z47 z48
def f88.s1' {R : Type} (L N : Nat) (k1_e2 : LLI → Int → Int → LLM → LM → LLM → LLM → Option R) (rec1 : LLI → Int → Int → LI → Int → Int → LLM → LM → LLM → LLM → Option R) (w2 : LLI → Int → Int → LI → Int → Int → LM → Int → Int → LLM → LM → LLM → LLM → Option R) (s9 : LLI) (s10 : Int) (s11 : Int) (s12 : LI) (s13 : Int) (s14 : Int) (s15 : LLM) (s16 : LM) (s17 : LLM) (s18 : LLM) : Option R :=
  bif (decide (s14 < s13)) then
    bif (decide (0 ≤ s14) && decide (s14 < (s12.length : Int))) then
      bif (decide (s16.length + ([(Move.mk (0 : Int) (listAt s12 (0 : Int) s14.toNat))] : LM).length ≤ lim)) then
        bif (decide (0 ≤ (listAt s12 (0 : Int) s14.toNat)) && decide ((listAt s12 (0 : Int) s14.toNat) < (s15.length : Int))) then
          w2 s9 s10 s11 s12 s13 s14 (listAt s15 [] (listAt s12 (0 : Int) s14.toNat).toNat) ((listAt s15 [] (listAt s12 (0 : Int) s14.toNat).toNat).length : Int) (0 : Int) s15 (s16 ++ ([(Move.mk (0 : Int) (listAt s12 (0 : Int) s14.toNat))] : LM)) s17 s18
        else none
      else none
    else none
  else k1_e2 s9 s10 s11 s15 s16 s17 s18
def f88.s1 {R : Type} (L N : Nat) (k1_e2 : LLI → Int → Int → LLM → LM → LLM → LLM → Option R) (rec1 : LLI → Int → Int → LI → Int → Int → LLM → LM → LLM → LLM → Option R) (s9 : LLI) (s10 : Int) (s11 : Int) (s12 : LI) (s13 : Int) (s14 : Int) (s15 : LLM) (s16 : LM) (s17 : LLM) (s18 : LLM) : Option R :=
  f88.s1' L N k1_e2 rec1 (fun s26 s27 s28 s29 s30 s31 s32 s33 s34 s35 s36 s37 s38 => f88.l2 L N (fun z39 z40 z41 z42 z43 z44 z45 z46 z47 z48 => f88.p2_e4 L N k1_e2 rec1 z39 z40 z41 z42 z43 z44 z45 z46 z47 z48) L s26 s27 s28 s29 s30 s31 s32 s33 s34 s35 s36 s37 s38) s9 s10 s11 s12 s13 s14 s15 s16 s17 s18
def f88.l1 {R : Type} (L N : Nat) (k1_e2 : LLI → Int → Int → LLM → LM → LLM → LLM → Option R) : Nat → LLI → Int → Int → LI → Int → Int → LLM → LM → LLM → LLM → Option R
  | 0, _, _, _, _, _, _, _, _, _, _ => none
  | n + 1, s9, s10, s11, s12, s13, s14, s15, s16, s17, s18 => f88.s1 L N k1_e2 (f88.l1 L N k1_e2 n) s9 s10 s11 s12 s13 s14 s15 s16 s17 s18
def f88.T1 (s9 : LLI) (s10 : Int) (s11 : Int) (s12 : LI) (s13 : Int) (s14 : Int) (s15 : LLM) (s16 : LM) (s17 : LLM) (s18 : LLM) : T := mkT 79 [(1, (.ptr 1001 0)), (2, (.ptr 1002 0)), (3, (.tv (.sl (.sl i64)) s9)), (4, (.ptr 1004 0)), (6, (.row 1022)), (18, (.tv i64 s10)), (19, (.tv i64 s11)), (26, (.tv (.sl i64) s12)), (27, (.tv i64 s13)), (28, (.tv i64 s14))]
def f88.H1 (s9 : LLI) (s10 : Int) (s11 : Int) (s12 : LI) (s13 : Int) (s14 : Int) (s15 : LLM) (s16 : LM) (s17 : LLM) (s18 : LLM) : H := [(1001, (.box [(.tv (.sl (.sl (.st 0))) s15)])), (1002, (.box [(.row 1900)])), (1004, (.box [(.row 1901)])), (1022, (.row 53 (.st 0) s16)), (1900, (.deep 0 (.sl (.st 0)) s17 none)), (1901, (.deep 0 (.sl (.st 0)) s18 none))]
def f88.T1_e2 (z19 : LLI) (z20 : Int) (z21 : Int) (z22 : LLM) (z23 : LM) (z24 : LLM) (z25 : LLM) : T := mkT 79 [(1, (.ptr 1001 0)), (2, (.ptr 1002 0)), (3, (.tv (.sl (.sl i64)) z19)), (4, (.ptr 1004 0)), (6, (.row 1022)), (18, (.tv i64 z20)), (19, (.tv i64 z21))]
def f88.H1_e2 (z19 : LLI) (z20 : Int) (z21 : Int) (z22 : LLM) (z23 : LM) (z24 : LLM) (z25 : LLM) : H := [(1001, (.box [(.tv (.sl (.sl (.st 0))) z22)])), (1002, (.box [(.row 1900)])), (1004, (.box [(.row 1901)])), (1022, (.row 53 (.st 0) z23)), (1900, (.deep 0 (.sl (.st 0)) z24 none)), (1901, (.deep 0 (.sl (.st 0)) z25 none))]
def f88.p1_e2' {R : Type} (L N : Nat) (k0_e0 : LLM → LLM → Option R) (rec0 : LLI → Int → Int → LLM → LLM → LLM → Option R) (z19 : LLI) (z20 : Int) (z21 : Int) (z22 : LLM) (z23 : LM) (z24 : LLM) (z25 : LLM) : Option R :=
  ((fsortM z23)).bind fun y93 =>
  bif (decide (z25.length + ([(tidyM z23)] : LLM).length ≤ lim)) then
    rec0 z19 z20 (wi (z21 + (1 : Int))) z22 z24 (z25 ++ ([(tidyM z23)] : LLM))
  else none
def f88.p1_e2 {R : Type} (L N : Nat) (k0_e0 : LLM → LLM → Option R) (rec0 : LLI → Int → Int → LLM → LLM → LLM → Option R) (z19 : LLI) (z20 : Int) (z21 : Int) (z22 : LLM) (z23 : LM) (z24 : LLM) (z25 : LLM) : Option R :=
  f88.p1_e2' L N k0_e0 rec0 z19 z20 z21 z22 z23 z24 z25
def f88.s0' {R : Type} (L N : Nat) (k0_e0 : LLM → LLM → Option R) (rec0 : LLI → Int → Int → LLM → LLM → LLM → Option R) (w1 : LLI → Int → Int → LI → Int → Int → LLM → LM → LLM → LLM → Option R) (s1 : LLI) (s2 : Int) (s3 : Int) (s4 : LLM) (s5 : LLM) (s6 : LLM) : Option R :=
  bif (decide (s3 < s2)) then
    bif (decide (0 ≤ s3) && decide (s3 < (s1.length : Int))) then
      w1 s1 s2 s3 (listAt s1 [] s3.toNat) ((listAt s1 [] s3.toNat).length : Int) (0 : Int) s4 ([] : LM) s5 s6
    else none
  else k0_e0 s5 s6
def f88.s0 {R : Type} (L N : Nat) (k0_e0 : LLM → LLM → Option R) (rec0 : LLI → Int → Int → LLM → LLM → LLM → Option R) (s1 : LLI) (s2 : Int) (s3 : Int) (s4 : LLM) (s5 : LLM) (s6 : LLM) : Option R :=
  f88.s0' L N k0_e0 rec0 (fun s9 s10 s11 s12 s13 s14 s15 s16 s17 s18 => f88.l1 L N (fun z19 z20 z21 z22 z23 z24 z25 => f88.p1_e2 L N k0_e0 rec0 z19 z20 z21 z22 z23 z24 z25) L s9 s10 s11 s12 s13 s14 s15 s16 s17 s18) s1 s2 s3 s4 s5 s6
def f88.l0 {R : Type} (L N : Nat) (k0_e0 : LLM → LLM → Option R) : Nat → LLI → Int → Int → LLM → LLM → LLM → Option R
  | 0, _, _, _, _, _, _ => none
  | n + 1, s1, s2, s3, s4, s5, s6 => f88.s0 L N k0_e0 (f88.l0 L N k0_e0 n) s1 s2 s3 s4 s5 s6
def f88.T0 (s1 : LLI) (s2 : Int) (s3 : Int) (s4 : LLM) (s5 : LLM) (s6 : LLM) : T := mkT 79 [(1, (.ptr 1001 0)), (2, (.ptr 1002 0)), (3, (.tv (.sl (.sl i64)) s1)), (4, (.ptr 1004 0)), (18, (.tv i64 s2)), (19, (.tv i64 s3))]
def f88.H0 (s1 : LLI) (s2 : Int) (s3 : Int) (s4 : LLM) (s5 : LLM) (s6 : LLM) : H := [(1001, (.box [(.tv (.sl (.sl (.st 0))) s4)])), (1002, (.box [(.row 1900)])), (1004, (.box [(.row 1901)])), (1900, (.deep 0 (.sl (.st 0)) s5 none)), (1901, (.deep 0 (.sl (.st 0)) s6 none))]
def f88.T0_e0 (z7 : LLM) (z8 : LLM) : T := mkT 79 [(2, (.ptr 1002 0)), (4, (.ptr 1004 0))]
def f88.H0_e0 (z7 : LLM) (z8 : LLM) : H := [(1002, (.box [(.row 1900)])), (1004, (.box [(.row 1901)])), (1900, (.deep 0 (.sl (.st 0)) z7 none)), (1901, (.deep 0 (.sl (.st 0)) z8 none))]
def f88.p0_e0' {R : Type} (L N : Nat) (k : LLM → Option R) (z7 : LLM) (z8 : LLM) : Option R :=
  k z8
def f88.p0_e0 {R : Type} (L N : Nat) (k : LLM → Option R) (z7 : LLM) (z8 : LLM) : Option R :=
  f88.p0_e0' L N k z7 z8
def f88.b' {R : Type} (L N : Nat) (k : LLM → Option R) (w0 : LLI → Int → Int → LLM → LLM → LLM → Option R) (x0 : Graph) : Option R :=
  (f124 L N (Graph.mk x0.moves)).bind fun y0 =>
  w0 y0 (x0.moves.length : Int) (0 : Int) x0.moves ([] : LLM) ([] : LLM)
def f88.b {R : Type} (L N : Nat) (k : LLM → Option R) (x0 : Graph) : Option R :=
  f88.b' L N k (fun s1 s2 s3 s4 s5 s6 => f88.l0 L N (fun z7 z8 => f88.p0_e0 L N k z7 z8) L s1 s2 s3 s4 s5 s6) x0
def f88 (L N : Nat) (x0 : Graph) : Option (LLM) := f88.b L N some x0
def f88.ent (L N : Nat) (args : List AV) (vw : View) (site : Nat) : Ans := match roD [(.st 2)] vw args with
  | some d => ⟨LLM, f88 L N d.1, fun y => (RN.av site (.agg []) (()), [(site, some (mkO (some 0) 51 (.sl (.st 0)) y))], [])⟩
  | none => Ans.no
noncomputable def E88 (L N : Nat) : Env := { P := Try.prog, ty := tyOf, Φ := (Φ124 L N), inl := inlT, live := lives, liveX := livesX, L := L, dp := (some 0), prom := promT, heal := healT, ren := renT }
noncomputable def f88.c0 : Code := loopAt 0 (codeOf Try.f88)
noncomputable def f88.c1 : Code := loopAt 2 f88.c0
noncomputable def f88.c2 : Code := loopAt 4 f88.c1
noncomputable def f88.c3 : Code := loopAt 6 f88.c2
def f88.X3_e6 {R : Type} (κ : KX R) := fun z67 z68 z69 z70 z71 z72 z73 z74 z75 z76 z77 z78 z79 => κ (.exit 6) (f88.T3_e6 z67 z68 z69 z70 z71 z72 z73 z74 z75 z76 z77 z78 z79) (f88.H3_e6 z67 z68 z69 z70 z71 z72 z73 z74 z75 z76 z77 z78 z79)
def f88.R3 {R : Type} (rec : KT R) := fun s49 s50 s51 s52 s53 s54 s55 s56 s57 s58 s59 s60 s61 s62 s63 s64 s65 s66 => rec (f88.T3 s49 s50 s51 s52 s53 s54 s55 s56 s57 s58 s59 s60 s61 s62 s63 s64 s65 s66) (f88.H3 s49 s50 s51 s52 s53 s54 s55 s56 s57 s58 s59 s60 s61 s62 s63 s64 s65 s66)
theorem f88.s3_eq {R : Type} (L N : Nat) (κ : KX R) (rec : KT R) (s49 : LLI) (s50 : Int) (s51 : Int) (s52 : LI) (s53 : Int) (s54 : Int) (s55 : LM) (s56 : Int) (s57 : Int) (s58 : LI) (s59 : Int) (s60 : Int) (s61 : LLM) (s62 : Int) (s63 : Int) (s64 : LM) (s65 : LLM) (s66 : LLM) :
    evRd (E88 L N) (evCallI (E88 L N) 1 2000) 1000 88 79 6 f88.c3 κ rec (f88.T3 s49 s50 s51 s52 s53 s54 s55 s56 s57 s58 s59 s60 s61 s62 s63 s64 s65 s66) (f88.H3 s49 s50 s51 s52 s53 s54 s55 s56 s57 s58 s59 s60 s61 s62 s63 s64 s65 s66)
    = f88.s3 L N (f88.X3_e6 κ) (f88.R3 rec) s49 s50 s51 s52 s53 s54 s55 s56 s57 s58 s59 s60 s61 s62 s63 s64 s65 s66 := by kernel_rfl
theorem f88.l3_eq {R : Type} (L N : Nat) (κ : KX R) : ∀ (n : Nat) (s49 : LLI) (s50 : Int) (s51 : Int) (s52 : LI) (s53 : Int) (s54 : Int) (s55 : LM) (s56 : Int) (s57 : Int) (s58 : LI) (s59 : Int) (s60 : Int) (s61 : LLM) (s62 : Int) (s63 : Int) (s64 : LM) (s65 : LLM) (s66 : LLM),
    evLp (E88 L N) (evCallI (E88 L N) 1 2000) 1000 88 79 6 f88.c3 κ n (f88.T3 s49 s50 s51 s52 s53 s54 s55 s56 s57 s58 s59 s60 s61 s62 s63 s64 s65 s66) (f88.H3 s49 s50 s51 s52 s53 s54 s55 s56 s57 s58 s59 s60 s61 s62 s63 s64 s65 s66)
    = f88.l3 L N (f88.X3_e6 κ) n s49 s50 s51 s52 s53 s54 s55 s56 s57 s58 s59 s60 s61 s62 s63 s64 s65 s66 := by
  intro n
  induction n with
  | zero => intros; rfl
  | succ n ih =>
    intro s49 s50 s51 s52 s53 s54 s55 s56 s57 s58 s59 s60 s61 s62 s63 s64 s65 s66
    rw [evLp_succ, f88.s3_eq]
    delta f88.R3
    simp only [ih]
    rfl
def f88.X2_e4 {R : Type} (κ : KX R) := fun z39 z40 z41 z42 z43 z44 z45 z46 z47 z48 => κ (.exit 4) (f88.T2_e4 z39 z40 z41 z42 z43 z44 z45 z46 z47 z48) (f88.H2_e4 z39 z40 z41 z42 z43 z44 z45 z46 z47 z48)
def f88.R2 {R : Type} (rec : KT R) := fun s26 s27 s28 s29 s30 s31 s32 s33 s34 s35 s36 s37 s38 => rec (f88.T2 s26 s27 s28 s29 s30 s31 s32 s33 s34 s35 s36 s37 s38) (f88.H2 s26 s27 s28 s29 s30 s31 s32 s33 s34 s35 s36 s37 s38)
theorem f88.p3_e6_eq {R : Type} (L N : Nat) (κ : KX R) (rec : KT R) (z67 : LLI) (z68 : Int) (z69 : Int) (z70 : LI) (z71 : Int) (z72 : Int) (z73 : LM) (z74 : Int) (z75 : Int) (z76 : LLM) (z77 : LM) (z78 : LLM) (z79 : LLM) :
    (contAt (E88 L N) (evCallI (E88 L N) 1 2000) 1000 88 79 6 f88.c2 (rdK (E88 L N) 1000 88 79 4 κ rec)) (.exit 6) (f88.T3_e6 z67 z68 z69 z70 z71 z72 z73 z74 z75 z76 z77 z78 z79) (f88.H3_e6 z67 z68 z69 z70 z71 z72 z73 z74 z75 z76 z77 z78 z79)
    = f88.p3_e6 L N (f88.X2_e4 κ) (f88.R2 rec) z67 z68 z69 z70 z71 z72 z73 z74 z75 z76 z77 z78 z79 := by kernel_rfl
theorem f88.s2_eq {R : Type} (L N : Nat) (κ : KX R) (rec : KT R) (s26 : LLI) (s27 : Int) (s28 : Int) (s29 : LI) (s30 : Int) (s31 : Int) (s32 : LM) (s33 : Int) (s34 : Int) (s35 : LLM) (s36 : LM) (s37 : LLM) (s38 : LLM) :
    evRd (E88 L N) (evCallI (E88 L N) 1 2000) 1000 88 79 4 f88.c2 κ rec (f88.T2 s26 s27 s28 s29 s30 s31 s32 s33 s34 s35 s36 s37 s38) (f88.H2 s26 s27 s28 s29 s30 s31 s32 s33 s34 s35 s36 s37 s38)
    = f88.s2 L N (f88.X2_e4 κ) (f88.R2 rec) s26 s27 s28 s29 s30 s31 s32 s33 s34 s35 s36 s37 s38 := by
  refine Eq.trans (b := f88.s2' L N (f88.X2_e4 κ) (f88.R2 rec) (fun s49 s50 s51 s52 s53 s54 s55 s56 s57 s58 s59 s60 s61 s62 s63 s64 s65 s66 => evLp (E88 L N) (evCallI (E88 L N) 1 2000) 1000 88 79 6 f88.c3 (contAt (E88 L N) (evCallI (E88 L N) 1 2000) 1000 88 79 6 f88.c2 (rdK (E88 L N) 1000 88 79 4 κ rec)) L (f88.T3 s49 s50 s51 s52 s53 s54 s55 s56 s57 s58 s59 s60 s61 s62 s63 s64 s65 s66) (f88.H3 s49 s50 s51 s52 s53 s54 s55 s56 s57 s58 s59 s60 s61 s62 s63 s64 s65 s66)) s26 s27 s28 s29 s30 s31 s32 s33 s34 s35 s36 s37 s38) (by kernel_rfl) ?_
  unfold f88.s2
  simp only [f88.l3_eq]
  delta f88.X3_e6
  simp only [f88.p3_e6_eq]
theorem f88.l2_eq {R : Type} (L N : Nat) (κ : KX R) : ∀ (n : Nat) (s26 : LLI) (s27 : Int) (s28 : Int) (s29 : LI) (s30 : Int) (s31 : Int) (s32 : LM) (s33 : Int) (s34 : Int) (s35 : LLM) (s36 : LM) (s37 : LLM) (s38 : LLM),
    evLp (E88 L N) (evCallI (E88 L N) 1 2000) 1000 88 79 4 f88.c2 κ n (f88.T2 s26 s27 s28 s29 s30 s31 s32 s33 s34 s35 s36 s37 s38) (f88.H2 s26 s27 s28 s29 s30 s31 s32 s33 s34 s35 s36 s37 s38)
    = f88.l2 L N (f88.X2_e4 κ) n s26 s27 s28 s29 s30 s31 s32 s33 s34 s35 s36 s37 s38 := by
  intro n
  induction n with
  | zero => intros; rfl
  | succ n ih =>
    intro s26 s27 s28 s29 s30 s31 s32 s33 s34 s35 s36 s37 s38
    rw [evLp_succ, f88.s2_eq]
    delta f88.R2
    simp only [ih]
    rfl
def f88.X1_e2 {R : Type} (κ : KX R) := fun z19 z20 z21 z22 z23 z24 z25 => κ (.exit 2) (f88.T1_e2 z19 z20 z21 z22 z23 z24 z25) (f88.H1_e2 z19 z20 z21 z22 z23 z24 z25)
def f88.R1 {R : Type} (rec : KT R) := fun s9 s10 s11 s12 s13 s14 s15 s16 s17 s18 => rec (f88.T1 s9 s10 s11 s12 s13 s14 s15 s16 s17 s18) (f88.H1 s9 s10 s11 s12 s13 s14 s15 s16 s17 s18)
theorem f88.p2_e4_eq {R : Type} (L N : Nat) (κ : KX R) (rec : KT R) (z39 : LLI) (z40 : Int) (z41 : Int) (z42 : LI) (z43 : Int) (z44 : Int) (z45 : LLM) (z46 : LM) (z47 : LLM) (z48 : LLM) :
    (contAt (E88 L N) (evCallI (E88 L N) 1 2000) 1000 88 79 4 f88.c1 (rdK (E88 L N) 1000 88 79 2 κ rec)) (.exit 4) (f88.T2_e4 z39 z40 z41 z42 z43 z44 z45 z46 z47 z48) (f88.H2_e4 z39 z40 z41 z42 z43 z44 z45 z46 z47 z48)
    = f88.p2_e4 L N (f88.X1_e2 κ) (f88.R1 rec) z39 z40 z41 z42 z43 z44 z45 z46 z47 z48 := by kernel_rfl
theorem f88.s1_eq {R : Type} (L N : Nat) (κ : KX R) (rec : KT R) (s9 : LLI) (s10 : Int) (s11 : Int) (s12 : LI) (s13 : Int) (s14 : Int) (s15 : LLM) (s16 : LM) (s17 : LLM) (s18 : LLM) :
    evRd (E88 L N) (evCallI (E88 L N) 1 2000) 1000 88 79 2 f88.c1 κ rec (f88.T1 s9 s10 s11 s12 s13 s14 s15 s16 s17 s18) (f88.H1 s9 s10 s11 s12 s13 s14 s15 s16 s17 s18)
    = f88.s1 L N (f88.X1_e2 κ) (f88.R1 rec) s9 s10 s11 s12 s13 s14 s15 s16 s17 s18 := by
  refine Eq.trans (b := f88.s1' L N (f88.X1_e2 κ) (f88.R1 rec) (fun s26 s27 s28 s29 s30 s31 s32 s33 s34 s35 s36 s37 s38 => evLp (E88 L N) (evCallI (E88 L N) 1 2000) 1000 88 79 4 f88.c2 (contAt (E88 L N) (evCallI (E88 L N) 1 2000) 1000 88 79 4 f88.c1 (rdK (E88 L N) 1000 88 79 2 κ rec)) L (f88.T2 s26 s27 s28 s29 s30 s31 s32 s33 s34 s35 s36 s37 s38) (f88.H2 s26 s27 s28 s29 s30 s31 s32 s33 s34 s35 s36 s37 s38)) s9 s10 s11 s12 s13 s14 s15 s16 s17 s18) (by kernel_rfl) ?_
  unfold f88.s1
  simp only [f88.l2_eq]
  delta f88.X2_e4
  simp only [f88.p2_e4_eq]
theorem f88.l1_eq {R : Type} (L N : Nat) (κ : KX R) : ∀ (n : Nat) (s9 : LLI) (s10 : Int) (s11 : Int) (s12 : LI) (s13 : Int) (s14 : Int) (s15 : LLM) (s16 : LM) (s17 : LLM) (s18 : LLM),
    evLp (E88 L N) (evCallI (E88 L N) 1 2000) 1000 88 79 2 f88.c1 κ n (f88.T1 s9 s10 s11 s12 s13 s14 s15 s16 s17 s18) (f88.H1 s9 s10 s11 s12 s13 s14 s15 s16 s17 s18)
    = f88.l1 L N (f88.X1_e2 κ) n s9 s10 s11 s12 s13 s14 s15 s16 s17 s18 := by
  intro n
  induction n with
  | zero => intros; rfl
  | succ n ih =>
    intro s9 s10 s11 s12 s13 s14 s15 s16 s17 s18
    rw [evLp_succ, f88.s1_eq]
    delta f88.R1
    simp only [ih]
    rfl
def f88.X0_e0 {R : Type} (κ : KX R) := fun z7 z8 => κ (.exit 0) (f88.T0_e0 z7 z8) (f88.H0_e0 z7 z8)
def f88.R0 {R : Type} (rec : KT R) := fun s1 s2 s3 s4 s5 s6 => rec (f88.T0 s1 s2 s3 s4 s5 s6) (f88.H0 s1 s2 s3 s4 s5 s6)
theorem f88.p1_e2_eq {R : Type} (L N : Nat) (κ : KX R) (rec : KT R) (z19 : LLI) (z20 : Int) (z21 : Int) (z22 : LLM) (z23 : LM) (z24 : LLM) (z25 : LLM) :
    (contAt (E88 L N) (evCallI (E88 L N) 1 2000) 1000 88 79 2 f88.c0 (rdK (E88 L N) 1000 88 79 0 κ rec)) (.exit 2) (f88.T1_e2 z19 z20 z21 z22 z23 z24 z25) (f88.H1_e2 z19 z20 z21 z22 z23 z24 z25)
    = f88.p1_e2 L N (f88.X0_e0 κ) (f88.R0 rec) z19 z20 z21 z22 z23 z24 z25 := by kernel_rfl
theorem f88.s0_eq {R : Type} (L N : Nat) (κ : KX R) (rec : KT R) (s1 : LLI) (s2 : Int) (s3 : Int) (s4 : LLM) (s5 : LLM) (s6 : LLM) :
    evRd (E88 L N) (evCallI (E88 L N) 1 2000) 1000 88 79 0 f88.c0 κ rec (f88.T0 s1 s2 s3 s4 s5 s6) (f88.H0 s1 s2 s3 s4 s5 s6)
    = f88.s0 L N (f88.X0_e0 κ) (f88.R0 rec) s1 s2 s3 s4 s5 s6 := by
  refine Eq.trans (b := f88.s0' L N (f88.X0_e0 κ) (f88.R0 rec) (fun s9 s10 s11 s12 s13 s14 s15 s16 s17 s18 => evLp (E88 L N) (evCallI (E88 L N) 1 2000) 1000 88 79 2 f88.c1 (contAt (E88 L N) (evCallI (E88 L N) 1 2000) 1000 88 79 2 f88.c0 (rdK (E88 L N) 1000 88 79 0 κ rec)) L (f88.T1 s9 s10 s11 s12 s13 s14 s15 s16 s17 s18) (f88.H1 s9 s10 s11 s12 s13 s14 s15 s16 s17 s18)) s1 s2 s3 s4 s5 s6) (by kernel_rfl) ?_
  unfold f88.s0
  simp only [f88.l1_eq]
  delta f88.X1_e2
  simp only [f88.p1_e2_eq]
theorem f88.l0_eq {R : Type} (L N : Nat) (κ : KX R) : ∀ (n : Nat) (s1 : LLI) (s2 : Int) (s3 : Int) (s4 : LLM) (s5 : LLM) (s6 : LLM),
    evLp (E88 L N) (evCallI (E88 L N) 1 2000) 1000 88 79 0 f88.c0 κ n (f88.T0 s1 s2 s3 s4 s5 s6) (f88.H0 s1 s2 s3 s4 s5 s6)
    = f88.l0 L N (f88.X0_e0 κ) n s1 s2 s3 s4 s5 s6 := by
  intro n
  induction n with
  | zero => intros; rfl
  | succ n ih =>
    intro s1 s2 s3 s4 s5 s6
    rw [evLp_succ, f88.s0_eq]
    delta f88.R0
    simp only [ih]
    rfl
theorem f88.p0_e0_eq {R : Type} (L N : Nat) (κ : RN.Den (.agg []) → List LM → Option R) (z7 : LLM) (z8 : LLM) :
    (contAt (E88 L N) (evCallI (E88 L N) 1 2000) 1000 88 79 0 (codeOf Try.f88) (finK (E88 L N) 1000 Try.f88 (finN (.agg []) (some 0) 51 (.sl (.st 0)) κ))) (.exit 0) (f88.T0_e0 z7 z8) (f88.H0_e0 z7 z8)
    = f88.p0_e0 L N (fun a0 => κ (()) a0) z7 z8 := by kernel_rfl
theorem f88.b_eq {R : Type} (L N : Nat) (κ : RN.Den (.agg []) → List LM → Option R) (x0 : Graph) :
    evBody (E88 L N) (evCallI (E88 L N) 1 2000) 1000 88 Try.f88 [(.tv (.st 2) x0)] [] [] (finN (.agg []) (some 0) 51 (.sl (.st 0)) κ)
    = f88.b L N (fun a0 => κ (()) a0) x0 := by
  refine Eq.trans (b := f88.b' L N (fun a0 => κ (()) a0) (fun s1 s2 s3 s4 s5 s6 => evLp (E88 L N) (evCallI (E88 L N) 1 2000) 1000 88 79 0 f88.c0 (contAt (E88 L N) (evCallI (E88 L N) 1 2000) 1000 88 79 0 (codeOf Try.f88) (finK (E88 L N) 1000 Try.f88 (finN (.agg []) (some 0) 51 (.sl (.st 0)) κ))) L (f88.T0 s1 s2 s3 s4 s5 s6) (f88.H0 s1 s2 s3 s4 s5 s6)) x0) (by kernel_rfl) ?_
  unfold f88.b
  simp only [f88.l0_eq]
  delta f88.X0_e0
  simp only [f88.p0_e0_eq]
theorem f88.ok (L N : Nat) (hΦ : TellsOk Try.prog ((Φ124 L N))) : EntOk Try.prog 88 (f88.ent L N) := by
  intro args vw site h
  unfold f88.ent
  split
  · rename_i d ha
    intro y hy hs
    refine call_ron (y := y) (dep := 1000) (E := (E88 L N)) (ts := [(.st 2)]) (rn := (.agg [])) (q := (some 0)) (el := 51) (ty := (.sl (.st 0))) (d1 := (())) (xs := y) (κ := (fun d xs => some xs)) (sound_of hΦ) okP (callI_sound (sound_of hΦ) okP 1 2000) (f := Try.f88) rfl hs ha ?_ (fun _ _ h => by obtain rfl := Option.some.inj h; exact ⟨rfl, rfl⟩) rfl site
    exact (f88.b_eq L N (fun d xs => some xs) d.1).trans (Eq.trans (b := f88.b L N some d.1) (by kernel_rfl) hy)
  · intro y hy
    cases hy
def Φ88 (L N : Nat) : Tells := (addT (Φ124 L N) 88 (f88.ent L N))
theorem Φ88_ok (L N : Nat) : TellsOk Try.prog (Φ88 L N) := addT_ok (Φ124_ok L N) (f88.ok L N (Φ124_ok L N))
def f47.b' {R : Type} (L N : Nat) (k : LLM → Bool → Option R) (x0 : Graph) : Option R :=
  (f32 L N (Graph.mk x0.moves)).bind fun y0 =>
  bif (!y0) then
    k [] false
  else (f88 L N (Graph.mk x0.moves)).bind fun y1 =>
  k y1 true
def f47.b {R : Type} (L N : Nat) (k : LLM → Bool → Option R) (x0 : Graph) : Option R :=
  f47.b' L N k x0
def f47 (L N : Nat) (x0 : Graph) : Option (LLM × Bool) := f47.b L N (fun a0 a1 => some (a0, a1)) x0
def f47.ent (L N : Nat) (args : List AV) (vw : View) (site : Nat) : Ans := match roD [(.st 2)] vw args with
  | some d => ⟨LLM × Bool, f47 L N d.1, fun y => (RN.av site (.tup (.agg []) [.bool]) ((()), (y.2, ())), [(site, some (mkO (some 0) 51 (.sl (.st 0)) y.1))], [])⟩
  | none => Ans.no
noncomputable def E47 (L N : Nat) : Env := { P := Try.prog, ty := tyOf, Φ := (Φ88 L N), inl := inlT, live := lives, liveX := livesX, L := L, dp := (some 0), prom := promT, heal := healT, ren := renT }
theorem f47.b_eq {R : Type} (L N : Nat) (κ : RN.Den (.tup (.agg []) [.bool]) → List LM → Option R) (x0 : Graph) :
    evBody (E47 L N) (evCallI (E47 L N) 1 2000) 1000 47 Try.f47 [(.tv (.st 2) x0)] [] [] (finN (.tup (.agg []) [.bool]) (some 0) 51 (.sl (.st 0)) κ)
    = f47.b L N (fun a0 a1 => κ ((()), (a1, ())) a0) x0 := by kernel_rfl
theorem f47.ok (L N : Nat) (hΦ : TellsOk Try.prog ((Φ88 L N))) : EntOk Try.prog 47 (f47.ent L N) := by
  intro args vw site h
  unfold f47.ent
  split
  · rename_i d ha
    intro y hy hs
    refine call_ron (y := y) (dep := 1000) (E := (E47 L N)) (ts := [(.st 2)]) (rn := (.tup (.agg []) [.bool])) (q := (some 0)) (el := 51) (ty := (.sl (.st 0))) (d1 := ((()), (y.2, ()))) (xs := y.1) (κ := (fun d xs => some (xs, d.2.1))) (sound_of hΦ) okP (callI_sound (sound_of hΦ) okP 1 2000) (f := Try.f47) rfl hs ha ?_ (fun _ _ h => by obtain rfl := Option.some.inj h; exact ⟨rfl, rfl⟩) rfl site
    exact (f47.b_eq L N (fun d xs => some (xs, d.2.1)) d.1).trans (Eq.trans (b := f47.b L N (fun a0 a1 => some (a0, a1)) d.1) (by kernel_rfl) hy)
  · intro y hy
    cases hy
def Φ47 (L N : Nat) : Tells := (addT (Φ88 L N) 47 (f47.ent L N))
theorem Φ47_ok (L N : Nat) : TellsOk Try.prog (Φ47 L N) := addT_ok (Φ88_ok L N) (f47.ok L N (Φ88_ok L N))
def f96.b' {R : Type} (L N : Nat) (k : Bool → Option R) (x0 : Int) (x1 : Int) (x2 : Int) : Option R :=
  bif (decide (x0 ≥ x1)) then
    k (decide (x0 ≤ x2))
  else k false
def f96.b {R : Type} (L N : Nat) (k : Bool → Option R) (x0 : Int) (x1 : Int) (x2 : Int) : Option R :=
  f96.b' L N k x0 x1 x2
def f96 (L N : Nat) (x0 : Int) (x1 : Int) (x2 : Int) : Option (Bool) := f96.b L N some x0 x1 x2
def f96.ent (L N : Nat) := entRo [i64, i64, i64] (.one .bool) fun d => f96 L N d.1 d.2.1 d.2.2.1
noncomputable def E96 (L N : Nat) : Env := { P := Try.prog, ty := tyOf, Φ := (Φ47 L N), inl := inlT, live := lives, liveX := livesX, L := L, dp := none, prom := promT, heal := healT, ren := renT }
theorem f96.b_eq {R : Type} (L N : Nat) (κ : AV → Option R) (x0 : Int) (x1 : Int) (x2 : Int) :
    evBody (E96 L N) (evCallI (E96 L N) 1 2000) 1000 96 Try.f96 [(.tv i64 x0), (.tv i64 x1), (.tv i64 x2)] [] [] (finC (.one .bool) κ)
    = f96.b L N (fun a0 => κ (.tv .bool a0)) x0 x1 x2 := by kernel_rfl
theorem f96.ok (L N : Nat) (hΦ : TellsOk Try.prog ((Φ47 L N))) : EntOk Try.prog 96 (f96.ent L N) := entRo_ok (E := (E96 L N)) (dep := 1000) (f := Try.f96) (sound_of hΦ) okP (callI_sound (sound_of hΦ) okP 1 2000) rfl rfl fun d _ hy => (f96.b_eq L N (unR (.one .bool)) d.1 d.2.1 d.2.2.1).trans (Eq.trans (b := f96.b L N some d.1 d.2.1 d.2.2.1) (by kernel_rfl) hy)
def Φ96 (L N : Nat) : Tells := (addT (Φ47 L N) 96 (f96.ent L N))
theorem Φ96_ok (L N : Nat) : TellsOk Try.prog (Φ96 L N) := addT_ok (Φ47_ok L N) (f96.ok L N (Φ47_ok L N))
def f97.b' {R : Type} (L N : Nat) (k : Bool → Option R) (x0 : Int) : Option R :=
  (f96 L N x0 (-4 : Int) (4 : Int)).bind fun y0 =>
  k y0
def f97.b {R : Type} (L N : Nat) (k : Bool → Option R) (x0 : Int) : Option R :=
  f97.b' L N k x0
def f97 (L N : Nat) (x0 : Int) : Option (Bool) := f97.b L N some x0
def f97.ent (L N : Nat) := entRo [i64] (.one .bool) fun d => f97 L N d.1
noncomputable def E97 (L N : Nat) : Env := { P := Try.prog, ty := tyOf, Φ := (Φ96 L N), inl := inlT, live := lives, liveX := livesX, L := L, dp := none, prom := promT, heal := healT, ren := renT }
theorem f97.b_eq {R : Type} (L N : Nat) (κ : AV → Option R) (x0 : Int) :
    evBody (E97 L N) (evCallI (E97 L N) 1 2000) 1000 97 Try.f97 [(.tv i64 x0)] [] [] (finC (.one .bool) κ)
    = f97.b L N (fun a0 => κ (.tv .bool a0)) x0 := by kernel_rfl
theorem f97.ok (L N : Nat) (hΦ : TellsOk Try.prog ((Φ96 L N))) : EntOk Try.prog 97 (f97.ent L N) := entRo_ok (E := (E97 L N)) (dep := 1000) (f := Try.f97) (sound_of hΦ) okP (callI_sound (sound_of hΦ) okP 1 2000) rfl rfl fun d _ hy => (f97.b_eq L N (unR (.one .bool)) d.1).trans (Eq.trans (b := f97.b L N some d.1) (by kernel_rfl) hy)
def Φ97 (L N : Nat) : Tells := (addT (Φ96 L N) 97 (f97.ent L N))
theorem Φ97_ok (L N : Nat) : TellsOk Try.prog (Φ97 L N) := addT_ok (Φ96_ok L N) (f97.ok L N (Φ96_ok L N))
def f98.b' {R : Type} (L N : Nat) (k : Bool → Option R) (x0 : Move) (x1 : Move) : Option R :=
  bif (decide (x0.act < x1.act)) then
    k true
  else bif (x0.act == x1.act) then
    k (decide (x0.to < x1.to))
  else k false
def f98.b {R : Type} (L N : Nat) (k : Bool → Option R) (x0 : Move) (x1 : Move) : Option R :=
  f98.b' L N k x0 x1
def f98 (L N : Nat) (x0 : Move) (x1 : Move) : Option (Bool) := f98.b L N some x0 x1
def f98.ent (L N : Nat) := entRo [(.st 0), (.st 0)] (.one .bool) fun d => f98 L N d.1 d.2.1
noncomputable def E98 (L N : Nat) : Env := { P := Try.prog, ty := tyOf, Φ := (Φ97 L N), inl := inlT, live := lives, liveX := livesX, L := L, dp := none, prom := promT, heal := healT, ren := renT }
theorem f98.b_eq {R : Type} (L N : Nat) (κ : AV → Option R) (x0 : Move) (x1 : Move) :
    evBody (E98 L N) (evCallI (E98 L N) 1 2000) 1000 98 Try.f98 [(.tv (.st 0) x0), (.tv (.st 0) x1)] [] [] (finC (.one .bool) κ)
    = f98.b L N (fun a0 => κ (.tv .bool a0)) x0 x1 := by kernel_rfl
theorem f98.ok (L N : Nat) (hΦ : TellsOk Try.prog ((Φ97 L N))) : EntOk Try.prog 98 (f98.ent L N) := entRo_ok (E := (E98 L N)) (dep := 1000) (f := Try.f98) (sound_of hΦ) okP (callI_sound (sound_of hΦ) okP 1 2000) rfl rfl fun d _ hy => (f98.b_eq L N (unR (.one .bool)) d.1 d.2.1).trans (Eq.trans (b := f98.b L N some d.1 d.2.1) (by kernel_rfl) hy)
def Φ98 (L N : Nat) : Tells := (addT (Φ97 L N) 98 (f98.ent L N))
theorem Φ98_ok (L N : Nat) : TellsOk Try.prog (Φ98 L N) := addT_ok (Φ97_ok L N) (f98.ok L N (Φ97_ok L N))
def f58.s1' {R : Type} (L N : Nat) (k1_e2 : Int → LLM → Option R) (k1_r : Bool → Int → LLM → Option R) (rec1 : Int → Int → LLM → Option R) (s3 : Int) (s4 : Int) (s5 : LLM) : Option R :=
  bif (decide (0 ≤ s3) && decide (s3 < (s5.length : Int))) then
    bif (decide (s4 < ((listAt s5 [] s3.toNat).length : Int))) then
      bif (decide (0 ≤ s3) && decide (s3 < (s5.length : Int))) then
        bif (decide (0 ≤ s4) && decide (s4 < ((listAt s5 [] s3.toNat).length : Int))) then
          (f97 L N ((listAt (listAt s5 [] s3.toNat) (Ty.dflt (.st 0)) s4.toNat).act)).bind fun y8 =>
          bif (!y8) then
            k1_r false s3 s5
          else (f96 L N ((listAt (listAt s5 [] s3.toNat) (Ty.dflt (.st 0)) s4.toNat).to) (0 : Int) (wi ((s5.length : Int) - (1 : Int)))).bind fun y9 =>
          bif (!y9) then
            k1_r false s3 s5
          else bif (decide (s4 > (0 : Int))) then
            bif (decide (0 ≤ s3) && decide (s3 < (s5.length : Int))) then
              bif (decide (0 ≤ (wi (s4 - (1 : Int)))) && decide ((wi (s4 - (1 : Int))) < ((listAt s5 [] s3.toNat).length : Int))) then
                (f98 L N (listAt (listAt s5 [] s3.toNat) (Ty.dflt (.st 0)) (wi (s4 - (1 : Int))).toNat) (Move.mk ((listAt (listAt s5 [] s3.toNat) (Ty.dflt (.st 0)) s4.toNat).act) ((listAt (listAt s5 [] s3.toNat) (Ty.dflt (.st 0)) s4.toNat).to))).bind fun y10 =>
                bif (!y10) then
                  k1_r false s3 s5
                else rec1 s3 (wi (s4 + (1 : Int))) s5
              else none
            else none
          else rec1 s3 (wi (s4 + (1 : Int))) s5
        else none
      else none
    else k1_e2 s3 s5
  else none
def f58.s1 {R : Type} (L N : Nat) (k1_e2 : Int → LLM → Option R) (k1_r : Bool → Int → LLM → Option R) (rec1 : Int → Int → LLM → Option R) (s3 : Int) (s4 : Int) (s5 : LLM) : Option R :=
  f58.s1' L N k1_e2 k1_r rec1 s3 s4 s5
def f58.l1 {R : Type} (L N : Nat) (k1_e2 : Int → LLM → Option R) (k1_r : Bool → Int → LLM → Option R) : Nat → Int → Int → LLM → Option R
  | 0, _, _, _ => none
  | n + 1, s3, s4, s5 => f58.s1 L N k1_e2 k1_r (f58.l1 L N k1_e2 k1_r n) s3 s4 s5
def f58.T1 (s3 : Int) (s4 : Int) (s5 : LLM) : T := mkT 68 [(1, (.ptr 1001 0)), (3, (.tv i64 s3)), (4, (.tv i64 s4))]
def f58.H1 (s3 : Int) (s4 : Int) (s5 : LLM) : H := [(1001, (.box [(.tv (.sl (.sl (.st 0))) s5)]))]
def f58.T1_e2 (z6 : Int) (z7 : LLM) : T := mkT 68 [(1, (.ptr 1001 0)), (3, (.tv i64 z6))]
def f58.H1_e2 (z6 : Int) (z7 : LLM) : H := [(1001, (.box [(.tv (.sl (.sl (.st 0))) z7)]))]
def f58.T1_r (z15 : Bool) (z16 : Int) (z17 : LLM) : T := mkT 68 [(1, (.ptr 1001 0)), (2, (.tv .bool z15)), (3, (.tv i64 z16))]
def f58.H1_r (z15 : Bool) (z16 : Int) (z17 : LLM) : H := [(1001, (.box [(.tv (.sl (.sl (.st 0))) z17)]))]
def f58.p1_e2' {R : Type} (L N : Nat) (k0_e0 : Option R) (k0_r : Bool → Option R) (rec0 : Int → LLM → Option R) (z6 : Int) (z7 : LLM) : Option R :=
  rec0 (wi (z6 + (1 : Int))) z7
def f58.p1_e2 {R : Type} (L N : Nat) (k0_e0 : Option R) (k0_r : Bool → Option R) (rec0 : Int → LLM → Option R) (z6 : Int) (z7 : LLM) : Option R :=
  f58.p1_e2' L N k0_e0 k0_r rec0 z6 z7
def f58.p1_r' {R : Type} (L N : Nat) (k0_e0 : Option R) (k0_r : Bool → Option R) (rec0 : Int → LLM → Option R) (z15 : Bool) (z16 : Int) (z17 : LLM) : Option R :=
  k0_r z15
def f58.p1_r {R : Type} (L N : Nat) (k0_e0 : Option R) (k0_r : Bool → Option R) (rec0 : Int → LLM → Option R) (z15 : Bool) (z16 : Int) (z17 : LLM) : Option R :=
  f58.p1_r' L N k0_e0 k0_r rec0 z15 z16 z17
def f58.s0' {R : Type} (L N : Nat) (k0_e0 : Option R) (k0_r : Bool → Option R) (rec0 : Int → LLM → Option R) (w1 : Int → Int → LLM → Option R) (s1 : Int) (s2 : LLM) : Option R :=
  bif (decide (s1 < (s2.length : Int))) then
    w1 s1 (0 : Int) s2
  else k0_e0
def f58.s0 {R : Type} (L N : Nat) (k0_e0 : Option R) (k0_r : Bool → Option R) (rec0 : Int → LLM → Option R) (s1 : Int) (s2 : LLM) : Option R :=
  f58.s0' L N k0_e0 k0_r rec0 (fun s3 s4 s5 => f58.l1 L N (fun z6 z7 => f58.p1_e2 L N k0_e0 k0_r rec0 z6 z7) (fun z15 z16 z17 => f58.p1_r L N k0_e0 k0_r rec0 z15 z16 z17) L s3 s4 s5) s1 s2
def f58.l0 {R : Type} (L N : Nat) (k0_e0 : Option R) (k0_r : Bool → Option R) : Nat → Int → LLM → Option R
  | 0, _, _ => none
  | n + 1, s1, s2 => f58.s0 L N k0_e0 k0_r (f58.l0 L N k0_e0 k0_r n) s1 s2
def f58.T0 (s1 : Int) (s2 : LLM) : T := mkT 68 [(1, (.ptr 1001 0)), (3, (.tv i64 s1))]
def f58.H0 (s1 : Int) (s2 : LLM) : H := [(1001, (.box [(.tv (.sl (.sl (.st 0))) s2)]))]
def f58.T0_e0 : T := mkT 68 []
def f58.H0_e0 : H := []
def f58.T0_r (z21 : Bool) : T := mkT 68 [(2, (.tv .bool z21))]
def f58.H0_r (z21 : Bool) : H := []
def f58.p0_e0' {R : Type} (L N : Nat) (k : Bool → Option R) : Option R :=
  k true
def f58.p0_e0 {R : Type} (L N : Nat) (k : Bool → Option R) : Option R :=
  f58.p0_e0' L N k
def f58.p0_r' {R : Type} (L N : Nat) (k : Bool → Option R) (z21 : Bool) : Option R :=
  k z21
def f58.p0_r {R : Type} (L N : Nat) (k : Bool → Option R) (z21 : Bool) : Option R :=
  f58.p0_r' L N k z21
def f58.b' {R : Type} (L N : Nat) (k : Bool → Option R) (w0 : Int → LLM → Option R) (x0 : Graph) : Option R :=
  (f96 L N (x0.moves.length : Int) (1 : Int) (60 : Int)).bind fun y0 =>
  bif (!y0) then
    k false
  else w0 (0 : Int) x0.moves
def f58.b {R : Type} (L N : Nat) (k : Bool → Option R) (x0 : Graph) : Option R :=
  f58.b' L N k (fun s1 s2 => f58.l0 L N (f58.p0_e0 L N k) (fun z21 => f58.p0_r L N k z21) L s1 s2) x0
def f58 (L N : Nat) (x0 : Graph) : Option (Bool) := f58.b L N some x0
def f58.ent (L N : Nat) := entRo [(.st 2)] (.one .bool) fun d => f58 L N d.1
noncomputable def E58 (L N : Nat) : Env := { P := Try.prog, ty := tyOf, Φ := (Φ98 L N), inl := inlT, live := lives, liveX := livesX, L := L, dp := none, prom := promT, heal := healT, ren := renT }
noncomputable def f58.c0 : Code := loopAt 0 (codeOf Try.f58)
noncomputable def f58.c1 : Code := loopAt 2 f58.c0
def f58.X1_e2 {R : Type} (κ : KX R) := fun z6 z7 => κ (.exit 2) (f58.T1_e2 z6 z7) (f58.H1_e2 z6 z7)
def f58.X1_r {R : Type} (κ : KX R) := fun z15 z16 z17 => κ .ret (f58.T1_r z15 z16 z17) (f58.H1_r z15 z16 z17)
def f58.R1 {R : Type} (rec : KT R) := fun s3 s4 s5 => rec (f58.T1 s3 s4 s5) (f58.H1 s3 s4 s5)
theorem f58.s1_eq {R : Type} (L N : Nat) (κ : KX R) (rec : KT R) (s3 : Int) (s4 : Int) (s5 : LLM) :
    evRd (E58 L N) (evCallI (E58 L N) 1 2000) 1000 58 68 2 f58.c1 κ rec (f58.T1 s3 s4 s5) (f58.H1 s3 s4 s5)
    = f58.s1 L N (f58.X1_e2 κ) (f58.X1_r κ) (f58.R1 rec) s3 s4 s5 := by kernel_rfl
theorem f58.l1_eq {R : Type} (L N : Nat) (κ : KX R) : ∀ (n : Nat) (s3 : Int) (s4 : Int) (s5 : LLM),
    evLp (E58 L N) (evCallI (E58 L N) 1 2000) 1000 58 68 2 f58.c1 κ n (f58.T1 s3 s4 s5) (f58.H1 s3 s4 s5)
    = f58.l1 L N (f58.X1_e2 κ) (f58.X1_r κ) n s3 s4 s5 := by
  intro n
  induction n with
  | zero => intros; rfl
  | succ n ih =>
    intro s3 s4 s5
    rw [evLp_succ, f58.s1_eq]
    delta f58.R1
    simp only [ih]
    rfl
def f58.X0_e0 {R : Type} (κ : KX R) := κ (.exit 0) f58.T0_e0 f58.H0_e0
def f58.X0_r {R : Type} (κ : KX R) := fun z21 => κ .ret (f58.T0_r z21) (f58.H0_r z21)
def f58.R0 {R : Type} (rec : KT R) := fun s1 s2 => rec (f58.T0 s1 s2) (f58.H0 s1 s2)
theorem f58.p1_e2_eq {R : Type} (L N : Nat) (κ : KX R) (rec : KT R) (z6 : Int) (z7 : LLM) :
    (contAt (E58 L N) (evCallI (E58 L N) 1 2000) 1000 58 68 2 f58.c0 (rdK (E58 L N) 1000 58 68 0 κ rec)) (.exit 2) (f58.T1_e2 z6 z7) (f58.H1_e2 z6 z7)
    = f58.p1_e2 L N (f58.X0_e0 κ) (f58.X0_r κ) (f58.R0 rec) z6 z7 := by kernel_rfl
theorem f58.p1_r_eq {R : Type} (L N : Nat) (κ : KX R) (rec : KT R) (z15 : Bool) (z16 : Int) (z17 : LLM) :
    (contAt (E58 L N) (evCallI (E58 L N) 1 2000) 1000 58 68 2 f58.c0 (rdK (E58 L N) 1000 58 68 0 κ rec)) .ret (f58.T1_r z15 z16 z17) (f58.H1_r z15 z16 z17)
    = f58.p1_r L N (f58.X0_e0 κ) (f58.X0_r κ) (f58.R0 rec) z15 z16 z17 := by kernel_rfl
theorem f58.s0_eq {R : Type} (L N : Nat) (κ : KX R) (rec : KT R) (s1 : Int) (s2 : LLM) :
    evRd (E58 L N) (evCallI (E58 L N) 1 2000) 1000 58 68 0 f58.c0 κ rec (f58.T0 s1 s2) (f58.H0 s1 s2)
    = f58.s0 L N (f58.X0_e0 κ) (f58.X0_r κ) (f58.R0 rec) s1 s2 := by
  refine Eq.trans (b := f58.s0' L N (f58.X0_e0 κ) (f58.X0_r κ) (f58.R0 rec) (fun s3 s4 s5 => evLp (E58 L N) (evCallI (E58 L N) 1 2000) 1000 58 68 2 f58.c1 (contAt (E58 L N) (evCallI (E58 L N) 1 2000) 1000 58 68 2 f58.c0 (rdK (E58 L N) 1000 58 68 0 κ rec)) L (f58.T1 s3 s4 s5) (f58.H1 s3 s4 s5)) s1 s2) (by kernel_rfl) ?_
  unfold f58.s0
  simp only [f58.l1_eq]
  delta f58.X1_e2 f58.X1_r
  simp only [f58.p1_e2_eq, f58.p1_r_eq]
theorem f58.l0_eq {R : Type} (L N : Nat) (κ : KX R) : ∀ (n : Nat) (s1 : Int) (s2 : LLM),
    evLp (E58 L N) (evCallI (E58 L N) 1 2000) 1000 58 68 0 f58.c0 κ n (f58.T0 s1 s2) (f58.H0 s1 s2)
    = f58.l0 L N (f58.X0_e0 κ) (f58.X0_r κ) n s1 s2 := by
  intro n
  induction n with
  | zero => intros; rfl
  | succ n ih =>
    intro s1 s2
    rw [evLp_succ, f58.s0_eq]
    delta f58.R0
    simp only [ih]
    rfl
theorem f58.p0_e0_eq {R : Type} (L N : Nat) (κ : AV → Option R) :
    (contAt (E58 L N) (evCallI (E58 L N) 1 2000) 1000 58 68 0 (codeOf Try.f58) (finK (E58 L N) 1000 Try.f58 (finC (.one .bool) κ))) (.exit 0) f58.T0_e0 f58.H0_e0
    = f58.p0_e0 L N (fun a0 => κ (.tv .bool a0)) := by kernel_rfl
theorem f58.p0_r_eq {R : Type} (L N : Nat) (κ : AV → Option R) (z21 : Bool) :
    (contAt (E58 L N) (evCallI (E58 L N) 1 2000) 1000 58 68 0 (codeOf Try.f58) (finK (E58 L N) 1000 Try.f58 (finC (.one .bool) κ))) .ret (f58.T0_r z21) (f58.H0_r z21)
    = f58.p0_r L N (fun a0 => κ (.tv .bool a0)) z21 := by kernel_rfl
theorem f58.b_eq {R : Type} (L N : Nat) (κ : AV → Option R) (x0 : Graph) :
    evBody (E58 L N) (evCallI (E58 L N) 1 2000) 1000 58 Try.f58 [(.tv (.st 2) x0)] [] [] (finC (.one .bool) κ)
    = f58.b L N (fun a0 => κ (.tv .bool a0)) x0 := by
  refine Eq.trans (b := f58.b' L N (fun a0 => κ (.tv .bool a0)) (fun s1 s2 => evLp (E58 L N) (evCallI (E58 L N) 1 2000) 1000 58 68 0 f58.c0 (contAt (E58 L N) (evCallI (E58 L N) 1 2000) 1000 58 68 0 (codeOf Try.f58) (finK (E58 L N) 1000 Try.f58 (finC (.one .bool) κ))) L (f58.T0 s1 s2) (f58.H0 s1 s2)) x0) (by kernel_rfl) ?_
  unfold f58.b
  simp only [f58.l0_eq]
  delta f58.X0_e0 f58.X0_r
  simp only [f58.p0_e0_eq, f58.p0_r_eq]
theorem f58.ok (L N : Nat) (hΦ : TellsOk Try.prog ((Φ98 L N))) : EntOk Try.prog 58 (f58.ent L N) := entRo_ok (E := (E58 L N)) (dep := 1000) (f := Try.f58) (sound_of hΦ) okP (callI_sound (sound_of hΦ) okP 1 2000) rfl rfl fun d _ hy => (f58.b_eq L N (unR (.one .bool)) d.1).trans (Eq.trans (b := f58.b L N some d.1) (by kernel_rfl) hy)
def Φ58 (L N : Nat) : Tells := (addT (Φ98 L N) 58 (f58.ent L N))
theorem Φ58_ok (L N : Nat) : TellsOk Try.prog (Φ58 L N) := addT_ok (Φ98_ok L N) (f58.ok L N (Φ98_ok L N))
def f122.j0' {R : Type} (L N : Nat) (k2_e4 : Int → Int → LLM → LLB → LB → LI → Option R) (rec2 : Int → Int → LM → Int → LLM → LLB → LB → LI → Option R) (v28 : Int) (v29 : Int) (v30 : LM) (v31 : Int) (v32 : Bool) (v33 : LLM) (v34 : LLB) (v35 : LB) (v36 : LI) : Option R :=
  bif v32 then
    bif (decide (0 ≤ v31) && decide (v31 < (v30.length : Int))) then
      bif (decide (0 ≤ (listAt v30 (Ty.dflt (.st 0)) v31.toNat).to) && decide ((listAt v30 (Ty.dflt (.st 0)) v31.toNat).to < (v35.length : Int))) then
        bif (decide (0 ≤ v31) && decide (v31 < (v30.length : Int))) then
          bif (decide (v36.length + ([(listAt v30 (Ty.dflt (.st 0)) v31.toNat).to] : LI).length ≤ lim)) then
            rec2 v28 v29 v30 (wi (v31 + (1 : Int))) v33 v34 (v35.set (((listAt v30 (Ty.dflt (.st 0)) v31.toNat).to).toNat) true) (v36 ++ ([(listAt v30 (Ty.dflt (.st 0)) v31.toNat).to] : LI))
          else none
        else none
      else none
    else none
  else rec2 v28 v29 v30 (wi (v31 + (1 : Int))) v33 v34 v35 v36
def f122.s2' {R : Type} (L N : Nat) (k2_e4 : Int → Int → LLM → LLB → LB → LI → Option R) (rec2 : Int → Int → LM → Int → LLM → LLB → LB → LI → Option R) (s14 : Int) (s15 : Int) (s16 : LM) (s17 : Int) (s18 : LLM) (s19 : LLB) (s20 : LB) (s21 : LI) : Option R :=
  bif (decide (s17 < (s16.length : Int))) then
    bif (decide (0 ≤ s17) && decide (s17 < (s16.length : Int))) then
      bif ((listAt s16 (Ty.dflt (.st 0)) s17.toNat).act == (0 : Int)) then
        bif (decide (0 ≤ s17) && decide (s17 < (s16.length : Int))) then
          bif (decide (0 ≤ (listAt s16 (Ty.dflt (.st 0)) s17.toNat).to) && decide ((listAt s16 (Ty.dflt (.st 0)) s17.toNat).to < (s20.length : Int))) then
            f122.j0' L N k2_e4 rec2 s14 s15 s16 s17 (!(listAt s20 false ((listAt s16 (Ty.dflt (.st 0)) s17.toNat).to).toNat)) s18 s19 s20 s21
          else none
        else none
      else f122.j0' L N k2_e4 rec2 s14 s15 s16 s17 false s18 s19 s20 s21
    else none
  else k2_e4 s14 s15 s18 s19 s20 s21
def f122.s2 {R : Type} (L N : Nat) (k2_e4 : Int → Int → LLM → LLB → LB → LI → Option R) (rec2 : Int → Int → LM → Int → LLM → LLB → LB → LI → Option R) (s14 : Int) (s15 : Int) (s16 : LM) (s17 : Int) (s18 : LLM) (s19 : LLB) (s20 : LB) (s21 : LI) : Option R :=
  f122.s2' L N k2_e4 rec2 s14 s15 s16 s17 s18 s19 s20 s21
def f122.l2 {R : Type} (L N : Nat) (k2_e4 : Int → Int → LLM → LLB → LB → LI → Option R) : Nat → Int → Int → LM → Int → LLM → LLB → LB → LI → Option R
  | 0, _, _, _, _, _, _, _, _ => none
  | n + 1, s14, s15, s16, s17, s18, s19, s20, s21 => f122.s2 L N k2_e4 (f122.l2 L N k2_e4 n) s14 s15 s16 s17 s18 s19 s20 s21
def f122.T2 (s14 : Int) (s15 : Int) (s16 : LM) (s17 : Int) (s18 : LLM) (s19 : LLB) (s20 : LB) (s21 : LI) : T := mkT 84 [(1, (.ptr 1001 0)), (3, (.row 1010)), (4, (.tv i64 s14)), (5, (.row 1021)), (6, (.row 1026)), (7, (.tv i64 s15)), (8, (.tv (.sl (.st 0)) s16)), (9, (.tv i64 s17))]
def f122.H2 (s14 : Int) (s15 : Int) (s16 : LM) (s17 : Int) (s18 : LLM) (s19 : LLB) (s20 : LB) (s21 : LI) : H := [(1001, (.box [(.tv (.sl (.sl (.st 0))) s18)])), (1010, (.row 71 (.sl .bool) s19)), (1021, (.row 4 .bool s20)), (1026, (.row 3 i64 s21))]
def f122.T2_e4 (z22 : Int) (z23 : Int) (z24 : LLM) (z25 : LLB) (z26 : LB) (z27 : LI) : T := mkT 84 [(1, (.ptr 1001 0)), (3, (.row 1010)), (4, (.tv i64 z22)), (5, (.row 1021)), (6, (.row 1026)), (7, (.tv i64 z23))]
def f122.H2_e4 (z22 : Int) (z23 : Int) (z24 : LLM) (z25 : LLB) (z26 : LB) (z27 : LI) : H := [(1001, (.box [(.tv (.sl (.sl (.st 0))) z24)])), (1010, (.row 71 (.sl .bool) z25)), (1021, (.row 4 .bool z26)), (1026, (.row 3 i64 z27))]
def f122.p2_e4' {R : Type} (L N : Nat) (k1_e2 : Int → LLM → LLB → LB → Option R) (rec1 : Int → Int → LLM → LLB → LB → LI → Option R) (z22 : Int) (z23 : Int) (z24 : LLM) (z25 : LLB) (z26 : LB) (z27 : LI) : Option R :=
  rec1 z22 (wi (z23 + (1 : Int))) z24 z25 z26 z27
def f122.p2_e4 {R : Type} (L N : Nat) (k1_e2 : Int → LLM → LLB → LB → Option R) (rec1 : Int → Int → LLM → LLB → LB → LI → Option R) (z22 : Int) (z23 : Int) (z24 : LLM) (z25 : LLB) (z26 : LB) (z27 : LI) : Option R :=
  f122.p2_e4' L N k1_e2 rec1 z22 z23 z24 z25 z26 z27
def f122.s1' {R : Type} (L N : Nat) (k1_e2 : Int → LLM → LLB → LB → Option R) (rec1 : Int → Int → LLM → LLB → LB → LI → Option R) (w2 : Int → Int → LM → Int → LLM → LLB → LB → LI → Option R) (s4 : Int) (s5 : Int) (s6 : LLM) (s7 : LLB) (s8 : LB) (s9 : LI) : Option R :=
  bif (decide (s5 < (s9.length : Int))) then
    bif (decide (0 ≤ s5) && decide (s5 < (s9.length : Int))) then
      bif (decide (0 ≤ (listAt s9 (0 : Int) s5.toNat)) && decide ((listAt s9 (0 : Int) s5.toNat) < (s6.length : Int))) then
        w2 s4 s5 (listAt s6 [] (listAt s9 (0 : Int) s5.toNat).toNat) (0 : Int) s6 s7 s8 s9
      else none
    else none
  else k1_e2 s4 s6 s7 s8
def f122.s1 {R : Type} (L N : Nat) (k1_e2 : Int → LLM → LLB → LB → Option R) (rec1 : Int → Int → LLM → LLB → LB → LI → Option R) (s4 : Int) (s5 : Int) (s6 : LLM) (s7 : LLB) (s8 : LB) (s9 : LI) : Option R :=
  f122.s1' L N k1_e2 rec1 (fun s14 s15 s16 s17 s18 s19 s20 s21 => f122.l2 L N (fun z22 z23 z24 z25 z26 z27 => f122.p2_e4 L N k1_e2 rec1 z22 z23 z24 z25 z26 z27) L s14 s15 s16 s17 s18 s19 s20 s21) s4 s5 s6 s7 s8 s9
def f122.l1 {R : Type} (L N : Nat) (k1_e2 : Int → LLM → LLB → LB → Option R) : Nat → Int → Int → LLM → LLB → LB → LI → Option R
  | 0, _, _, _, _, _, _ => none
  | n + 1, s4, s5, s6, s7, s8, s9 => f122.s1 L N k1_e2 (f122.l1 L N k1_e2 n) s4 s5 s6 s7 s8 s9
def f122.T1 (s4 : Int) (s5 : Int) (s6 : LLM) (s7 : LLB) (s8 : LB) (s9 : LI) : T := mkT 84 [(1, (.ptr 1001 0)), (3, (.row 1010)), (4, (.tv i64 s4)), (5, (.row 1021)), (6, (.row 1026)), (7, (.tv i64 s5))]
def f122.H1 (s4 : Int) (s5 : Int) (s6 : LLM) (s7 : LLB) (s8 : LB) (s9 : LI) : H := [(1001, (.box [(.tv (.sl (.sl (.st 0))) s6)])), (1010, (.row 71 (.sl .bool) s7)), (1021, (.row 4 .bool s8)), (1026, (.row 3 i64 s9))]
def f122.T1_e2 (z10 : Int) (z11 : LLM) (z12 : LLB) (z13 : LB) : T := mkT 84 [(1, (.ptr 1001 0)), (3, (.row 1010)), (4, (.tv i64 z10)), (5, (.row 1021))]
def f122.H1_e2 (z10 : Int) (z11 : LLM) (z12 : LLB) (z13 : LB) : H := [(1001, (.box [(.tv (.sl (.sl (.st 0))) z11)])), (1010, (.row 71 (.sl .bool) z12)), (1021, (.row 4 .bool z13))]
def f122.p1_e2' {R : Type} (L N : Nat) (k0_e0 : LLB → Option R) (rec0 : Int → LLM → LLB → Option R) (z10 : Int) (z11 : LLM) (z12 : LLB) (z13 : LB) : Option R :=
  bif (decide (z12.length + ([z13] : LLB).length ≤ lim)) then
    rec0 (wi (z10 + (1 : Int))) z11 (z12 ++ ([z13] : LLB))
  else none
def f122.p1_e2 {R : Type} (L N : Nat) (k0_e0 : LLB → Option R) (rec0 : Int → LLM → LLB → Option R) (z10 : Int) (z11 : LLM) (z12 : LLB) (z13 : LB) : Option R :=
  f122.p1_e2' L N k0_e0 rec0 z10 z11 z12 z13
def f122.s0' {R : Type} (L N : Nat) (k0_e0 : LLB → Option R) (rec0 : Int → LLM → LLB → Option R) (w1 : Int → Int → LLM → LLB → LB → LI → Option R) (s0 : Int) (s1 : LLM) (s2 : LLB) : Option R :=
  bif (decide (s0 < (s1.length : Int))) then
    bif (decide (0 ≤ (s1.length : Int)) && decide ((s1.length : Int) ≤ (lim : Int))) then
      bif (decide (0 ≤ s0) && decide (s0 < ((List.replicate (s1.length : Int).toNat false).length : Int))) then
        w1 s0 (0 : Int) s1 s2 ((List.replicate (s1.length : Int).toNat false).set s0.toNat true) ([s0] : LI)
      else none
    else none
  else k0_e0 s2
def f122.s0 {R : Type} (L N : Nat) (k0_e0 : LLB → Option R) (rec0 : Int → LLM → LLB → Option R) (s0 : Int) (s1 : LLM) (s2 : LLB) : Option R :=
  f122.s0' L N k0_e0 rec0 (fun s4 s5 s6 s7 s8 s9 => f122.l1 L N (fun z10 z11 z12 z13 => f122.p1_e2 L N k0_e0 rec0 z10 z11 z12 z13) L s4 s5 s6 s7 s8 s9) s0 s1 s2
def f122.l0 {R : Type} (L N : Nat) (k0_e0 : LLB → Option R) : Nat → Int → LLM → LLB → Option R
  | 0, _, _, _ => none
  | n + 1, s0, s1, s2 => f122.s0 L N k0_e0 (f122.l0 L N k0_e0 n) s0 s1 s2
def f122.T0 (s0 : Int) (s1 : LLM) (s2 : LLB) : T := mkT 84 [(1, (.ptr 1001 0)), (3, (.row 1010)), (4, (.tv i64 s0))]
def f122.H0 (s0 : Int) (s1 : LLM) (s2 : LLB) : H := [(1001, (.box [(.tv (.sl (.sl (.st 0))) s1)])), (1010, (.row 71 (.sl .bool) s2))]
def f122.T0_e0 (z3 : LLB) : T := mkT 84 [(3, (.row 1010))]
def f122.H0_e0 (z3 : LLB) : H := [(1010, (.row 71 (.sl .bool) z3))]
def f122.p0_e0' {R : Type} (L N : Nat) (k : LLB → Option R) (z3 : LLB) : Option R :=
  k z3
def f122.p0_e0 {R : Type} (L N : Nat) (k : LLB → Option R) (z3 : LLB) : Option R :=
  f122.p0_e0' L N k z3
def f122.b' {R : Type} (L N : Nat) (k : LLB → Option R) (w0 : Int → LLM → LLB → Option R) (x0 : Graph) : Option R :=
  w0 (0 : Int) x0.moves ([] : LLB)
def f122.b {R : Type} (L N : Nat) (k : LLB → Option R) (x0 : Graph) : Option R :=
  f122.b' L N k (fun s0 s1 s2 => f122.l0 L N (fun z3 => f122.p0_e0 L N k z3) L s0 s1 s2) x0
def f122 (L N : Nat) (x0 : Graph) : Option (LLB) := f122.b L N some x0
def f122.ent (L N : Nat) := entDa [(.st 2)] (.one (.sl (.sl .bool))) fun d => f122 L N d.1
noncomputable def E122 (L N : Nat) : Env := { P := Try.prog, ty := tyOf, Φ := (Φ58 L N), inl := inlT, live := lives, liveX := livesX, L := L, dp := none, prom := promT, heal := healT, ren := renT }
noncomputable def f122.c0 : Code := loopAt 0 (codeOf Try.f122)
noncomputable def f122.c1 : Code := loopAt 2 f122.c0
noncomputable def f122.c2 : Code := loopAt 4 f122.c1
def f122.X2_e4 {R : Type} (κ : KX R) := fun z22 z23 z24 z25 z26 z27 => κ (.exit 4) (f122.T2_e4 z22 z23 z24 z25 z26 z27) (f122.H2_e4 z22 z23 z24 z25 z26 z27)
def f122.R2 {R : Type} (rec : KT R) := fun s14 s15 s16 s17 s18 s19 s20 s21 => rec (f122.T2 s14 s15 s16 s17 s18 s19 s20 s21) (f122.H2 s14 s15 s16 s17 s18 s19 s20 s21)
theorem f122.s2_eq {R : Type} (L N : Nat) (κ : KX R) (rec : KT R) (s14 : Int) (s15 : Int) (s16 : LM) (s17 : Int) (s18 : LLM) (s19 : LLB) (s20 : LB) (s21 : LI) :
    evRd (E122 L N) (evCallI (E122 L N) 1 2000) 1000 122 84 4 f122.c2 κ rec (f122.T2 s14 s15 s16 s17 s18 s19 s20 s21) (f122.H2 s14 s15 s16 s17 s18 s19 s20 s21)
    = f122.s2 L N (f122.X2_e4 κ) (f122.R2 rec) s14 s15 s16 s17 s18 s19 s20 s21 := by kernel_rfl
theorem f122.l2_eq {R : Type} (L N : Nat) (κ : KX R) : ∀ (n : Nat) (s14 : Int) (s15 : Int) (s16 : LM) (s17 : Int) (s18 : LLM) (s19 : LLB) (s20 : LB) (s21 : LI),
    evLp (E122 L N) (evCallI (E122 L N) 1 2000) 1000 122 84 4 f122.c2 κ n (f122.T2 s14 s15 s16 s17 s18 s19 s20 s21) (f122.H2 s14 s15 s16 s17 s18 s19 s20 s21)
    = f122.l2 L N (f122.X2_e4 κ) n s14 s15 s16 s17 s18 s19 s20 s21 := by
  intro n
  induction n with
  | zero => intros; rfl
  | succ n ih =>
    intro s14 s15 s16 s17 s18 s19 s20 s21
    rw [evLp_succ, f122.s2_eq]
    delta f122.R2
    simp only [ih]
    rfl
def f122.X1_e2 {R : Type} (κ : KX R) := fun z10 z11 z12 z13 => κ (.exit 2) (f122.T1_e2 z10 z11 z12 z13) (f122.H1_e2 z10 z11 z12 z13)
def f122.R1 {R : Type} (rec : KT R) := fun s4 s5 s6 s7 s8 s9 => rec (f122.T1 s4 s5 s6 s7 s8 s9) (f122.H1 s4 s5 s6 s7 s8 s9)
theorem f122.p2_e4_eq {R : Type} (L N : Nat) (κ : KX R) (rec : KT R) (z22 : Int) (z23 : Int) (z24 : LLM) (z25 : LLB) (z26 : LB) (z27 : LI) :
    (contAt (E122 L N) (evCallI (E122 L N) 1 2000) 1000 122 84 4 f122.c1 (rdK (E122 L N) 1000 122 84 2 κ rec)) (.exit 4) (f122.T2_e4 z22 z23 z24 z25 z26 z27) (f122.H2_e4 z22 z23 z24 z25 z26 z27)
    = f122.p2_e4 L N (f122.X1_e2 κ) (f122.R1 rec) z22 z23 z24 z25 z26 z27 := by kernel_rfl
theorem f122.s1_eq {R : Type} (L N : Nat) (κ : KX R) (rec : KT R) (s4 : Int) (s5 : Int) (s6 : LLM) (s7 : LLB) (s8 : LB) (s9 : LI) :
    evRd (E122 L N) (evCallI (E122 L N) 1 2000) 1000 122 84 2 f122.c1 κ rec (f122.T1 s4 s5 s6 s7 s8 s9) (f122.H1 s4 s5 s6 s7 s8 s9)
    = f122.s1 L N (f122.X1_e2 κ) (f122.R1 rec) s4 s5 s6 s7 s8 s9 := by
  refine Eq.trans (b := f122.s1' L N (f122.X1_e2 κ) (f122.R1 rec) (fun s14 s15 s16 s17 s18 s19 s20 s21 => evLp (E122 L N) (evCallI (E122 L N) 1 2000) 1000 122 84 4 f122.c2 (contAt (E122 L N) (evCallI (E122 L N) 1 2000) 1000 122 84 4 f122.c1 (rdK (E122 L N) 1000 122 84 2 κ rec)) L (f122.T2 s14 s15 s16 s17 s18 s19 s20 s21) (f122.H2 s14 s15 s16 s17 s18 s19 s20 s21)) s4 s5 s6 s7 s8 s9) (by kernel_rfl) ?_
  unfold f122.s1
  simp only [f122.l2_eq]
  delta f122.X2_e4
  simp only [f122.p2_e4_eq]
theorem f122.l1_eq {R : Type} (L N : Nat) (κ : KX R) : ∀ (n : Nat) (s4 : Int) (s5 : Int) (s6 : LLM) (s7 : LLB) (s8 : LB) (s9 : LI),
    evLp (E122 L N) (evCallI (E122 L N) 1 2000) 1000 122 84 2 f122.c1 κ n (f122.T1 s4 s5 s6 s7 s8 s9) (f122.H1 s4 s5 s6 s7 s8 s9)
    = f122.l1 L N (f122.X1_e2 κ) n s4 s5 s6 s7 s8 s9 := by
  intro n
  induction n with
  | zero => intros; rfl
  | succ n ih =>
    intro s4 s5 s6 s7 s8 s9
    rw [evLp_succ, f122.s1_eq]
    delta f122.R1
    simp only [ih]
    rfl
def f122.X0_e0 {R : Type} (κ : KX R) := fun z3 => κ (.exit 0) (f122.T0_e0 z3) (f122.H0_e0 z3)
def f122.R0 {R : Type} (rec : KT R) := fun s0 s1 s2 => rec (f122.T0 s0 s1 s2) (f122.H0 s0 s1 s2)
theorem f122.p1_e2_eq {R : Type} (L N : Nat) (κ : KX R) (rec : KT R) (z10 : Int) (z11 : LLM) (z12 : LLB) (z13 : LB) :
    (contAt (E122 L N) (evCallI (E122 L N) 1 2000) 1000 122 84 2 f122.c0 (rdK (E122 L N) 1000 122 84 0 κ rec)) (.exit 2) (f122.T1_e2 z10 z11 z12 z13) (f122.H1_e2 z10 z11 z12 z13)
    = f122.p1_e2 L N (f122.X0_e0 κ) (f122.R0 rec) z10 z11 z12 z13 := by kernel_rfl
theorem f122.s0_eq {R : Type} (L N : Nat) (κ : KX R) (rec : KT R) (s0 : Int) (s1 : LLM) (s2 : LLB) :
    evRd (E122 L N) (evCallI (E122 L N) 1 2000) 1000 122 84 0 f122.c0 κ rec (f122.T0 s0 s1 s2) (f122.H0 s0 s1 s2)
    = f122.s0 L N (f122.X0_e0 κ) (f122.R0 rec) s0 s1 s2 := by
  refine Eq.trans (b := f122.s0' L N (f122.X0_e0 κ) (f122.R0 rec) (fun s4 s5 s6 s7 s8 s9 => evLp (E122 L N) (evCallI (E122 L N) 1 2000) 1000 122 84 2 f122.c1 (contAt (E122 L N) (evCallI (E122 L N) 1 2000) 1000 122 84 2 f122.c0 (rdK (E122 L N) 1000 122 84 0 κ rec)) L (f122.T1 s4 s5 s6 s7 s8 s9) (f122.H1 s4 s5 s6 s7 s8 s9)) s0 s1 s2) (by kernel_rfl) ?_
  unfold f122.s0
  simp only [f122.l1_eq]
  delta f122.X1_e2
  simp only [f122.p1_e2_eq]
theorem f122.l0_eq {R : Type} (L N : Nat) (κ : KX R) : ∀ (n : Nat) (s0 : Int) (s1 : LLM) (s2 : LLB),
    evLp (E122 L N) (evCallI (E122 L N) 1 2000) 1000 122 84 0 f122.c0 κ n (f122.T0 s0 s1 s2) (f122.H0 s0 s1 s2)
    = f122.l0 L N (f122.X0_e0 κ) n s0 s1 s2 := by
  intro n
  induction n with
  | zero => intros; rfl
  | succ n ih =>
    intro s0 s1 s2
    rw [evLp_succ, f122.s0_eq]
    delta f122.R0
    simp only [ih]
    rfl
theorem f122.p0_e0_eq {R : Type} (L N : Nat) (κ : AV → Option R) (z3 : LLB) :
    (contAt (E122 L N) (evCallI (E122 L N) 1 2000) 1000 122 84 0 (codeOf Try.f122) (finK (E122 L N) 1000 Try.f122 (finC (.one (.sl (.sl .bool))) κ))) (.exit 0) (f122.T0_e0 z3) (f122.H0_e0 z3)
    = f122.p0_e0 L N (fun a0 => κ (.tv (.sl (.sl .bool)) a0)) z3 := by kernel_rfl
theorem f122.b_eq {R : Type} (L N : Nat) (κ : AV → Option R) (x0 : Graph) :
    evBody (E122 L N) (evCallI (E122 L N) 1 2000) 1000 122 Try.f122 [(.tv (.st 2) x0)] [] [] (finC (.one (.sl (.sl .bool))) κ)
    = f122.b L N (fun a0 => κ (.tv (.sl (.sl .bool)) a0)) x0 := by
  refine Eq.trans (b := f122.b' L N (fun a0 => κ (.tv (.sl (.sl .bool)) a0)) (fun s0 s1 s2 => evLp (E122 L N) (evCallI (E122 L N) 1 2000) 1000 122 84 0 f122.c0 (contAt (E122 L N) (evCallI (E122 L N) 1 2000) 1000 122 84 0 (codeOf Try.f122) (finK (E122 L N) 1000 Try.f122 (finC (.one (.sl (.sl .bool))) κ))) L (f122.T0 s0 s1 s2) (f122.H0 s0 s1 s2)) x0) (by kernel_rfl) ?_
  unfold f122.b
  simp only [f122.l0_eq]
  delta f122.X0_e0
  simp only [f122.p0_e0_eq]
theorem f122.ok (L N : Nat) (hΦ : TellsOk Try.prog ((Φ58 L N))) : EntOk Try.prog 122 (f122.ent L N) := entDa_ok (E := (E122 L N)) (dep := 1000) (f := Try.f122) (sound_of hΦ) okP (callI_sound (sound_of hΦ) okP 1 2000) rfl fun d _ hy => (f122.b_eq L N (unR (.one (.sl (.sl .bool)))) d.1).trans (Eq.trans (b := f122.b L N some d.1) (by kernel_rfl) hy)
def Φ122 (L N : Nat) : Tells := (addT (Φ58 L N) 122 (f122.ent L N))
theorem Φ122_ok (L N : Nat) : TellsOk Try.prog (Φ122 L N) := addT_ok (Φ58_ok L N) (f122.ok L N (Φ58_ok L N))
def f123.s1' {R : Type} (L N : Nat) (k1_e2 : LM → Int → Int → LM → Option R) (rec1 : LM → Int → Int → LM → Option R) (s4 : LM) (s5 : Int) (s6 : Int) (s7 : LM) : Option R :=
  bif (decide (s6 > (0 : Int))) then
    bif (decide (0 ≤ s5) && decide (s5 < (s4.length : Int))) then
      bif (decide (0 ≤ (wi (s6 - (1 : Int)))) && decide ((wi (s6 - (1 : Int))) < (s7.length : Int))) then
        (f98 L N (listAt s4 (Ty.dflt (.st 0)) s5.toNat) (listAt s7 (Ty.dflt (.st 0)) (wi (s6 - (1 : Int))).toNat)).bind fun y8 =>
        bif y8 then
          rec1 s4 s5 (wi (s6 - (1 : Int))) s7
        else k1_e2 s4 s5 s6 s7
      else none
    else none
  else k1_e2 s4 s5 s6 s7
def f123.s1 {R : Type} (L N : Nat) (k1_e2 : LM → Int → Int → LM → Option R) (rec1 : LM → Int → Int → LM → Option R) (s4 : LM) (s5 : Int) (s6 : Int) (s7 : LM) : Option R :=
  f123.s1' L N k1_e2 rec1 s4 s5 s6 s7
def f123.l1 {R : Type} (L N : Nat) (k1_e2 : LM → Int → Int → LM → Option R) : Nat → LM → Int → Int → LM → Option R
  | 0, _, _, _, _ => none
  | n + 1, s4, s5, s6, s7 => f123.s1 L N k1_e2 (f123.l1 L N k1_e2 n) s4 s5 s6 s7
def f123.T1 (s4 : LM) (s5 : Int) (s6 : Int) (s7 : LM) : T := mkT 74 [(0, (.tv (.sl (.st 0)) s4)), (3, (.row 1007)), (4, (.tv i64 s5)), (5, (.tv i64 s6))]
def f123.H1 (s4 : LM) (s5 : Int) (s6 : Int) (s7 : LM) : H := [(1007, (.row 53 (.st 0) s7))]
def f123.T1_e2 (z14 : LM) (z15 : Int) (z16 : Int) (z17 : LM) : T := mkT 74 [(0, (.tv (.sl (.st 0)) z14)), (3, (.row 1007)), (4, (.tv i64 z15)), (5, (.tv i64 z16))]
def f123.H1_e2 (z14 : LM) (z15 : Int) (z16 : Int) (z17 : LM) : H := [(1007, (.row 53 (.st 0) z17))]
def f123.s2' {R : Type} (L N : Nat) (k2_e4 : LM → Int → Int → LM → Option R) (rec2 : LM → Int → Int → Int → LM → Option R) (s31 : LM) (s32 : Int) (s33 : Int) (s34 : Int) (s35 : LM) : Option R :=
  bif (decide (s34 > s33)) then
    bif (decide (0 ≤ (wi (s34 - (1 : Int)))) && decide ((wi (s34 - (1 : Int))) < (s35.length : Int))) then
      bif (decide (0 ≤ s34) && decide (s34 < (s35.length : Int))) then
        rec2 s31 s32 s33 (wi (s34 - (1 : Int))) (s35.set s34.toNat (listAt s35 (Ty.dflt (.st 0)) (wi (s34 - (1 : Int))).toNat))
      else none
    else none
  else k2_e4 s31 s32 s33 s35
def f123.s2 {R : Type} (L N : Nat) (k2_e4 : LM → Int → Int → LM → Option R) (rec2 : LM → Int → Int → Int → LM → Option R) (s31 : LM) (s32 : Int) (s33 : Int) (s34 : Int) (s35 : LM) : Option R :=
  f123.s2' L N k2_e4 rec2 s31 s32 s33 s34 s35
def f123.l2 {R : Type} (L N : Nat) (k2_e4 : LM → Int → Int → LM → Option R) : Nat → LM → Int → Int → Int → LM → Option R
  | 0, _, _, _, _, _ => none
  | n + 1, s31, s32, s33, s34, s35 => f123.s2 L N k2_e4 (f123.l2 L N k2_e4 n) s31 s32 s33 s34 s35
def f123.T2 (s31 : LM) (s32 : Int) (s33 : Int) (s34 : Int) (s35 : LM) : T := mkT 74 [(0, (.tv (.sl (.st 0)) s31)), (3, (.row 1007)), (4, (.tv i64 s32)), (5, (.tv i64 s33)), (6, (.tv i64 s34))]
def f123.H2 (s31 : LM) (s32 : Int) (s33 : Int) (s34 : Int) (s35 : LM) : H := [(1007, (.row 53 (.st 0) s35))]
def f123.T2_e4 (z36 : LM) (z37 : Int) (z38 : Int) (z39 : LM) : T := mkT 74 [(0, (.tv (.sl (.st 0)) z36)), (3, (.row 1007)), (4, (.tv i64 z37)), (5, (.tv i64 z38))]
def f123.H2_e4 (z36 : LM) (z37 : Int) (z38 : Int) (z39 : LM) : H := [(1007, (.row 53 (.st 0) z39))]
def f123.p2_e4' {R : Type} (L N : Nat) (k0_e0 : LM → Option R) (rec0 : LM → Int → LM → Option R) (z36 : LM) (z37 : Int) (z38 : Int) (z39 : LM) : Option R :=
  bif (decide (0 ≤ z37) && decide (z37 < (z36.length : Int))) then
    bif (decide (0 ≤ z38) && decide (z38 < (z39.length : Int))) then
      rec0 z36 (wi (z37 + (1 : Int))) (z39.set z38.toNat (listAt z36 (Ty.dflt (.st 0)) z37.toNat))
    else none
  else none
def f123.p2_e4 {R : Type} (L N : Nat) (k0_e0 : LM → Option R) (rec0 : LM → Int → LM → Option R) (z36 : LM) (z37 : Int) (z38 : Int) (z39 : LM) : Option R :=
  f123.p2_e4' L N k0_e0 rec0 z36 z37 z38 z39
def f123.j0' {R : Type} (L N : Nat) (k0_e0 : LM → Option R) (rec0 : LM → Int → LM → Option R) (w2 : LM → Int → Int → Int → LM → Option R) (v27 : LM) (v28 : Int) (v29 : Int) (v30 : LM) : Option R :=
  bif (decide (v30.length + ([(Move.mk (0 : Int) (0 : Int))] : LM).length ≤ lim)) then
    w2 v27 v28 v29 (wi (((v30 ++ ([(Move.mk (0 : Int) (0 : Int))] : LM)).length : Int) - (1 : Int))) (v30 ++ ([(Move.mk (0 : Int) (0 : Int))] : LM))
  else none
def f123.p1_e2' {R : Type} (L N : Nat) (k0_e0 : LM → Option R) (rec0 : LM → Int → LM → Option R) (w2 : LM → Int → Int → Int → LM → Option R) (z14 : LM) (z15 : Int) (z16 : Int) (z17 : LM) : Option R :=
  bif (decide (z16 > (0 : Int))) then
    bif (decide (0 ≤ (wi (z16 - (1 : Int)))) && decide ((wi (z16 - (1 : Int))) < (z17.length : Int))) then
      bif (decide (0 ≤ z15) && decide (z15 < (z14.length : Int))) then
        bif (Move.eqb (listAt z17 (Ty.dflt (.st 0)) (wi (z16 - (1 : Int))).toNat) (listAt z14 (Ty.dflt (.st 0)) z15.toNat)) then
          rec0 z14 (wi (z15 + (1 : Int))) z17
        else f123.j0' L N k0_e0 rec0 w2 z14 z15 z16 z17
      else none
    else none
  else f123.j0' L N k0_e0 rec0 w2 z14 z15 z16 z17
def f123.p1_e2 {R : Type} (L N : Nat) (k0_e0 : LM → Option R) (rec0 : LM → Int → LM → Option R) (z14 : LM) (z15 : Int) (z16 : Int) (z17 : LM) : Option R :=
  f123.p1_e2' L N k0_e0 rec0 (fun s31 s32 s33 s34 s35 => f123.l2 L N (fun z36 z37 z38 z39 => f123.p2_e4 L N k0_e0 rec0 z36 z37 z38 z39) L s31 s32 s33 s34 s35) z14 z15 z16 z17
def f123.s0' {R : Type} (L N : Nat) (k0_e0 : LM → Option R) (rec0 : LM → Int → LM → Option R) (w1 : LM → Int → Int → LM → Option R) (s0 : LM) (s1 : Int) (s2 : LM) : Option R :=
  bif (decide (s1 < (s0.length : Int))) then
    w1 s0 s1 (s2.length : Int) s2
  else k0_e0 s2
def f123.s0 {R : Type} (L N : Nat) (k0_e0 : LM → Option R) (rec0 : LM → Int → LM → Option R) (s0 : LM) (s1 : Int) (s2 : LM) : Option R :=
  f123.s0' L N k0_e0 rec0 (fun s4 s5 s6 s7 => f123.l1 L N (fun z14 z15 z16 z17 => f123.p1_e2 L N k0_e0 rec0 z14 z15 z16 z17) L s4 s5 s6 s7) s0 s1 s2
def f123.l0 {R : Type} (L N : Nat) (k0_e0 : LM → Option R) : Nat → LM → Int → LM → Option R
  | 0, _, _, _ => none
  | n + 1, s0, s1, s2 => f123.s0 L N k0_e0 (f123.l0 L N k0_e0 n) s0 s1 s2
def f123.T0 (s0 : LM) (s1 : Int) (s2 : LM) : T := mkT 74 [(0, (.tv (.sl (.st 0)) s0)), (3, (.row 1007)), (4, (.tv i64 s1))]
def f123.H0 (s0 : LM) (s1 : Int) (s2 : LM) : H := [(1007, (.row 53 (.st 0) s2))]
def f123.T0_e0 (z3 : LM) : T := mkT 74 [(3, (.row 1007))]
def f123.H0_e0 (z3 : LM) : H := [(1007, (.row 53 (.st 0) z3))]
def f123.p0_e0' {R : Type} (L N : Nat) (k : LM → Option R) (z3 : LM) : Option R :=
  k z3
def f123.p0_e0 {R : Type} (L N : Nat) (k : LM → Option R) (z3 : LM) : Option R :=
  f123.p0_e0' L N k z3
def f123.b' {R : Type} (L N : Nat) (k : LM → Option R) (w0 : LM → Int → LM → Option R) (x0 : LM) : Option R :=
  w0 x0 (0 : Int) ([] : LM)
def f123.b {R : Type} (L N : Nat) (k : LM → Option R) (x0 : LM) : Option R :=
  f123.b' L N k (fun s0 s1 s2 => f123.l0 L N (fun z3 => f123.p0_e0 L N k z3) L s0 s1 s2) x0
def f123 (L N : Nat) (x0 : LM) : Option (LM) := f123.b L N some x0
def f123.ent (L N : Nat) (args : List AV) (vw : View) (site : Nat) : Ans := match roD [(.sl (.st 0))] vw args with
  | some d => ⟨LM, f123 L N d.1, fun y => (RN.av site .row (), [(site, some (mkO none 53 (.st 0) y))], [])⟩
  | none => Ans.no
noncomputable def E123 (L N : Nat) : Env := { P := Try.prog, ty := tyOf, Φ := (Φ122 L N), inl := inlT, live := lives, liveX := livesX, L := L, dp := none, prom := promT, heal := healT, ren := renT }
noncomputable def f123.c0 : Code := loopAt 0 (codeOf Try.f123)
noncomputable def f123.c1 : Code := loopAt 2 f123.c0
def f123.X1_e2 {R : Type} (κ : KX R) := fun z14 z15 z16 z17 => κ (.exit 2) (f123.T1_e2 z14 z15 z16 z17) (f123.H1_e2 z14 z15 z16 z17)
def f123.R1 {R : Type} (rec : KT R) := fun s4 s5 s6 s7 => rec (f123.T1 s4 s5 s6 s7) (f123.H1 s4 s5 s6 s7)
theorem f123.s1_eq {R : Type} (L N : Nat) (κ : KX R) (rec : KT R) (s4 : LM) (s5 : Int) (s6 : Int) (s7 : LM) :
    evRd (E123 L N) (evCallI (E123 L N) 1 2000) 1000 123 74 2 f123.c1 κ rec (f123.T1 s4 s5 s6 s7) (f123.H1 s4 s5 s6 s7)
    = f123.s1 L N (f123.X1_e2 κ) (f123.R1 rec) s4 s5 s6 s7 := by kernel_rfl
theorem f123.l1_eq {R : Type} (L N : Nat) (κ : KX R) : ∀ (n : Nat) (s4 : LM) (s5 : Int) (s6 : Int) (s7 : LM),
    evLp (E123 L N) (evCallI (E123 L N) 1 2000) 1000 123 74 2 f123.c1 κ n (f123.T1 s4 s5 s6 s7) (f123.H1 s4 s5 s6 s7)
    = f123.l1 L N (f123.X1_e2 κ) n s4 s5 s6 s7 := by
  intro n
  induction n with
  | zero => intros; rfl
  | succ n ih =>
    intro s4 s5 s6 s7
    rw [evLp_succ, f123.s1_eq]
    delta f123.R1
    simp only [ih]
    rfl
noncomputable def f123.c2 : Code := loopAt 4 f123.c0
def f123.X2_e4 {R : Type} (κ : KX R) := fun z36 z37 z38 z39 => κ (.exit 4) (f123.T2_e4 z36 z37 z38 z39) (f123.H2_e4 z36 z37 z38 z39)
def f123.R2 {R : Type} (rec : KT R) := fun s31 s32 s33 s34 s35 => rec (f123.T2 s31 s32 s33 s34 s35) (f123.H2 s31 s32 s33 s34 s35)
theorem f123.s2_eq {R : Type} (L N : Nat) (κ : KX R) (rec : KT R) (s31 : LM) (s32 : Int) (s33 : Int) (s34 : Int) (s35 : LM) :
    evRd (E123 L N) (evCallI (E123 L N) 1 2000) 1000 123 74 4 f123.c2 κ rec (f123.T2 s31 s32 s33 s34 s35) (f123.H2 s31 s32 s33 s34 s35)
    = f123.s2 L N (f123.X2_e4 κ) (f123.R2 rec) s31 s32 s33 s34 s35 := by kernel_rfl
theorem f123.l2_eq {R : Type} (L N : Nat) (κ : KX R) : ∀ (n : Nat) (s31 : LM) (s32 : Int) (s33 : Int) (s34 : Int) (s35 : LM),
    evLp (E123 L N) (evCallI (E123 L N) 1 2000) 1000 123 74 4 f123.c2 κ n (f123.T2 s31 s32 s33 s34 s35) (f123.H2 s31 s32 s33 s34 s35)
    = f123.l2 L N (f123.X2_e4 κ) n s31 s32 s33 s34 s35 := by
  intro n
  induction n with
  | zero => intros; rfl
  | succ n ih =>
    intro s31 s32 s33 s34 s35
    rw [evLp_succ, f123.s2_eq]
    delta f123.R2
    simp only [ih]
    rfl
def f123.X0_e0 {R : Type} (κ : KX R) := fun z3 => κ (.exit 0) (f123.T0_e0 z3) (f123.H0_e0 z3)
def f123.R0 {R : Type} (rec : KT R) := fun s0 s1 s2 => rec (f123.T0 s0 s1 s2) (f123.H0 s0 s1 s2)
theorem f123.p2_e4_eq {R : Type} (L N : Nat) (κ : KX R) (rec : KT R) (z36 : LM) (z37 : Int) (z38 : Int) (z39 : LM) :
    (contAt (E123 L N) (evCallI (E123 L N) 1 2000) 1000 123 74 4 f123.c0 (rdK (E123 L N) 1000 123 74 0 κ rec)) (.exit 4) (f123.T2_e4 z36 z37 z38 z39) (f123.H2_e4 z36 z37 z38 z39)
    = f123.p2_e4 L N (f123.X0_e0 κ) (f123.R0 rec) z36 z37 z38 z39 := by kernel_rfl
theorem f123.p1_e2_eq {R : Type} (L N : Nat) (κ : KX R) (rec : KT R) (z14 : LM) (z15 : Int) (z16 : Int) (z17 : LM) :
    (contAt (E123 L N) (evCallI (E123 L N) 1 2000) 1000 123 74 2 f123.c0 (rdK (E123 L N) 1000 123 74 0 κ rec)) (.exit 2) (f123.T1_e2 z14 z15 z16 z17) (f123.H1_e2 z14 z15 z16 z17)
    = f123.p1_e2 L N (f123.X0_e0 κ) (f123.R0 rec) z14 z15 z16 z17 := by
  refine Eq.trans (b := f123.p1_e2' L N (f123.X0_e0 κ) (f123.R0 rec) (fun s31 s32 s33 s34 s35 => evLp (E123 L N) (evCallI (E123 L N) 1 2000) 1000 123 74 4 f123.c2 (contAt (E123 L N) (evCallI (E123 L N) 1 2000) 1000 123 74 4 f123.c0 (rdK (E123 L N) 1000 123 74 0 κ rec)) L (f123.T2 s31 s32 s33 s34 s35) (f123.H2 s31 s32 s33 s34 s35)) z14 z15 z16 z17) (by kernel_rfl) ?_
  unfold f123.p1_e2
  simp only [f123.l2_eq]
  delta f123.X2_e4
  simp only [f123.p2_e4_eq]
theorem f123.s0_eq {R : Type} (L N : Nat) (κ : KX R) (rec : KT R) (s0 : LM) (s1 : Int) (s2 : LM) :
    evRd (E123 L N) (evCallI (E123 L N) 1 2000) 1000 123 74 0 f123.c0 κ rec (f123.T0 s0 s1 s2) (f123.H0 s0 s1 s2)
    = f123.s0 L N (f123.X0_e0 κ) (f123.R0 rec) s0 s1 s2 := by
  refine Eq.trans (b := f123.s0' L N (f123.X0_e0 κ) (f123.R0 rec) (fun s4 s5 s6 s7 => evLp (E123 L N) (evCallI (E123 L N) 1 2000) 1000 123 74 2 f123.c1 (contAt (E123 L N) (evCallI (E123 L N) 1 2000) 1000 123 74 2 f123.c0 (rdK (E123 L N) 1000 123 74 0 κ rec)) L (f123.T1 s4 s5 s6 s7) (f123.H1 s4 s5 s6 s7)) s0 s1 s2) (by kernel_rfl) ?_
  unfold f123.s0
  simp only [f123.l1_eq]
  delta f123.X1_e2
  simp only [f123.p1_e2_eq]
theorem f123.l0_eq {R : Type} (L N : Nat) (κ : KX R) : ∀ (n : Nat) (s0 : LM) (s1 : Int) (s2 : LM),
    evLp (E123 L N) (evCallI (E123 L N) 1 2000) 1000 123 74 0 f123.c0 κ n (f123.T0 s0 s1 s2) (f123.H0 s0 s1 s2)
    = f123.l0 L N (f123.X0_e0 κ) n s0 s1 s2 := by
  intro n
  induction n with
  | zero => intros; rfl
  | succ n ih =>
    intro s0 s1 s2
    rw [evLp_succ, f123.s0_eq]
    delta f123.R0
    simp only [ih]
    rfl
theorem f123.p0_e0_eq {R : Type} (L N : Nat) (κ : RN.Den .row → List Move → Option R) (z3 : LM) :
    (contAt (E123 L N) (evCallI (E123 L N) 1 2000) 1000 123 74 0 (codeOf Try.f123) (finK (E123 L N) 1000 Try.f123 (finN .row none 53 (.st 0) κ))) (.exit 0) (f123.T0_e0 z3) (f123.H0_e0 z3)
    = f123.p0_e0 L N (fun a0 => κ () a0) z3 := by kernel_rfl
theorem f123.b_eq {R : Type} (L N : Nat) (κ : RN.Den .row → List Move → Option R) (x0 : LM) :
    evBody (E123 L N) (evCallI (E123 L N) 1 2000) 1000 123 Try.f123 [(.tv (.sl (.st 0)) x0)] [] [] (finN .row none 53 (.st 0) κ)
    = f123.b L N (fun a0 => κ () a0) x0 := by
  refine Eq.trans (b := f123.b' L N (fun a0 => κ () a0) (fun s0 s1 s2 => evLp (E123 L N) (evCallI (E123 L N) 1 2000) 1000 123 74 0 f123.c0 (contAt (E123 L N) (evCallI (E123 L N) 1 2000) 1000 123 74 0 (codeOf Try.f123) (finK (E123 L N) 1000 Try.f123 (finN .row none 53 (.st 0) κ))) L (f123.T0 s0 s1 s2) (f123.H0 s0 s1 s2)) x0) (by kernel_rfl) ?_
  unfold f123.b
  simp only [f123.l0_eq]
  delta f123.X0_e0
  simp only [f123.p0_e0_eq]
theorem f123.ok (L N : Nat) (hΦ : TellsOk Try.prog ((Φ122 L N))) : EntOk Try.prog 123 (f123.ent L N) := by
  intro args vw site h
  unfold f123.ent
  split
  · rename_i d ha
    intro y hy hs
    refine call_ron (y := y) (dep := 1000) (E := (E123 L N)) (ts := [(.sl (.st 0))]) (rn := .row) (q := none) (el := 53) (ty := (.st 0)) (d1 := ()) (xs := y) (κ := (fun d xs => some xs)) (sound_of hΦ) okP (callI_sound (sound_of hΦ) okP 1 2000) (f := Try.f123) rfl hs ha ?_ (fun _ _ h => by obtain rfl := Option.some.inj h; exact ⟨rfl, rfl⟩) rfl site
    exact (f123.b_eq L N (fun d xs => some xs) d.1).trans (Eq.trans (b := f123.b L N some d.1) (by kernel_rfl) hy)
  · intro y hy
    cases hy
def Φ123 (L N : Nat) : Tells := (addT (Φ122 L N) 123 (f123.ent L N))
theorem Φ123_ok (L N : Nat) : TellsOk Try.prog (Φ123 L N) := addT_ok (Φ122_ok L N) (f123.ok L N (Φ122_ok L N))
def f87.s3' {R : Type} (L N : Nat) (k3_e6 : Bool → LLB → Int → Int → Int → LLM → LM → LLM → Option R) (rec3 : Bool → LLB → Int → Int → Int → Int → LLM → Int → Int → LM → LLM → Option R) (s42 : Bool) (s43 : LLB) (s44 : Int) (s45 : Int) (s46 : Int) (s47 : Int) (s48 : LLM) (s49 : Int) (s50 : Int) (s51 : LM) (s52 : LLM) : Option R :=
  bif (decide (s47 < (s48.length : Int))) then
    bif (decide (0 ≤ s50) && decide (s50 < (s43.length : Int))) then
      bif (decide (0 ≤ s47) && decide (s47 < ((listAt s43 [] s50.toNat).length : Int))) then
        bif (listAt (listAt s43 [] s50.toNat) false s47.toNat) then
          bif (decide (s51.length + ([(Move.mk s49 s47)] : LM).length ≤ lim)) then
            rec3 s42 s43 s44 s45 s46 (wi (s47 + (1 : Int))) s48 s49 s50 (s51 ++ ([(Move.mk s49 s47)] : LM)) s52
          else none
        else rec3 s42 s43 s44 s45 s46 (wi (s47 + (1 : Int))) s48 s49 s50 s51 s52
      else none
    else none
  else k3_e6 s42 s43 s44 s45 s46 s48 s51 s52
def f87.s3 {R : Type} (L N : Nat) (k3_e6 : Bool → LLB → Int → Int → Int → LLM → LM → LLM → Option R) (rec3 : Bool → LLB → Int → Int → Int → Int → LLM → Int → Int → LM → LLM → Option R) (s42 : Bool) (s43 : LLB) (s44 : Int) (s45 : Int) (s46 : Int) (s47 : Int) (s48 : LLM) (s49 : Int) (s50 : Int) (s51 : LM) (s52 : LLM) : Option R :=
  f87.s3' L N k3_e6 rec3 s42 s43 s44 s45 s46 s47 s48 s49 s50 s51 s52
def f87.l3 {R : Type} (L N : Nat) (k3_e6 : Bool → LLB → Int → Int → Int → LLM → LM → LLM → Option R) : Nat → Bool → LLB → Int → Int → Int → Int → LLM → Int → Int → LM → LLM → Option R
  | 0, _, _, _, _, _, _, _, _, _, _, _ => none
  | n + 1, s42, s43, s44, s45, s46, s47, s48, s49, s50, s51, s52 => f87.s3 L N k3_e6 (f87.l3 L N k3_e6 n) s42 s43 s44 s45 s46 s47 s48 s49 s50 s51 s52
def f87.T3 (s42 : Bool) (s43 : LLB) (s44 : Int) (s45 : Int) (s46 : Int) (s47 : Int) (s48 : LLM) (s49 : Int) (s50 : Int) (s51 : LM) (s52 : LLM) : T := mkT 94 [(1, (.tv .bool s42)), (2, (.ptr 1002 0)), (4, (.ptr 1004 0)), (5, (.tv (.sl (.sl .bool)) s43)), (6, (.ptr 1006 0)), (7, (.tv i64 s44)), (8, (.row 1023)), (9, (.tv i64 s45)), (10, (.tv i64 s46)), (11, (.ptr 1011 0)), (12, (.tv i64 s47))]
def f87.H3 (s42 : Bool) (s43 : LLB) (s44 : Int) (s45 : Int) (s46 : Int) (s47 : Int) (s48 : LLM) (s49 : Int) (s50 : Int) (s51 : LM) (s52 : LLM) : H := [(1002, (.box [(.tv (.sl (.sl (.st 0))) s48)])), (1004, (.box [.nil])), (1006, (.box [(.row 1900)])), (1011, (.box [(.tv i64 s49), (.tv i64 s50)])), (1023, (.row 53 (.st 0) s51)), (1900, (.row 51 (.sl (.st 0)) s52))]
def f87.T3_e6 (z53 : Bool) (z54 : LLB) (z55 : Int) (z56 : Int) (z57 : Int) (z58 : LLM) (z59 : LM) (z60 : LLM) : T := mkT 94 [(1, (.tv .bool z53)), (2, (.ptr 1002 0)), (4, (.ptr 1004 0)), (5, (.tv (.sl (.sl .bool)) z54)), (6, (.ptr 1006 0)), (7, (.tv i64 z55)), (8, (.row 1023)), (9, (.tv i64 z56)), (10, (.tv i64 z57))]
def f87.H3_e6 (z53 : Bool) (z54 : LLB) (z55 : Int) (z56 : Int) (z57 : Int) (z58 : LLM) (z59 : LM) (z60 : LLM) : H := [(1002, (.box [(.tv (.sl (.sl (.st 0))) z58)])), (1004, (.box [.nil])), (1006, (.box [(.row 1900)])), (1023, (.row 53 (.st 0) z59)), (1900, (.row 51 (.sl (.st 0)) z60))]
def f87.p3_e6' {R : Type} (L N : Nat) (k2_e4 : Bool → LLB → Int → Int → LLM → LM → LLM → Option R) (rec2 : Bool → LLB → Int → Int → Int → LLM → LM → LLM → Option R) (z53 : Bool) (z54 : LLB) (z55 : Int) (z56 : Int) (z57 : Int) (z58 : LLM) (z59 : LM) (z60 : LLM) : Option R :=
  rec2 z53 z54 z55 z56 (wi (z57 + (1 : Int))) z58 z59 z60
def f87.p3_e6 {R : Type} (L N : Nat) (k2_e4 : Bool → LLB → Int → Int → LLM → LM → LLM → Option R) (rec2 : Bool → LLB → Int → Int → Int → LLM → LM → LLM → Option R) (z53 : Bool) (z54 : LLB) (z55 : Int) (z56 : Int) (z57 : Int) (z58 : LLM) (z59 : LM) (z60 : LLM) : Option R :=
  f87.p3_e6' L N k2_e4 rec2 z53 z54 z55 z56 z57 z58 z59 z60
def f87.s2' {R : Type} (L N : Nat) (k2_e4 : Bool → LLB → Int → Int → LLM → LM → LLM → Option R) (rec2 : Bool → LLB → Int → Int → Int → LLM → LM → LLM → Option R) (w3 : Bool → LLB → Int → Int → Int → Int → LLM → Int → Int → LM → LLM → Option R) (s27 : Bool) (s28 : LLB) (s29 : Int) (s30 : Int) (s31 : Int) (s32 : LLM) (s33 : LM) (s34 : LLM) : Option R :=
  bif (decide (0 ≤ s30) && decide (s30 < (s32.length : Int))) then
    bif (decide (s31 < ((listAt s32 [] s30.toNat).length : Int))) then
      bif (decide (0 ≤ s30) && decide (s30 < (s32.length : Int))) then
        bif (decide (0 ≤ s31) && decide (s31 < ((listAt s32 [] s30.toNat).length : Int))) then
          w3 s27 s28 s29 s30 s31 (0 : Int) s32 ((listAt (listAt s32 [] s30.toNat) (Ty.dflt (.st 0)) s31.toNat).act) ((listAt (listAt s32 [] s30.toNat) (Ty.dflt (.st 0)) s31.toNat).to) s33 s34
        else none
      else none
    else k2_e4 s27 s28 s29 s30 s32 s33 s34
  else none
end Go.Proofs.Ytdfjdbpklbehoaa.Ev
