/- The seat's functions as plain functions: made by program (wip/gen/gen.py). -/
import Derived.Test.YtdfjdbpklbehoaaEvYa
import Derived.Test.YtdfjdbpklbehoaaShelf
namespace Go.Proofs.Ytdfjdbpklbehoaa.Ev
open Go
set_option linter.unusedVariables false
set_option maxRecDepth 20000
def tyTab : List (Nat × Ty) := [(2, i64), (3, i64), (4, .bool), (5, (.int .u8)), (6, (.int .u8)), (9, .str), (10, .str), (11, .str), (12, (.int .u64)), (21, (.int .i32)), (22, (.sl (.sl (.st 0)))), (23, (.st 2)), (24, (.st 2)), (25, (.sl (.st 1))), (26, (.st 1)), (27, (.st 1)), (30, (.sl i64)), (32, (.sl (.sl (.st 0)))), (33, (.st 2)), (34, (.st 2)), (36, (.sl (.st 1))), (37, (.st 1)), (38, (.st 1)), (47, (.sl (.int .u8))), (51, (.sl (.st 0))), (52, (.st 0)), (53, (.st 0)), (71, (.sl .bool)), (88, (.sl (.sl i64))), (98, (.sl (.st 0))), (103, (.sl (.sl .bool))), (108, (.sl (.st 1))), (109, (.st 1)), (110, (.st 1)), (129, (.st 0)), (142, (.sl .str)), (143, (.sl (.st 3))), (146, (.st 3)), (151, (.int .u64)), (159, i64), (168, (.int .u32)), (170, (.int .u64)), (177, (.int .u64)), (196, (.int .u8)), (197, (.int .u8)), (200, (.int .i32)), (201, (.int .i32))]
def tyOf (t : Nat) : Option Ty := tyFind t tyTab
def lives (f i : Nat) : List Nat × List Nat :=
  bif Nat.beq f 9 && Nat.beq i 0 then ([3, 4, 6, 7, 8], [3, 16, 24]) else
  bif Nat.beq f 9 && Nat.beq i 2 then ([3, 4, 6, 7, 8, 9], [3, 16, 24]) else
  bif Nat.beq f 31 && Nat.beq i 0 then ([0, 1, 5], []) else
  bif Nat.beq f 32 && Nat.beq i 0 then ([1, 18, 19, 20], [1]) else
  bif Nat.beq f 32 && Nat.beq i 2 then ([1, 4, 18, 19, 20, 24, 25, 26], [1]) else
  bif Nat.beq f 45 && Nat.beq i 0 then ([0, 1, 5], []) else
  bif Nat.beq f 45 && Nat.beq i 2 then ([0, 1, 5, 6], []) else
  bif Nat.beq f 58 && Nat.beq i 0 then ([1, 3], [1]) else
  bif Nat.beq f 58 && Nat.beq i 2 then ([1, 3, 4], [1]) else
  bif Nat.beq f 80 && Nat.beq i 0 then ([1, 3], [1, 11]) else
  bif Nat.beq f 80 && Nat.beq i 2 then ([1, 3, 4, 5], [1, 11, 12]) else
  bif Nat.beq f 80 && Nat.beq i 4 then ([1, 3, 4, 5, 6, 7], [1, 11, 12]) else
  bif Nat.beq f 81 && Nat.beq i 0 then ([3, 5], [3, 10]) else
  bif Nat.beq f 83 && Nat.beq i 0 then ([1, 2, 3, 7, 8, 9, 10], [3, 13, 14, 18]) else
  bif Nat.beq f 83 && Nat.beq i 2 then ([1, 2, 3, 7, 8, 9, 10, 32, 33, 34], [3, 13, 14, 18]) else
  bif Nat.beq f 105 && Nat.beq i 0 then ([0, 4, 5, 6, 7, 8], [4, 5, 900, 901]) else
  bif Nat.beq f 105 && Nat.beq i 2 then ([0, 4, 5, 6, 7, 8, 9, 10], [4, 5, 25, 900, 901]) else
  bif Nat.beq f 114 && Nat.beq i 0 then ([0, 1, 5], []) else
  bif Nat.beq f 115 && Nat.beq i 0 then ([1, 2, 3, 7, 8, 9, 10], [3, 16, 19, 23]) else
  bif Nat.beq f 115 && Nat.beq i 2 then ([1, 2, 3, 7, 8, 9, 10, 11, 12], [3, 16, 19, 23]) else
  bif Nat.beq f 116 && Nat.beq i 0 then ([0, 1, 5], []) else
  bif Nat.beq f 117 && Nat.beq i 0 then ([0, 1, 5, 6, 16, 17], [11, 14]) else
  bif Nat.beq f 117 && Nat.beq i 2 then ([0, 1, 5, 6, 7, 8, 16, 17], [11, 14]) else
  bif Nat.beq f 119 && Nat.beq i 0 then ([0, 1, 12, 13], []) else
  bif Nat.beq f 123 && Nat.beq i 0 then ([0, 3, 4], [7]) else
  bif Nat.beq f 123 && Nat.beq i 2 then ([0, 3, 4, 5], [7]) else
  bif Nat.beq f 123 && Nat.beq i 4 then ([0, 3, 4, 5, 6], [7]) else
  bif Nat.beq f 130 && Nat.beq i 0 then ([0, 3, 4, 5], [8]) else
  bif Nat.beq f 133 && Nat.beq i 0 then ([1, 4, 6, 7, 8, 9], [4, 8, 16, 19, 900]) else
  bif Nat.beq f 133 && Nat.beq i 2 then ([1, 4, 6, 7, 8, 9, 10, 11, 12], [4, 8, 16, 19, 32, 33, 900]) else
  bif Nat.beq f 133 && Nat.beq i 4 then ([1, 4, 6, 7, 8, 9, 10, 11, 12, 13, 14], [4, 8, 16, 19, 32, 33, 900]) else
  bif Nat.beq f 142 && Nat.beq i 0 then ([0, 1, 12, 13], []) else
  bif Nat.beq f 145 && Nat.beq i 0 then ([0, 6, 14, 15, 16], [9]) else
  bif Nat.beq f 148 && Nat.beq i 0 then ([0, 3], []) else
  bif Nat.beq f 150 && Nat.beq i 1 then ([1, 3, 4], [1]) else
  bif Nat.beq f 151 && Nat.beq i 1 then ([2, 5, 6, 7, 8], [2, 14, 51, 57]) else
  bif Nat.beq f 151 && Nat.beq i 3 then ([2, 5, 6, 7, 9], [2, 14, 51, 57]) else
  bif Nat.beq f 151 && Nat.beq i 5 then ([5, 6, 7, 10], [14, 51, 57]) else
  bif Nat.beq f 151 && Nat.beq i 7 then ([5, 6, 7, 10, 11], [14, 51, 57]) else
  bif Nat.beq f 151 && Nat.beq i 9 then ([2, 5, 12, 13], [2, 14, 165]) else
  bif Nat.beq f 152 && Nat.beq i 1 then ([1, 3, 5, 6], [1]) else
  bif Nat.beq f 158 && Nat.beq i 0 then ([1, 2, 5, 6], [2]) else
  ([], [])
def livesX (f i : Nat) : List Nat × List Nat :=
  bif Nat.beq f 9 && Nat.beq i 0 then ([4, 6, 7], [16, 24]) else
  bif Nat.beq f 9 && Nat.beq i 2 then ([3, 4, 6, 7, 8], [3, 16, 24]) else
  bif Nat.beq f 31 && Nat.beq i 0 then ([4], []) else
  bif Nat.beq f 32 && Nat.beq i 0 then ([2], []) else
  bif Nat.beq f 32 && Nat.beq i 2 then ([1, 2, 18, 19, 20], [1]) else
  bif Nat.beq f 45 && Nat.beq i 0 then ([4], []) else
  bif Nat.beq f 45 && Nat.beq i 2 then ([0, 1, 4, 5], []) else
  bif Nat.beq f 58 && Nat.beq i 0 then ([2], []) else
  bif Nat.beq f 58 && Nat.beq i 2 then ([1, 2, 3], [1]) else
  bif Nat.beq f 80 && Nat.beq i 0 then ([2], [11]) else
  bif Nat.beq f 80 && Nat.beq i 2 then ([1, 3, 4], [1, 11, 12]) else
  bif Nat.beq f 80 && Nat.beq i 4 then ([1, 3, 4, 5, 6], [1, 11, 12]) else
  bif Nat.beq f 81 && Nat.beq i 0 then ([4], [10]) else
  bif Nat.beq f 83 && Nat.beq i 0 then ([7], [13]) else
  bif Nat.beq f 83 && Nat.beq i 2 then ([1, 2, 3, 7, 8, 9, 10], [3, 13, 14, 18]) else
  bif Nat.beq f 105 && Nat.beq i 0 then ([0, 4, 5, 6], [4, 5, 900, 901]) else
  bif Nat.beq f 105 && Nat.beq i 2 then ([0, 4, 5, 6, 7, 8, 9], [4, 5, 25, 900, 901]) else
  bif Nat.beq f 114 && Nat.beq i 0 then ([4], []) else
  bif Nat.beq f 115 && Nat.beq i 0 then ([9], [23]) else
  bif Nat.beq f 115 && Nat.beq i 2 then ([1, 2, 3, 7, 8, 9, 10], [3, 16, 19, 23]) else
  bif Nat.beq f 116 && Nat.beq i 0 then ([4], []) else
  bif Nat.beq f 117 && Nat.beq i 0 then ([5], [11]) else
  bif Nat.beq f 117 && Nat.beq i 2 then ([0, 1, 5, 6, 16, 17], [11, 14]) else
  bif Nat.beq f 119 && Nat.beq i 0 then ([4], []) else
  bif Nat.beq f 123 && Nat.beq i 0 then ([3], [7]) else
  bif Nat.beq f 123 && Nat.beq i 2 then ([0, 3, 4, 5], [7]) else
  bif Nat.beq f 123 && Nat.beq i 4 then ([0, 3, 4, 5], [7]) else
  bif Nat.beq f 130 && Nat.beq i 0 then ([0, 3, 4], [8]) else
  bif Nat.beq f 133 && Nat.beq i 0 then ([4, 5, 8], [4, 8, 900]) else
  bif Nat.beq f 133 && Nat.beq i 2 then ([1, 4, 5, 6, 7, 8, 9, 11], [4, 8, 16, 19, 33, 900]) else
  bif Nat.beq f 133 && Nat.beq i 4 then ([1, 4, 6, 7, 8, 9, 10, 11, 12, 13, 14], [4, 8, 16, 19, 32, 33, 900]) else
  bif Nat.beq f 142 && Nat.beq i 0 then ([4], []) else
  bif Nat.beq f 145 && Nat.beq i 0 then ([6], [9]) else
  bif Nat.beq f 148 && Nat.beq i 0 then ([0, 2], []) else
  bif Nat.beq f 150 && Nat.beq i 1 then ([3], []) else
  bif Nat.beq f 151 && Nat.beq i 1 then ([2, 5, 6, 7], [2, 14, 51, 57]) else
  bif Nat.beq f 151 && Nat.beq i 3 then ([5, 6, 7], [14, 51, 57]) else
  bif Nat.beq f 151 && Nat.beq i 5 then ([5], [14]) else
  bif Nat.beq f 151 && Nat.beq i 7 then ([5, 6, 7, 10], [14, 51, 57]) else
  bif Nat.beq f 151 && Nat.beq i 9 then ([5], [14]) else
  bif Nat.beq f 152 && Nat.beq i 1 then ([2, 5], []) else
  bif Nat.beq f 158 && Nat.beq i 0 then ([5], []) else
  ([], [])
def promT (f i : Nat) : List (Nat × Nat × Nat × Option Nat × Nat × Ty) :=
  bif Nat.beq f 105 && Nat.beq i 0 then [(4, 0, 900, (some 0), 0, (.sl (.st 0))), (5, 0, 901, (some 0), 0, (.sl (.st 0)))] else
  bif Nat.beq f 133 && Nat.beq i 0 then [(8, 0, 900, none, 51, (.sl (.st 0)))] else
  []
def healT (f i : Nat) : List Nat :=
  []
def renT (f i : Nat) : List (Nat × Nat) :=
  bif Nat.beq f 80 && Nat.beq i 0 then [(11, 12)] else
  []
def inlT (f : Nat) : Bool := memN f [24, 25]
theorem okP : OkP Try.prog := OkP.mk' (by kernel_rfl) (by kernel_rfl)
def Φx (L N : Nat) : Tells := addT (addT (addT noTells 141 sortEnt) 120 tidyEnt) 84 (cloneEnt 3)
theorem Φx_ok (L N : Nat) : TellsOk Try.prog (Φx L N) := addT_ok (addT_ok (addT_ok (no_ok _) (sort_ok ⟨Try.f141, rfl, by kernel_rfl, by kernel_rfl⟩ sortC sortNone)) (tidy_ok ⟨Try.f120, rfl, by kernel_rfl, by kernel_rfl⟩ tidyC tidyNone)) (clone_ok ⟨Try.f84, rfl, by kernel_rfl, by kernel_rfl⟩ cloneC cloneZero cloneNil)
def f31.s0' {R : Type} (L N : Nat) (k0_e0 : Option R) (k0_r : Bool → Option R) (rec0 : LI → LI → Int → Option R) (s0 : LI) (s1 : LI) (s2 : Int) : Option R :=
  bif (decide (s2 < (s0.length : Int))) then
    bif (decide (0 ≤ s2) && decide (s2 < (s0.length : Int))) then
      bif (decide (0 ≤ s2) && decide (s2 < (s1.length : Int))) then
        bif ((listAt s0 (0 : Int) s2.toNat) != (listAt s1 (0 : Int) s2.toNat)) then
          k0_r false
        else rec0 s0 s1 (wi (s2 + (1 : Int)))
      else none
    else none
  else k0_e0
def f31.s0 {R : Type} (L N : Nat) (k0_e0 : Option R) (k0_r : Bool → Option R) (rec0 : LI → LI → Int → Option R) (s0 : LI) (s1 : LI) (s2 : Int) : Option R :=
  f31.s0' L N k0_e0 k0_r rec0 s0 s1 s2
def f31.l0 {R : Type} (L N : Nat) (k0_e0 : Option R) (k0_r : Bool → Option R) : Nat → LI → LI → Int → Option R
  | 0, _, _, _ => none
  | n + 1, s0, s1, s2 => f31.s0 L N k0_e0 k0_r (f31.l0 L N k0_e0 k0_r n) s0 s1 s2
def f31.T0 (s0 : LI) (s1 : LI) (s2 : Int) : T := mkT 26 [(0, (.tv (.sl i64) s0)), (1, (.tv (.sl i64) s1)), (5, (.tv i64 s2))]
def f31.H0 (s0 : LI) (s1 : LI) (s2 : Int) : H := []
def f31.T0_e0 : T := mkT 26 []
def f31.H0_e0 : H := []
def f31.T0_r (z3 : Bool) : T := mkT 26 [(4, (.tv .bool z3))]
def f31.H0_r (z3 : Bool) : H := []
def f31.p0_e0' {R : Type} (L N : Nat) (k : Bool → Option R) : Option R :=
  k true
def f31.p0_e0 {R : Type} (L N : Nat) (k : Bool → Option R) : Option R :=
  f31.p0_e0' L N k
def f31.p0_r' {R : Type} (L N : Nat) (k : Bool → Option R) (z3 : Bool) : Option R :=
  k z3
def f31.p0_r {R : Type} (L N : Nat) (k : Bool → Option R) (z3 : Bool) : Option R :=
  f31.p0_r' L N k z3
def f31.b' {R : Type} (L N : Nat) (k : Bool → Option R) (w0 : LI → LI → Int → Option R) (x0 : LI) (x1 : LI) : Option R :=
  bif ((x0.length : Int) != (x1.length : Int)) then
    k false
  else w0 x0 x1 (0 : Int)
def f31.b {R : Type} (L N : Nat) (k : Bool → Option R) (x0 : LI) (x1 : LI) : Option R :=
  f31.b' L N k (fun s0 s1 s2 => f31.l0 L N (f31.p0_e0 L N k) (fun z3 => f31.p0_r L N k z3) L s0 s1 s2) x0 x1
def f31 (L N : Nat) (x0 : LI) (x1 : LI) : Option (Bool) := f31.b L N some x0 x1
def f31.ent (L N : Nat) := entRo [(.sl i64), (.sl i64)] (.one .bool) fun d => f31 L N d.1 d.2.1
noncomputable def E31 (L N : Nat) : Env := { P := Try.prog, ty := tyOf, Φ := (Φx L N), inl := inlT, live := lives, liveX := livesX, L := L, dp := none, prom := promT, heal := healT, ren := renT }
noncomputable def f31.c0 : Code := loopAt 0 (codeOf Try.f31)
def f31.X0_e0 {R : Type} (κ : KX R) := κ (.exit 0) f31.T0_e0 f31.H0_e0
def f31.X0_r {R : Type} (κ : KX R) := fun z3 => κ .ret (f31.T0_r z3) (f31.H0_r z3)
def f31.R0 {R : Type} (rec : KT R) := fun s0 s1 s2 => rec (f31.T0 s0 s1 s2) (f31.H0 s0 s1 s2)
theorem f31.s0_eq {R : Type} (L N : Nat) (κ : KX R) (rec : KT R) (s0 : LI) (s1 : LI) (s2 : Int) :
    evRd (E31 L N) (evCallI (E31 L N) 1 2000) 1000 31 26 0 f31.c0 κ rec (f31.T0 s0 s1 s2) (f31.H0 s0 s1 s2)
    = f31.s0 L N (f31.X0_e0 κ) (f31.X0_r κ) (f31.R0 rec) s0 s1 s2 := by kernel_rfl
theorem f31.l0_eq {R : Type} (L N : Nat) (κ : KX R) : ∀ (n : Nat) (s0 : LI) (s1 : LI) (s2 : Int),
    evLp (E31 L N) (evCallI (E31 L N) 1 2000) 1000 31 26 0 f31.c0 κ n (f31.T0 s0 s1 s2) (f31.H0 s0 s1 s2)
    = f31.l0 L N (f31.X0_e0 κ) (f31.X0_r κ) n s0 s1 s2 := by
  intro n
  induction n with
  | zero => intros; rfl
  | succ n ih =>
    intro s0 s1 s2
    rw [evLp_succ, f31.s0_eq]
    delta f31.R0
    simp only [ih]
    rfl
theorem f31.p0_e0_eq {R : Type} (L N : Nat) (κ : AV → Option R) :
    (contAt (E31 L N) (evCallI (E31 L N) 1 2000) 1000 31 26 0 (codeOf Try.f31) (finK (E31 L N) 1000 Try.f31 (finC (.one .bool) κ))) (.exit 0) f31.T0_e0 f31.H0_e0
    = f31.p0_e0 L N (fun a0 => κ (.tv .bool a0)) := by kernel_rfl
theorem f31.p0_r_eq {R : Type} (L N : Nat) (κ : AV → Option R) (z3 : Bool) :
    (contAt (E31 L N) (evCallI (E31 L N) 1 2000) 1000 31 26 0 (codeOf Try.f31) (finK (E31 L N) 1000 Try.f31 (finC (.one .bool) κ))) .ret (f31.T0_r z3) (f31.H0_r z3)
    = f31.p0_r L N (fun a0 => κ (.tv .bool a0)) z3 := by kernel_rfl
theorem f31.b_eq {R : Type} (L N : Nat) (κ : AV → Option R) (x0 : LI) (x1 : LI) :
    evBody (E31 L N) (evCallI (E31 L N) 1 2000) 1000 31 Try.f31 [(.tv (.sl i64) x0), (.tv (.sl i64) x1)] [] [] (finC (.one .bool) κ)
    = f31.b L N (fun a0 => κ (.tv .bool a0)) x0 x1 := by
  refine Eq.trans (b := f31.b' L N (fun a0 => κ (.tv .bool a0)) (fun s0 s1 s2 => evLp (E31 L N) (evCallI (E31 L N) 1 2000) 1000 31 26 0 f31.c0 (contAt (E31 L N) (evCallI (E31 L N) 1 2000) 1000 31 26 0 (codeOf Try.f31) (finK (E31 L N) 1000 Try.f31 (finC (.one .bool) κ))) L (f31.T0 s0 s1 s2) (f31.H0 s0 s1 s2)) x0 x1) (by kernel_rfl) ?_
  unfold f31.b
  simp only [f31.l0_eq]
  delta f31.X0_e0 f31.X0_r
  simp only [f31.p0_e0_eq, f31.p0_r_eq]
theorem f31.ok (L N : Nat) (hΦ : TellsOk Try.prog ((Φx L N))) : EntOk Try.prog 31 (f31.ent L N) := entRo_ok (E := (E31 L N)) (dep := 1000) (f := Try.f31) (sound_of hΦ) okP (callI_sound (sound_of hΦ) okP 1 2000) rfl rfl fun d _ hy => (f31.b_eq L N (unR (.one .bool)) d.1 d.2.1).trans (Eq.trans (b := f31.b L N some d.1 d.2.1) (by kernel_rfl) hy)
def Φ31 (L N : Nat) : Tells := (addT (Φx L N) 31 (f31.ent L N))
theorem Φ31_ok (L N : Nat) : TellsOk Try.prog (Φ31 L N) := addT_ok (Φx_ok L N) (f31.ok L N (Φx_ok L N))
def f96.b' {R : Type} (L N : Nat) (k : Bool → Option R) (x0 : Int) (x1 : Int) (x2 : Int) : Option R :=
  bif (decide (x0 ≥ x1)) then
    k (decide (x0 ≤ x2))
  else k false
def f96.b {R : Type} (L N : Nat) (k : Bool → Option R) (x0 : Int) (x1 : Int) (x2 : Int) : Option R :=
  f96.b' L N k x0 x1 x2
def f96 (L N : Nat) (x0 : Int) (x1 : Int) (x2 : Int) : Option (Bool) := f96.b L N some x0 x1 x2
def f96.ent (L N : Nat) := entRo [i64, i64, i64] (.one .bool) fun d => f96 L N d.1 d.2.1 d.2.2.1
noncomputable def E96 (L N : Nat) : Env := { P := Try.prog, ty := tyOf, Φ := (Φ31 L N), inl := inlT, live := lives, liveX := livesX, L := L, dp := none, prom := promT, heal := healT, ren := renT }
theorem f96.b_eq {R : Type} (L N : Nat) (κ : AV → Option R) (x0 : Int) (x1 : Int) (x2 : Int) :
    evBody (E96 L N) (evCallI (E96 L N) 1 2000) 1000 96 Try.f96 [(.tv i64 x0), (.tv i64 x1), (.tv i64 x2)] [] [] (finC (.one .bool) κ)
    = f96.b L N (fun a0 => κ (.tv .bool a0)) x0 x1 x2 := by kernel_rfl
theorem f96.ok (L N : Nat) (hΦ : TellsOk Try.prog ((Φ31 L N))) : EntOk Try.prog 96 (f96.ent L N) := entRo_ok (E := (E96 L N)) (dep := 1000) (f := Try.f96) (sound_of hΦ) okP (callI_sound (sound_of hΦ) okP 1 2000) rfl rfl fun d _ hy => (f96.b_eq L N (unR (.one .bool)) d.1 d.2.1 d.2.2.1).trans (Eq.trans (b := f96.b L N some d.1 d.2.1 d.2.2.1) (by kernel_rfl) hy)
def Φ96 (L N : Nat) : Tells := (addT (Φ31 L N) 96 (f96.ent L N))
theorem Φ96_ok (L N : Nat) : TellsOk Try.prog (Φ96 L N) := addT_ok (Φ31_ok L N) (f96.ok L N (Φ31_ok L N))
def f97.b' {R : Type} (L N : Nat) (k : Bool → Option R) (x0 : Int) : Option R :=
  (f96 L N x0 (-4 : Int) (4 : Int)).bind fun y0 =>
  k y0
def f97.b {R : Type} (L N : Nat) (k : Bool → Option R) (x0 : Int) : Option R :=
  f97.b' L N k x0
def f97 (L N : Nat) (x0 : Int) : Option (Bool) := f97.b L N some x0
def f97.ent (L N : Nat) := entRo [i64] (.one .bool) fun d => f97 L N d.1
noncomputable def E97 (L N : Nat) : Env := { P := Try.prog, ty := tyOf, Φ := (Φ96 L N), inl := inlT, live := lives, liveX := livesX, L := L, dp := none, prom := promT, heal := healT, ren := renT }
theorem f97.b_eq {R : Type} (L N : Nat) (κ : AV → Option R) (x0 : Int) :
    evBody (E97 L N) (evCallI (E97 L N) 1 2000) 1000 97 Try.f97 [(.tv i64 x0)] [] [] (finC (.one .bool) κ)
    = f97.b L N (fun a0 => κ (.tv .bool a0)) x0 := by kernel_rfl
theorem f97.ok (L N : Nat) (hΦ : TellsOk Try.prog ((Φ96 L N))) : EntOk Try.prog 97 (f97.ent L N) := entRo_ok (E := (E97 L N)) (dep := 1000) (f := Try.f97) (sound_of hΦ) okP (callI_sound (sound_of hΦ) okP 1 2000) rfl rfl fun d _ hy => (f97.b_eq L N (unR (.one .bool)) d.1).trans (Eq.trans (b := f97.b L N some d.1) (by kernel_rfl) hy)
def Φ97 (L N : Nat) : Tells := (addT (Φ96 L N) 97 (f97.ent L N))
theorem Φ97_ok (L N : Nat) : TellsOk Try.prog (Φ97 L N) := addT_ok (Φ96_ok L N) (f97.ok L N (Φ96_ok L N))
def f98.b' {R : Type} (L N : Nat) (k : Bool → Option R) (x0 : Move) (x1 : Move) : Option R :=
  bif (decide (x0.act < x1.act)) then
    k true
  else bif (x0.act == x1.act) then
    k (decide (x0.to < x1.to))
  else k false
def f98.b {R : Type} (L N : Nat) (k : Bool → Option R) (x0 : Move) (x1 : Move) : Option R :=
  f98.b' L N k x0 x1
def f98 (L N : Nat) (x0 : Move) (x1 : Move) : Option (Bool) := f98.b L N some x0 x1
def f98.ent (L N : Nat) := entRo [(.st 0), (.st 0)] (.one .bool) fun d => f98 L N d.1 d.2.1
noncomputable def E98 (L N : Nat) : Env := { P := Try.prog, ty := tyOf, Φ := (Φ97 L N), inl := inlT, live := lives, liveX := livesX, L := L, dp := none, prom := promT, heal := healT, ren := renT }
theorem f98.b_eq {R : Type} (L N : Nat) (κ : AV → Option R) (x0 : Move) (x1 : Move) :
    evBody (E98 L N) (evCallI (E98 L N) 1 2000) 1000 98 Try.f98 [(.tv (.st 0) x0), (.tv (.st 0) x1)] [] [] (finC (.one .bool) κ)
    = f98.b L N (fun a0 => κ (.tv .bool a0)) x0 x1 := by kernel_rfl
theorem f98.ok (L N : Nat) (hΦ : TellsOk Try.prog ((Φ97 L N))) : EntOk Try.prog 98 (f98.ent L N) := entRo_ok (E := (E98 L N)) (dep := 1000) (f := Try.f98) (sound_of hΦ) okP (callI_sound (sound_of hΦ) okP 1 2000) rfl rfl fun d _ hy => (f98.b_eq L N (unR (.one .bool)) d.1 d.2.1).trans (Eq.trans (b := f98.b L N some d.1 d.2.1) (by kernel_rfl) hy)
def Φ98 (L N : Nat) : Tells := (addT (Φ97 L N) 98 (f98.ent L N))
theorem Φ98_ok (L N : Nat) : TellsOk Try.prog (Φ98 L N) := addT_ok (Φ97_ok L N) (f98.ok L N (Φ97_ok L N))
def f58.s1' {R : Type} (L N : Nat) (k1_e2 : Int → LLM → Option R) (k1_r : Bool → Int → LLM → Option R) (rec1 : Int → Int → LLM → Option R) (s3 : Int) (s4 : Int) (s5 : LLM) : Option R :=
  bif (decide (0 ≤ s3) && decide (s3 < (s5.length : Int))) then
    bif (decide (s4 < ((listAt s5 [] s3.toNat).length : Int))) then
      bif (decide (0 ≤ s3) && decide (s3 < (s5.length : Int))) then
        bif (decide (0 ≤ s4) && decide (s4 < ((listAt s5 [] s3.toNat).length : Int))) then
          (f97 L N ((listAt (listAt s5 [] s3.toNat) (Ty.dflt (.st 0)) s4.toNat).act)).bind fun y8 =>
          bif (!y8) then
            k1_r false s3 s5
          else (f96 L N ((listAt (listAt s5 [] s3.toNat) (Ty.dflt (.st 0)) s4.toNat).to) (0 : Int) (wi ((s5.length : Int) - (1 : Int)))).bind fun y9 =>
          bif (!y9) then
            k1_r false s3 s5
          else bif (decide (s4 > (0 : Int))) then
            bif (decide (0 ≤ s3) && decide (s3 < (s5.length : Int))) then
              bif (decide (0 ≤ (wi (s4 - (1 : Int)))) && decide ((wi (s4 - (1 : Int))) < ((listAt s5 [] s3.toNat).length : Int))) then
                (f98 L N (listAt (listAt s5 [] s3.toNat) (Ty.dflt (.st 0)) (wi (s4 - (1 : Int))).toNat) (Move.mk ((listAt (listAt s5 [] s3.toNat) (Ty.dflt (.st 0)) s4.toNat).act) ((listAt (listAt s5 [] s3.toNat) (Ty.dflt (.st 0)) s4.toNat).to))).bind fun y10 =>
                bif (!y10) then
                  k1_r false s3 s5
                else rec1 s3 (wi (s4 + (1 : Int))) s5
              else none
            else none
          else rec1 s3 (wi (s4 + (1 : Int))) s5
        else none
      else none
    else k1_e2 s3 s5
  else none
def f58.s1 {R : Type} (L N : Nat) (k1_e2 : Int → LLM → Option R) (k1_r : Bool → Int → LLM → Option R) (rec1 : Int → Int → LLM → Option R) (s3 : Int) (s4 : Int) (s5 : LLM) : Option R :=
  f58.s1' L N k1_e2 k1_r rec1 s3 s4 s5
def f58.l1 {R : Type} (L N : Nat) (k1_e2 : Int → LLM → Option R) (k1_r : Bool → Int → LLM → Option R) : Nat → Int → Int → LLM → Option R
  | 0, _, _, _ => none
  | n + 1, s3, s4, s5 => f58.s1 L N k1_e2 k1_r (f58.l1 L N k1_e2 k1_r n) s3 s4 s5
def f58.T1 (s3 : Int) (s4 : Int) (s5 : LLM) : T := mkT 68 [(1, (.ptr 1001 0)), (3, (.tv i64 s3)), (4, (.tv i64 s4))]
def f58.H1 (s3 : Int) (s4 : Int) (s5 : LLM) : H := [(1001, (.box [(.tv (.sl (.sl (.st 0))) s5)]))]
def f58.T1_e2 (z6 : Int) (z7 : LLM) : T := mkT 68 [(1, (.ptr 1001 0)), (3, (.tv i64 z6))]
def f58.H1_e2 (z6 : Int) (z7 : LLM) : H := [(1001, (.box [(.tv (.sl (.sl (.st 0))) z7)]))]
def f58.T1_r (z15 : Bool) (z16 : Int) (z17 : LLM) : T := mkT 68 [(1, (.ptr 1001 0)), (2, (.tv .bool z15)), (3, (.tv i64 z16))]
def f58.H1_r (z15 : Bool) (z16 : Int) (z17 : LLM) : H := [(1001, (.box [(.tv (.sl (.sl (.st 0))) z17)]))]
def f58.p1_e2' {R : Type} (L N : Nat) (k0_e0 : Option R) (k0_r : Bool → Option R) (rec0 : Int → LLM → Option R) (z6 : Int) (z7 : LLM) : Option R :=
  rec0 (wi (z6 + (1 : Int))) z7
def f58.p1_e2 {R : Type} (L N : Nat) (k0_e0 : Option R) (k0_r : Bool → Option R) (rec0 : Int → LLM → Option R) (z6 : Int) (z7 : LLM) : Option R :=
  f58.p1_e2' L N k0_e0 k0_r rec0 z6 z7
def f58.p1_r' {R : Type} (L N : Nat) (k0_e0 : Option R) (k0_r : Bool → Option R) (rec0 : Int → LLM → Option R) (z15 : Bool) (z16 : Int) (z17 : LLM) : Option R :=
  k0_r z15
def f58.p1_r {R : Type} (L N : Nat) (k0_e0 : Option R) (k0_r : Bool → Option R) (rec0 : Int → LLM → Option R) (z15 : Bool) (z16 : Int) (z17 : LLM) : Option R :=
  f58.p1_r' L N k0_e0 k0_r rec0 z15 z16 z17
def f58.s0' {R : Type} (L N : Nat) (k0_e0 : Option R) (k0_r : Bool → Option R) (rec0 : Int → LLM → Option R) (w1 : Int → Int → LLM → Option R) (s1 : Int) (s2 : LLM) : Option R :=
  bif (decide (s1 < (s2.length : Int))) then
    w1 s1 (0 : Int) s2
  else k0_e0
def f58.s0 {R : Type} (L N : Nat) (k0_e0 : Option R) (k0_r : Bool → Option R) (rec0 : Int → LLM → Option R) (s1 : Int) (s2 : LLM) : Option R :=
  f58.s0' L N k0_e0 k0_r rec0 (fun s3 s4 s5 => f58.l1 L N (fun z6 z7 => f58.p1_e2 L N k0_e0 k0_r rec0 z6 z7) (fun z15 z16 z17 => f58.p1_r L N k0_e0 k0_r rec0 z15 z16 z17) L s3 s4 s5) s1 s2
def f58.l0 {R : Type} (L N : Nat) (k0_e0 : Option R) (k0_r : Bool → Option R) : Nat → Int → LLM → Option R
  | 0, _, _ => none
  | n + 1, s1, s2 => f58.s0 L N k0_e0 k0_r (f58.l0 L N k0_e0 k0_r n) s1 s2
def f58.T0 (s1 : Int) (s2 : LLM) : T := mkT 68 [(1, (.ptr 1001 0)), (3, (.tv i64 s1))]
def f58.H0 (s1 : Int) (s2 : LLM) : H := [(1001, (.box [(.tv (.sl (.sl (.st 0))) s2)]))]
def f58.T0_e0 : T := mkT 68 []
def f58.H0_e0 : H := []
def f58.T0_r (z21 : Bool) : T := mkT 68 [(2, (.tv .bool z21))]
def f58.H0_r (z21 : Bool) : H := []
def f58.p0_e0' {R : Type} (L N : Nat) (k : Bool → Option R) : Option R :=
  k true
def f58.p0_e0 {R : Type} (L N : Nat) (k : Bool → Option R) : Option R :=
  f58.p0_e0' L N k
def f58.p0_r' {R : Type} (L N : Nat) (k : Bool → Option R) (z21 : Bool) : Option R :=
  k z21
def f58.p0_r {R : Type} (L N : Nat) (k : Bool → Option R) (z21 : Bool) : Option R :=
  f58.p0_r' L N k z21
def f58.b' {R : Type} (L N : Nat) (k : Bool → Option R) (w0 : Int → LLM → Option R) (x0 : Graph) : Option R :=
  (f96 L N (x0.moves.length : Int) (1 : Int) (60 : Int)).bind fun y0 =>
  bif (!y0) then
    k false
  else w0 (0 : Int) x0.moves
def f58.b {R : Type} (L N : Nat) (k : Bool → Option R) (x0 : Graph) : Option R :=
  f58.b' L N k (fun s1 s2 => f58.l0 L N (f58.p0_e0 L N k) (fun z21 => f58.p0_r L N k z21) L s1 s2) x0
def f58 (L N : Nat) (x0 : Graph) : Option (Bool) := f58.b L N some x0
def f58.ent (L N : Nat) := entRo [(.st 2)] (.one .bool) fun d => f58 L N d.1
noncomputable def E58 (L N : Nat) : Env := { P := Try.prog, ty := tyOf, Φ := (Φ98 L N), inl := inlT, live := lives, liveX := livesX, L := L, dp := none, prom := promT, heal := healT, ren := renT }
noncomputable def f58.c0 : Code := loopAt 0 (codeOf Try.f58)
noncomputable def f58.c1 : Code := loopAt 2 f58.c0
def f58.X1_e2 {R : Type} (κ : KX R) := fun z6 z7 => κ (.exit 2) (f58.T1_e2 z6 z7) (f58.H1_e2 z6 z7)
def f58.X1_r {R : Type} (κ : KX R) := fun z15 z16 z17 => κ .ret (f58.T1_r z15 z16 z17) (f58.H1_r z15 z16 z17)
def f58.R1 {R : Type} (rec : KT R) := fun s3 s4 s5 => rec (f58.T1 s3 s4 s5) (f58.H1 s3 s4 s5)
theorem f58.s1_eq {R : Type} (L N : Nat) (κ : KX R) (rec : KT R) (s3 : Int) (s4 : Int) (s5 : LLM) :
    evRd (E58 L N) (evCallI (E58 L N) 1 2000) 1000 58 68 2 f58.c1 κ rec (f58.T1 s3 s4 s5) (f58.H1 s3 s4 s5)
    = f58.s1 L N (f58.X1_e2 κ) (f58.X1_r κ) (f58.R1 rec) s3 s4 s5 := by kernel_rfl
theorem f58.l1_eq {R : Type} (L N : Nat) (κ : KX R) : ∀ (n : Nat) (s3 : Int) (s4 : Int) (s5 : LLM),
    evLp (E58 L N) (evCallI (E58 L N) 1 2000) 1000 58 68 2 f58.c1 κ n (f58.T1 s3 s4 s5) (f58.H1 s3 s4 s5)
    = f58.l1 L N (f58.X1_e2 κ) (f58.X1_r κ) n s3 s4 s5 := by
  intro n
  induction n with
  | zero => intros; rfl
  | succ n ih =>
    intro s3 s4 s5
    rw [evLp_succ, f58.s1_eq]
    delta f58.R1
    simp only [ih]
    rfl
def f58.X0_e0 {R : Type} (κ : KX R) := κ (.exit 0) f58.T0_e0 f58.H0_e0
def f58.X0_r {R : Type} (κ : KX R) := fun z21 => κ .ret (f58.T0_r z21) (f58.H0_r z21)
def f58.R0 {R : Type} (rec : KT R) := fun s1 s2 => rec (f58.T0 s1 s2) (f58.H0 s1 s2)
theorem f58.p1_e2_eq {R : Type} (L N : Nat) (κ : KX R) (rec : KT R) (z6 : Int) (z7 : LLM) :
    (contAt (E58 L N) (evCallI (E58 L N) 1 2000) 1000 58 68 2 f58.c0 (rdK (E58 L N) 1000 58 68 0 κ rec)) (.exit 2) (f58.T1_e2 z6 z7) (f58.H1_e2 z6 z7)
    = f58.p1_e2 L N (f58.X0_e0 κ) (f58.X0_r κ) (f58.R0 rec) z6 z7 := by kernel_rfl
theorem f58.p1_r_eq {R : Type} (L N : Nat) (κ : KX R) (rec : KT R) (z15 : Bool) (z16 : Int) (z17 : LLM) :
    (contAt (E58 L N) (evCallI (E58 L N) 1 2000) 1000 58 68 2 f58.c0 (rdK (E58 L N) 1000 58 68 0 κ rec)) .ret (f58.T1_r z15 z16 z17) (f58.H1_r z15 z16 z17)
    = f58.p1_r L N (f58.X0_e0 κ) (f58.X0_r κ) (f58.R0 rec) z15 z16 z17 := by kernel_rfl
theorem f58.s0_eq {R : Type} (L N : Nat) (κ : KX R) (rec : KT R) (s1 : Int) (s2 : LLM) :
    evRd (E58 L N) (evCallI (E58 L N) 1 2000) 1000 58 68 0 f58.c0 κ rec (f58.T0 s1 s2) (f58.H0 s1 s2)
    = f58.s0 L N (f58.X0_e0 κ) (f58.X0_r κ) (f58.R0 rec) s1 s2 := by
  refine Eq.trans (b := f58.s0' L N (f58.X0_e0 κ) (f58.X0_r κ) (f58.R0 rec) (fun s3 s4 s5 => evLp (E58 L N) (evCallI (E58 L N) 1 2000) 1000 58 68 2 f58.c1 (contAt (E58 L N) (evCallI (E58 L N) 1 2000) 1000 58 68 2 f58.c0 (rdK (E58 L N) 1000 58 68 0 κ rec)) L (f58.T1 s3 s4 s5) (f58.H1 s3 s4 s5)) s1 s2) (by kernel_rfl) ?_
  unfold f58.s0
  simp only [f58.l1_eq]
  delta f58.X1_e2 f58.X1_r
  simp only [f58.p1_e2_eq, f58.p1_r_eq]
theorem f58.l0_eq {R : Type} (L N : Nat) (κ : KX R) : ∀ (n : Nat) (s1 : Int) (s2 : LLM),
    evLp (E58 L N) (evCallI (E58 L N) 1 2000) 1000 58 68 0 f58.c0 κ n (f58.T0 s1 s2) (f58.H0 s1 s2)
    = f58.l0 L N (f58.X0_e0 κ) (f58.X0_r κ) n s1 s2 := by
  intro n
  induction n with
  | zero => intros; rfl
  | succ n ih =>
    intro s1 s2
    rw [evLp_succ, f58.s0_eq]
    delta f58.R0
    simp only [ih]
    rfl
theorem f58.p0_e0_eq {R : Type} (L N : Nat) (κ : AV → Option R) :
    (contAt (E58 L N) (evCallI (E58 L N) 1 2000) 1000 58 68 0 (codeOf Try.f58) (finK (E58 L N) 1000 Try.f58 (finC (.one .bool) κ))) (.exit 0) f58.T0_e0 f58.H0_e0
    = f58.p0_e0 L N (fun a0 => κ (.tv .bool a0)) := by kernel_rfl
theorem f58.p0_r_eq {R : Type} (L N : Nat) (κ : AV → Option R) (z21 : Bool) :
    (contAt (E58 L N) (evCallI (E58 L N) 1 2000) 1000 58 68 0 (codeOf Try.f58) (finK (E58 L N) 1000 Try.f58 (finC (.one .bool) κ))) .ret (f58.T0_r z21) (f58.H0_r z21)
    = f58.p0_r L N (fun a0 => κ (.tv .bool a0)) z21 := by kernel_rfl
theorem f58.b_eq {R : Type} (L N : Nat) (κ : AV → Option R) (x0 : Graph) :
    evBody (E58 L N) (evCallI (E58 L N) 1 2000) 1000 58 Try.f58 [(.tv (.st 2) x0)] [] [] (finC (.one .bool) κ)
    = f58.b L N (fun a0 => κ (.tv .bool a0)) x0 := by
  refine Eq.trans (b := f58.b' L N (fun a0 => κ (.tv .bool a0)) (fun s1 s2 => evLp (E58 L N) (evCallI (E58 L N) 1 2000) 1000 58 68 0 f58.c0 (contAt (E58 L N) (evCallI (E58 L N) 1 2000) 1000 58 68 0 (codeOf Try.f58) (finK (E58 L N) 1000 Try.f58 (finC (.one .bool) κ))) L (f58.T0 s1 s2) (f58.H0 s1 s2)) x0) (by kernel_rfl) ?_
  unfold f58.b
  simp only [f58.l0_eq]
  delta f58.X0_e0 f58.X0_r
  simp only [f58.p0_e0_eq, f58.p0_r_eq]
theorem f58.ok (L N : Nat) (hΦ : TellsOk Try.prog ((Φ98 L N))) : EntOk Try.prog 58 (f58.ent L N) := entRo_ok (E := (E58 L N)) (dep := 1000) (f := Try.f58) (sound_of hΦ) okP (callI_sound (sound_of hΦ) okP 1 2000) rfl rfl fun d _ hy => (f58.b_eq L N (unR (.one .bool)) d.1).trans (Eq.trans (b := f58.b L N some d.1) (by kernel_rfl) hy)
def Φ58 (L N : Nat) : Tells := (addT (Φ98 L N) 58 (f58.ent L N))
theorem Φ58_ok (L N : Nat) : TellsOk Try.prog (Φ58 L N) := addT_ok (Φ98_ok L N) (f58.ok L N (Φ98_ok L N))
def f114.s0' {R : Type} (L N : Nat) (k0_e0 : Option R) (k0_r : Bool → Option R) (rec0 : LM → LM → Int → Option R) (s0 : LM) (s1 : LM) (s2 : Int) : Option R :=
  bif (decide (s2 < (s0.length : Int))) then
    bif (decide (0 ≤ s2) && decide (s2 < (s0.length : Int))) then
      bif (decide (0 ≤ s2) && decide (s2 < (s1.length : Int))) then
        bif (!(Move.eqb (listAt s0 (Ty.dflt (.st 0)) s2.toNat) (listAt s1 (Ty.dflt (.st 0)) s2.toNat))) then
          k0_r false
        else rec0 s0 s1 (wi (s2 + (1 : Int)))
      else none
    else none
  else k0_e0
def f114.s0 {R : Type} (L N : Nat) (k0_e0 : Option R) (k0_r : Bool → Option R) (rec0 : LM → LM → Int → Option R) (s0 : LM) (s1 : LM) (s2 : Int) : Option R :=
  f114.s0' L N k0_e0 k0_r rec0 s0 s1 s2
def f114.l0 {R : Type} (L N : Nat) (k0_e0 : Option R) (k0_r : Bool → Option R) : Nat → LM → LM → Int → Option R
  | 0, _, _, _ => none
  | n + 1, s0, s1, s2 => f114.s0 L N k0_e0 k0_r (f114.l0 L N k0_e0 k0_r n) s0 s1 s2
def f114.T0 (s0 : LM) (s1 : LM) (s2 : Int) : T := mkT 26 [(0, (.tv (.sl (.st 0)) s0)), (1, (.tv (.sl (.st 0)) s1)), (5, (.tv i64 s2))]
def f114.H0 (s0 : LM) (s1 : LM) (s2 : Int) : H := []
def f114.T0_e0 : T := mkT 26 []
def f114.H0_e0 : H := []
def f114.T0_r (z3 : Bool) : T := mkT 26 [(4, (.tv .bool z3))]
def f114.H0_r (z3 : Bool) : H := []
def f114.p0_e0' {R : Type} (L N : Nat) (k : Bool → Option R) : Option R :=
  k true
def f114.p0_e0 {R : Type} (L N : Nat) (k : Bool → Option R) : Option R :=
  f114.p0_e0' L N k
def f114.p0_r' {R : Type} (L N : Nat) (k : Bool → Option R) (z3 : Bool) : Option R :=
  k z3
def f114.p0_r {R : Type} (L N : Nat) (k : Bool → Option R) (z3 : Bool) : Option R :=
  f114.p0_r' L N k z3
def f114.b' {R : Type} (L N : Nat) (k : Bool → Option R) (w0 : LM → LM → Int → Option R) (x0 : LM) (x1 : LM) : Option R :=
  bif ((x0.length : Int) != (x1.length : Int)) then
    k false
  else w0 x0 x1 (0 : Int)
def f114.b {R : Type} (L N : Nat) (k : Bool → Option R) (x0 : LM) (x1 : LM) : Option R :=
  f114.b' L N k (fun s0 s1 s2 => f114.l0 L N (f114.p0_e0 L N k) (fun z3 => f114.p0_r L N k z3) L s0 s1 s2) x0 x1
def f114 (L N : Nat) (x0 : LM) (x1 : LM) : Option (Bool) := f114.b L N some x0 x1
def f114.ent (L N : Nat) := entRo [(.sl (.st 0)), (.sl (.st 0))] (.one .bool) fun d => f114 L N d.1 d.2.1
noncomputable def E114 (L N : Nat) : Env := { P := Try.prog, ty := tyOf, Φ := (Φ58 L N), inl := inlT, live := lives, liveX := livesX, L := L, dp := none, prom := promT, heal := healT, ren := renT }
noncomputable def f114.c0 : Code := loopAt 0 (codeOf Try.f114)
def f114.X0_e0 {R : Type} (κ : KX R) := κ (.exit 0) f114.T0_e0 f114.H0_e0
def f114.X0_r {R : Type} (κ : KX R) := fun z3 => κ .ret (f114.T0_r z3) (f114.H0_r z3)
def f114.R0 {R : Type} (rec : KT R) := fun s0 s1 s2 => rec (f114.T0 s0 s1 s2) (f114.H0 s0 s1 s2)
theorem f114.s0_eq {R : Type} (L N : Nat) (κ : KX R) (rec : KT R) (s0 : LM) (s1 : LM) (s2 : Int) :
    evRd (E114 L N) (evCallI (E114 L N) 1 2000) 1000 114 26 0 f114.c0 κ rec (f114.T0 s0 s1 s2) (f114.H0 s0 s1 s2)
    = f114.s0 L N (f114.X0_e0 κ) (f114.X0_r κ) (f114.R0 rec) s0 s1 s2 := by kernel_rfl
theorem f114.l0_eq {R : Type} (L N : Nat) (κ : KX R) : ∀ (n : Nat) (s0 : LM) (s1 : LM) (s2 : Int),
    evLp (E114 L N) (evCallI (E114 L N) 1 2000) 1000 114 26 0 f114.c0 κ n (f114.T0 s0 s1 s2) (f114.H0 s0 s1 s2)
    = f114.l0 L N (f114.X0_e0 κ) (f114.X0_r κ) n s0 s1 s2 := by
  intro n
  induction n with
  | zero => intros; rfl
  | succ n ih =>
    intro s0 s1 s2
    rw [evLp_succ, f114.s0_eq]
    delta f114.R0
    simp only [ih]
    rfl
theorem f114.p0_e0_eq {R : Type} (L N : Nat) (κ : AV → Option R) :
    (contAt (E114 L N) (evCallI (E114 L N) 1 2000) 1000 114 26 0 (codeOf Try.f114) (finK (E114 L N) 1000 Try.f114 (finC (.one .bool) κ))) (.exit 0) f114.T0_e0 f114.H0_e0
    = f114.p0_e0 L N (fun a0 => κ (.tv .bool a0)) := by kernel_rfl
theorem f114.p0_r_eq {R : Type} (L N : Nat) (κ : AV → Option R) (z3 : Bool) :
    (contAt (E114 L N) (evCallI (E114 L N) 1 2000) 1000 114 26 0 (codeOf Try.f114) (finK (E114 L N) 1000 Try.f114 (finC (.one .bool) κ))) .ret (f114.T0_r z3) (f114.H0_r z3)
    = f114.p0_r L N (fun a0 => κ (.tv .bool a0)) z3 := by kernel_rfl
theorem f114.b_eq {R : Type} (L N : Nat) (κ : AV → Option R) (x0 : LM) (x1 : LM) :
    evBody (E114 L N) (evCallI (E114 L N) 1 2000) 1000 114 Try.f114 [(.tv (.sl (.st 0)) x0), (.tv (.sl (.st 0)) x1)] [] [] (finC (.one .bool) κ)
    = f114.b L N (fun a0 => κ (.tv .bool a0)) x0 x1 := by
  refine Eq.trans (b := f114.b' L N (fun a0 => κ (.tv .bool a0)) (fun s0 s1 s2 => evLp (E114 L N) (evCallI (E114 L N) 1 2000) 1000 114 26 0 f114.c0 (contAt (E114 L N) (evCallI (E114 L N) 1 2000) 1000 114 26 0 (codeOf Try.f114) (finK (E114 L N) 1000 Try.f114 (finC (.one .bool) κ))) L (f114.T0 s0 s1 s2) (f114.H0 s0 s1 s2)) x0 x1) (by kernel_rfl) ?_
  unfold f114.b
  simp only [f114.l0_eq]
  delta f114.X0_e0 f114.X0_r
  simp only [f114.p0_e0_eq, f114.p0_r_eq]
theorem f114.ok (L N : Nat) (hΦ : TellsOk Try.prog ((Φ58 L N))) : EntOk Try.prog 114 (f114.ent L N) := entRo_ok (E := (E114 L N)) (dep := 1000) (f := Try.f114) (sound_of hΦ) okP (callI_sound (sound_of hΦ) okP 1 2000) rfl rfl fun d _ hy => (f114.b_eq L N (unR (.one .bool)) d.1 d.2.1).trans (Eq.trans (b := f114.b L N some d.1 d.2.1) (by kernel_rfl) hy)
def Φ114 (L N : Nat) : Tells := (addT (Φ58 L N) 114 (f114.ent L N))
theorem Φ114_ok (L N : Nat) : TellsOk Try.prog (Φ114 L N) := addT_ok (Φ58_ok L N) (f114.ok L N (Φ58_ok L N))
def f123.s1' {R : Type} (L N : Nat) (k1_e2 : LM → Int → Int → LM → Option R) (rec1 : LM → Int → Int → LM → Option R) (s4 : LM) (s5 : Int) (s6 : Int) (s7 : LM) : Option R :=
  bif (decide (s6 > (0 : Int))) then
    bif (decide (0 ≤ s5) && decide (s5 < (s4.length : Int))) then
      bif (decide (0 ≤ (wi (s6 - (1 : Int)))) && decide ((wi (s6 - (1 : Int))) < (s7.length : Int))) then
        (f98 L N (listAt s4 (Ty.dflt (.st 0)) s5.toNat) (listAt s7 (Ty.dflt (.st 0)) (wi (s6 - (1 : Int))).toNat)).bind fun y8 =>
        bif y8 then
          rec1 s4 s5 (wi (s6 - (1 : Int))) s7
        else k1_e2 s4 s5 s6 s7
      else none
    else none
  else k1_e2 s4 s5 s6 s7
def f123.s1 {R : Type} (L N : Nat) (k1_e2 : LM → Int → Int → LM → Option R) (rec1 : LM → Int → Int → LM → Option R) (s4 : LM) (s5 : Int) (s6 : Int) (s7 : LM) : Option R :=
  f123.s1' L N k1_e2 rec1 s4 s5 s6 s7
def f123.l1 {R : Type} (L N : Nat) (k1_e2 : LM → Int → Int → LM → Option R) : Nat → LM → Int → Int → LM → Option R
  | 0, _, _, _, _ => none
  | n + 1, s4, s5, s6, s7 => f123.s1 L N k1_e2 (f123.l1 L N k1_e2 n) s4 s5 s6 s7
def f123.T1 (s4 : LM) (s5 : Int) (s6 : Int) (s7 : LM) : T := mkT 74 [(0, (.tv (.sl (.st 0)) s4)), (3, (.row 1007)), (4, (.tv i64 s5)), (5, (.tv i64 s6))]
def f123.H1 (s4 : LM) (s5 : Int) (s6 : Int) (s7 : LM) : H := [(1007, (.row 53 (.st 0) s7))]
def f123.T1_e2 (z14 : LM) (z15 : Int) (z16 : Int) (z17 : LM) : T := mkT 74 [(0, (.tv (.sl (.st 0)) z14)), (3, (.row 1007)), (4, (.tv i64 z15)), (5, (.tv i64 z16))]
def f123.H1_e2 (z14 : LM) (z15 : Int) (z16 : Int) (z17 : LM) : H := [(1007, (.row 53 (.st 0) z17))]
def f123.s2' {R : Type} (L N : Nat) (k2_e4 : LM → Int → Int → LM → Option R) (rec2 : LM → Int → Int → Int → LM → Option R) (s31 : LM) (s32 : Int) (s33 : Int) (s34 : Int) (s35 : LM) : Option R :=
  bif (decide (s34 > s33)) then
    bif (decide (0 ≤ (wi (s34 - (1 : Int)))) && decide ((wi (s34 - (1 : Int))) < (s35.length : Int))) then
      bif (decide (0 ≤ s34) && decide (s34 < (s35.length : Int))) then
        rec2 s31 s32 s33 (wi (s34 - (1 : Int))) (s35.set s34.toNat (listAt s35 (Ty.dflt (.st 0)) (wi (s34 - (1 : Int))).toNat))
      else none
    else none
  else k2_e4 s31 s32 s33 s35
def f123.s2 {R : Type} (L N : Nat) (k2_e4 : LM → Int → Int → LM → Option R) (rec2 : LM → Int → Int → Int → LM → Option R) (s31 : LM) (s32 : Int) (s33 : Int) (s34 : Int) (s35 : LM) : Option R :=
  f123.s2' L N k2_e4 rec2 s31 s32 s33 s34 s35
def f123.l2 {R : Type} (L N : Nat) (k2_e4 : LM → Int → Int → LM → Option R) : Nat → LM → Int → Int → Int → LM → Option R
  | 0, _, _, _, _, _ => none
  | n + 1, s31, s32, s33, s34, s35 => f123.s2 L N k2_e4 (f123.l2 L N k2_e4 n) s31 s32 s33 s34 s35
def f123.T2 (s31 : LM) (s32 : Int) (s33 : Int) (s34 : Int) (s35 : LM) : T := mkT 74 [(0, (.tv (.sl (.st 0)) s31)), (3, (.row 1007)), (4, (.tv i64 s32)), (5, (.tv i64 s33)), (6, (.tv i64 s34))]
def f123.H2 (s31 : LM) (s32 : Int) (s33 : Int) (s34 : Int) (s35 : LM) : H := [(1007, (.row 53 (.st 0) s35))]
def f123.T2_e4 (z36 : LM) (z37 : Int) (z38 : Int) (z39 : LM) : T := mkT 74 [(0, (.tv (.sl (.st 0)) z36)), (3, (.row 1007)), (4, (.tv i64 z37)), (5, (.tv i64 z38))]
def f123.H2_e4 (z36 : LM) (z37 : Int) (z38 : Int) (z39 : LM) : H := [(1007, (.row 53 (.st 0) z39))]
def f123.p2_e4' {R : Type} (L N : Nat) (k0_e0 : LM → Option R) (rec0 : LM → Int → LM → Option R) (z36 : LM) (z37 : Int) (z38 : Int) (z39 : LM) : Option R :=
  bif (decide (0 ≤ z37) && decide (z37 < (z36.length : Int))) then
    bif (decide (0 ≤ z38) && decide (z38 < (z39.length : Int))) then
      rec0 z36 (wi (z37 + (1 : Int))) (z39.set z38.toNat (listAt z36 (Ty.dflt (.st 0)) z37.toNat))
    else none
  else none
def f123.p2_e4 {R : Type} (L N : Nat) (k0_e0 : LM → Option R) (rec0 : LM → Int → LM → Option R) (z36 : LM) (z37 : Int) (z38 : Int) (z39 : LM) : Option R :=
  f123.p2_e4' L N k0_e0 rec0 z36 z37 z38 z39
def f123.j0' {R : Type} (L N : Nat) (k0_e0 : LM → Option R) (rec0 : LM → Int → LM → Option R) (w2 : LM → Int → Int → Int → LM → Option R) (v27 : LM) (v28 : Int) (v29 : Int) (v30 : LM) : Option R :=
  bif (decide (v30.length + ([(Move.mk (0 : Int) (0 : Int))] : LM).length ≤ lim)) then
    w2 v27 v28 v29 (wi (((v30 ++ ([(Move.mk (0 : Int) (0 : Int))] : LM)).length : Int) - (1 : Int))) (v30 ++ ([(Move.mk (0 : Int) (0 : Int))] : LM))
  else none
def f123.p1_e2' {R : Type} (L N : Nat) (k0_e0 : LM → Option R) (rec0 : LM → Int → LM → Option R) (w2 : LM → Int → Int → Int → LM → Option R) (z14 : LM) (z15 : Int) (z16 : Int) (z17 : LM) : Option R :=
  bif (decide (z16 > (0 : Int))) then
    bif (decide (0 ≤ (wi (z16 - (1 : Int)))) && decide ((wi (z16 - (1 : Int))) < (z17.length : Int))) then
      bif (decide (0 ≤ z15) && decide (z15 < (z14.length : Int))) then
        bif (Move.eqb (listAt z17 (Ty.dflt (.st 0)) (wi (z16 - (1 : Int))).toNat) (listAt z14 (Ty.dflt (.st 0)) z15.toNat)) then
          rec0 z14 (wi (z15 + (1 : Int))) z17
        else f123.j0' L N k0_e0 rec0 w2 z14 z15 z16 z17
      else none
    else none
  else f123.j0' L N k0_e0 rec0 w2 z14 z15 z16 z17
def f123.p1_e2 {R : Type} (L N : Nat) (k0_e0 : LM → Option R) (rec0 : LM → Int → LM → Option R) (z14 : LM) (z15 : Int) (z16 : Int) (z17 : LM) : Option R :=
  f123.p1_e2' L N k0_e0 rec0 (fun s31 s32 s33 s34 s35 => f123.l2 L N (fun z36 z37 z38 z39 => f123.p2_e4 L N k0_e0 rec0 z36 z37 z38 z39) L s31 s32 s33 s34 s35) z14 z15 z16 z17
def f123.s0' {R : Type} (L N : Nat) (k0_e0 : LM → Option R) (rec0 : LM → Int → LM → Option R) (w1 : LM → Int → Int → LM → Option R) (s0 : LM) (s1 : Int) (s2 : LM) : Option R :=
  bif (decide (s1 < (s0.length : Int))) then
    w1 s0 s1 (s2.length : Int) s2
  else k0_e0 s2
def f123.s0 {R : Type} (L N : Nat) (k0_e0 : LM → Option R) (rec0 : LM → Int → LM → Option R) (s0 : LM) (s1 : Int) (s2 : LM) : Option R :=
  f123.s0' L N k0_e0 rec0 (fun s4 s5 s6 s7 => f123.l1 L N (fun z14 z15 z16 z17 => f123.p1_e2 L N k0_e0 rec0 z14 z15 z16 z17) L s4 s5 s6 s7) s0 s1 s2
def f123.l0 {R : Type} (L N : Nat) (k0_e0 : LM → Option R) : Nat → LM → Int → LM → Option R
  | 0, _, _, _ => none
  | n + 1, s0, s1, s2 => f123.s0 L N k0_e0 (f123.l0 L N k0_e0 n) s0 s1 s2
def f123.T0 (s0 : LM) (s1 : Int) (s2 : LM) : T := mkT 74 [(0, (.tv (.sl (.st 0)) s0)), (3, (.row 1007)), (4, (.tv i64 s1))]
def f123.H0 (s0 : LM) (s1 : Int) (s2 : LM) : H := [(1007, (.row 53 (.st 0) s2))]
def f123.T0_e0 (z3 : LM) : T := mkT 74 [(3, (.row 1007))]
def f123.H0_e0 (z3 : LM) : H := [(1007, (.row 53 (.st 0) z3))]
def f123.p0_e0' {R : Type} (L N : Nat) (k : LM → Option R) (z3 : LM) : Option R :=
  k z3
def f123.p0_e0 {R : Type} (L N : Nat) (k : LM → Option R) (z3 : LM) : Option R :=
  f123.p0_e0' L N k z3
def f123.b' {R : Type} (L N : Nat) (k : LM → Option R) (w0 : LM → Int → LM → Option R) (x0 : LM) : Option R :=
  w0 x0 (0 : Int) ([] : LM)
def f123.b {R : Type} (L N : Nat) (k : LM → Option R) (x0 : LM) : Option R :=
  f123.b' L N k (fun s0 s1 s2 => f123.l0 L N (fun z3 => f123.p0_e0 L N k z3) L s0 s1 s2) x0
def f123 (L N : Nat) (x0 : LM) : Option (LM) := f123.b L N some x0
def f123.ent (L N : Nat) (args : List AV) (vw : View) (site : Nat) : Ans := match roD [(.sl (.st 0))] vw args with
  | some d => ⟨LM, f123 L N d.1, fun y => (RN.av site .row (), [(site, some (mkO none 53 (.st 0) y))], [])⟩
  | none => Ans.no
noncomputable def E123 (L N : Nat) : Env := { P := Try.prog, ty := tyOf, Φ := (Φ114 L N), inl := inlT, live := lives, liveX := livesX, L := L, dp := none, prom := promT, heal := healT, ren := renT }
noncomputable def f123.c0 : Code := loopAt 0 (codeOf Try.f123)
noncomputable def f123.c1 : Code := loopAt 2 f123.c0
def f123.X1_e2 {R : Type} (κ : KX R) := fun z14 z15 z16 z17 => κ (.exit 2) (f123.T1_e2 z14 z15 z16 z17) (f123.H1_e2 z14 z15 z16 z17)
def f123.R1 {R : Type} (rec : KT R) := fun s4 s5 s6 s7 => rec (f123.T1 s4 s5 s6 s7) (f123.H1 s4 s5 s6 s7)
theorem f123.s1_eq {R : Type} (L N : Nat) (κ : KX R) (rec : KT R) (s4 : LM) (s5 : Int) (s6 : Int) (s7 : LM) :
    evRd (E123 L N) (evCallI (E123 L N) 1 2000) 1000 123 74 2 f123.c1 κ rec (f123.T1 s4 s5 s6 s7) (f123.H1 s4 s5 s6 s7)
    = f123.s1 L N (f123.X1_e2 κ) (f123.R1 rec) s4 s5 s6 s7 := by kernel_rfl
theorem f123.l1_eq {R : Type} (L N : Nat) (κ : KX R) : ∀ (n : Nat) (s4 : LM) (s5 : Int) (s6 : Int) (s7 : LM),
    evLp (E123 L N) (evCallI (E123 L N) 1 2000) 1000 123 74 2 f123.c1 κ n (f123.T1 s4 s5 s6 s7) (f123.H1 s4 s5 s6 s7)
    = f123.l1 L N (f123.X1_e2 κ) n s4 s5 s6 s7 := by
  intro n
  induction n with
  | zero => intros; rfl
  | succ n ih =>
    intro s4 s5 s6 s7
    rw [evLp_succ, f123.s1_eq]
    delta f123.R1
    simp only [ih]
    rfl
noncomputable def f123.c2 : Code := loopAt 4 f123.c0
def f123.X2_e4 {R : Type} (κ : KX R) := fun z36 z37 z38 z39 => κ (.exit 4) (f123.T2_e4 z36 z37 z38 z39) (f123.H2_e4 z36 z37 z38 z39)
def f123.R2 {R : Type} (rec : KT R) := fun s31 s32 s33 s34 s35 => rec (f123.T2 s31 s32 s33 s34 s35) (f123.H2 s31 s32 s33 s34 s35)
theorem f123.s2_eq {R : Type} (L N : Nat) (κ : KX R) (rec : KT R) (s31 : LM) (s32 : Int) (s33 : Int) (s34 : Int) (s35 : LM) :
    evRd (E123 L N) (evCallI (E123 L N) 1 2000) 1000 123 74 4 f123.c2 κ rec (f123.T2 s31 s32 s33 s34 s35) (f123.H2 s31 s32 s33 s34 s35)
    = f123.s2 L N (f123.X2_e4 κ) (f123.R2 rec) s31 s32 s33 s34 s35 := by kernel_rfl
theorem f123.l2_eq {R : Type} (L N : Nat) (κ : KX R) : ∀ (n : Nat) (s31 : LM) (s32 : Int) (s33 : Int) (s34 : Int) (s35 : LM),
    evLp (E123 L N) (evCallI (E123 L N) 1 2000) 1000 123 74 4 f123.c2 κ n (f123.T2 s31 s32 s33 s34 s35) (f123.H2 s31 s32 s33 s34 s35)
    = f123.l2 L N (f123.X2_e4 κ) n s31 s32 s33 s34 s35 := by
  intro n
  induction n with
  | zero => intros; rfl
  | succ n ih =>
    intro s31 s32 s33 s34 s35
    rw [evLp_succ, f123.s2_eq]
    delta f123.R2
    simp only [ih]
    rfl
def f123.X0_e0 {R : Type} (κ : KX R) := fun z3 => κ (.exit 0) (f123.T0_e0 z3) (f123.H0_e0 z3)
def f123.R0 {R : Type} (rec : KT R) := fun s0 s1 s2 => rec (f123.T0 s0 s1 s2) (f123.H0 s0 s1 s2)
theorem f123.p2_e4_eq {R : Type} (L N : Nat) (κ : KX R) (rec : KT R) (z36 : LM) (z37 : Int) (z38 : Int) (z39 : LM) :
    (contAt (E123 L N) (evCallI (E123 L N) 1 2000) 1000 123 74 4 f123.c0 (rdK (E123 L N) 1000 123 74 0 κ rec)) (.exit 4) (f123.T2_e4 z36 z37 z38 z39) (f123.H2_e4 z36 z37 z38 z39)
    = f123.p2_e4 L N (f123.X0_e0 κ) (f123.R0 rec) z36 z37 z38 z39 := by kernel_rfl
theorem f123.p1_e2_eq {R : Type} (L N : Nat) (κ : KX R) (rec : KT R) (z14 : LM) (z15 : Int) (z16 : Int) (z17 : LM) :
    (contAt (E123 L N) (evCallI (E123 L N) 1 2000) 1000 123 74 2 f123.c0 (rdK (E123 L N) 1000 123 74 0 κ rec)) (.exit 2) (f123.T1_e2 z14 z15 z16 z17) (f123.H1_e2 z14 z15 z16 z17)
    = f123.p1_e2 L N (f123.X0_e0 κ) (f123.R0 rec) z14 z15 z16 z17 := by
  refine Eq.trans (b := f123.p1_e2' L N (f123.X0_e0 κ) (f123.R0 rec) (fun s31 s32 s33 s34 s35 => evLp (E123 L N) (evCallI (E123 L N) 1 2000) 1000 123 74 4 f123.c2 (contAt (E123 L N) (evCallI (E123 L N) 1 2000) 1000 123 74 4 f123.c0 (rdK (E123 L N) 1000 123 74 0 κ rec)) L (f123.T2 s31 s32 s33 s34 s35) (f123.H2 s31 s32 s33 s34 s35)) z14 z15 z16 z17) (by kernel_rfl) ?_
  unfold f123.p1_e2
  simp only [f123.l2_eq]
  delta f123.X2_e4
  simp only [f123.p2_e4_eq]
theorem f123.s0_eq {R : Type} (L N : Nat) (κ : KX R) (rec : KT R) (s0 : LM) (s1 : Int) (s2 : LM) :
    evRd (E123 L N) (evCallI (E123 L N) 1 2000) 1000 123 74 0 f123.c0 κ rec (f123.T0 s0 s1 s2) (f123.H0 s0 s1 s2)
    = f123.s0 L N (f123.X0_e0 κ) (f123.R0 rec) s0 s1 s2 := by
  refine Eq.trans (b := f123.s0' L N (f123.X0_e0 κ) (f123.R0 rec) (fun s4 s5 s6 s7 => evLp (E123 L N) (evCallI (E123 L N) 1 2000) 1000 123 74 2 f123.c1 (contAt (E123 L N) (evCallI (E123 L N) 1 2000) 1000 123 74 2 f123.c0 (rdK (E123 L N) 1000 123 74 0 κ rec)) L (f123.T1 s4 s5 s6 s7) (f123.H1 s4 s5 s6 s7)) s0 s1 s2) (by kernel_rfl) ?_
  unfold f123.s0
  simp only [f123.l1_eq]
  delta f123.X1_e2
  simp only [f123.p1_e2_eq]
theorem f123.l0_eq {R : Type} (L N : Nat) (κ : KX R) : ∀ (n : Nat) (s0 : LM) (s1 : Int) (s2 : LM),
    evLp (E123 L N) (evCallI (E123 L N) 1 2000) 1000 123 74 0 f123.c0 κ n (f123.T0 s0 s1 s2) (f123.H0 s0 s1 s2)
    = f123.l0 L N (f123.X0_e0 κ) n s0 s1 s2 := by
  intro n
  induction n with
  | zero => intros; rfl
  | succ n ih =>
    intro s0 s1 s2
    rw [evLp_succ, f123.s0_eq]
    delta f123.R0
    simp only [ih]
    rfl
theorem f123.p0_e0_eq {R : Type} (L N : Nat) (κ : RN.Den .row → List Move → Option R) (z3 : LM) :
    (contAt (E123 L N) (evCallI (E123 L N) 1 2000) 1000 123 74 0 (codeOf Try.f123) (finK (E123 L N) 1000 Try.f123 (finN .row none 53 (.st 0) κ))) (.exit 0) (f123.T0_e0 z3) (f123.H0_e0 z3)
    = f123.p0_e0 L N (fun a0 => κ () a0) z3 := by kernel_rfl
theorem f123.b_eq {R : Type} (L N : Nat) (κ : RN.Den .row → List Move → Option R) (x0 : LM) :
    evBody (E123 L N) (evCallI (E123 L N) 1 2000) 1000 123 Try.f123 [(.tv (.sl (.st 0)) x0)] [] [] (finN .row none 53 (.st 0) κ)
    = f123.b L N (fun a0 => κ () a0) x0 := by
  refine Eq.trans (b := f123.b' L N (fun a0 => κ () a0) (fun s0 s1 s2 => evLp (E123 L N) (evCallI (E123 L N) 1 2000) 1000 123 74 0 f123.c0 (contAt (E123 L N) (evCallI (E123 L N) 1 2000) 1000 123 74 0 (codeOf Try.f123) (finK (E123 L N) 1000 Try.f123 (finN .row none 53 (.st 0) κ))) L (f123.T0 s0 s1 s2) (f123.H0 s0 s1 s2)) x0) (by kernel_rfl) ?_
  unfold f123.b
  simp only [f123.l0_eq]
  delta f123.X0_e0
  simp only [f123.p0_e0_eq]
theorem f123.ok (L N : Nat) (hΦ : TellsOk Try.prog ((Φ114 L N))) : EntOk Try.prog 123 (f123.ent L N) := by
  intro args vw site h
  unfold f123.ent
  split
  · rename_i d ha
    intro y hy hs
    refine call_ron (y := y) (dep := 1000) (E := (E123 L N)) (ts := [(.sl (.st 0))]) (rn := .row) (q := none) (el := 53) (ty := (.st 0)) (d1 := ()) (xs := y) (κ := (fun d xs => some xs)) (sound_of hΦ) okP (callI_sound (sound_of hΦ) okP 1 2000) (f := Try.f123) rfl hs ha ?_ (fun _ _ h => by obtain rfl := Option.some.inj h; exact ⟨rfl, rfl⟩) rfl site
    exact (f123.b_eq L N (fun d xs => some xs) d.1).trans (Eq.trans (b := f123.b L N some d.1) (by kernel_rfl) hy)
  · intro y hy
    cases hy
def Φ123 (L N : Nat) : Tells := (addT (Φ114 L N) 123 (f123.ent L N))
theorem Φ123_ok (L N : Nat) : TellsOk Try.prog (Φ123 L N) := addT_ok (Φ114_ok L N) (f123.ok L N (Φ114_ok L N))
def f115.j0' {R : Type} (L N : Nat) (k1_e2 : Int → LI → Int → LLM → LI → LB → LM → Option R) (rec1 : Int → LI → Int → LM → Int → LLM → LI → LB → LM → Option R) (v48 : Int) (v49 : LI) (v50 : Int) (v51 : LM) (v52 : Int) (v53 : Bool) (v54 : LLM) (v55 : Int) (v56 : Int) (v57 : LI) (v58 : LB) (v59 : LM) : Option R :=
  bif v53 then
    bif (decide (0 ≤ v56) && decide (v56 < (v58.length : Int))) then
      bif (decide (v57.length + ([v56] : LI).length ≤ lim)) then
        rec1 v48 v49 v50 v51 (wi (v52 + (1 : Int))) v54 (v57 ++ ([v56] : LI)) (v58.set v56.toNat true) v59
      else none
    else none
  else rec1 v48 v49 v50 v51 (wi (v52 + (1 : Int))) v54 v57 v58 v59
def f115.j1' {R : Type} (L N : Nat) (k1_e2 : Int → LI → Int → LLM → LI → LB → LM → Option R) (rec1 : Int → LI → Int → LM → Int → LLM → LI → LB → LM → Option R) (v36 : Int) (v37 : LI) (v38 : Int) (v39 : LM) (v40 : Int) (v41 : Bool) (v42 : LLM) (v43 : Int) (v44 : Int) (v45 : LI) (v46 : LB) (v47 : LM) : Option R :=
  bif v41 then
    bif (decide (0 ≤ v44) && decide (v44 < (v46.length : Int))) then
      f115.j0' L N k1_e2 rec1 v36 v37 v38 v39 v40 (!(listAt v46 false v44.toNat)) v42 v43 v44 v45 v46 v47
    else none
  else f115.j0' L N k1_e2 rec1 v36 v37 v38 v39 v40 false v42 v43 v44 v45 v46 v47
def f115.j2' {R : Type} (L N : Nat) (k1_e2 : Int → LI → Int → LLM → LI → LB → LM → Option R) (rec1 : Int → LI → Int → LM → Int → LLM → LI → LB → LM → Option R) (v24 : Int) (v25 : LI) (v26 : Int) (v27 : LM) (v28 : Int) (v29 : Bool) (v30 : LLM) (v31 : Int) (v32 : Int) (v33 : LI) (v34 : LB) (v35 : LM) : Option R :=
  bif (!v29) then
    bif (decide (0 ≤ v32) && decide (v32 < (v25.length : Int))) then
      bif (decide (v35.length + ([(Move.mk v31 (listAt v25 (0 : Int) v32.toNat))] : LM).length ≤ lim)) then
        f115.j1' L N k1_e2 rec1 v24 v25 v26 v27 v28 v29 v30 v31 v32 v33 v34 (v35 ++ ([(Move.mk v31 (listAt v25 (0 : Int) v32.toNat))] : LM))
      else none
    else none
  else f115.j1' L N k1_e2 rec1 v24 v25 v26 v27 v28 v29 v30 v31 v32 v33 v34 v35
def f115.s1' {R : Type} (L N : Nat) (k1_e2 : Int → LI → Int → LLM → LI → LB → LM → Option R) (rec1 : Int → LI → Int → LM → Int → LLM → LI → LB → LM → Option R) (s8 : Int) (s9 : LI) (s10 : Int) (s11 : LM) (s12 : Int) (s13 : LLM) (s14 : LI) (s15 : LB) (s16 : LM) : Option R :=
  bif (decide (s12 < (s11.length : Int))) then
    bif (decide (0 ≤ s12) && decide (s12 < (s11.length : Int))) then
      bif ((listAt s11 (Ty.dflt (.st 0)) s12.toNat).act == (0 : Int)) then
        bif (decide (0 ≤ (listAt s11 (Ty.dflt (.st 0)) s12.toNat).to) && decide ((listAt s11 (Ty.dflt (.st 0)) s12.toNat).to < (s9.length : Int))) then
          bif (decide (0 ≤ s8) && decide (s8 < (s9.length : Int))) then
            f115.j2' L N k1_e2 rec1 s8 s9 s10 s11 s12 ((listAt s9 (0 : Int) ((listAt s11 (Ty.dflt (.st 0)) s12.toNat).to).toNat) == (listAt s9 (0 : Int) s8.toNat)) s13 ((listAt s11 (Ty.dflt (.st 0)) s12.toNat).act) ((listAt s11 (Ty.dflt (.st 0)) s12.toNat).to) s14 s15 s16
          else none
        else none
      else f115.j2' L N k1_e2 rec1 s8 s9 s10 s11 s12 false s13 ((listAt s11 (Ty.dflt (.st 0)) s12.toNat).act) ((listAt s11 (Ty.dflt (.st 0)) s12.toNat).to) s14 s15 s16
    else none
  else k1_e2 s8 s9 s10 s13 s14 s15 s16
def f115.s1 {R : Type} (L N : Nat) (k1_e2 : Int → LI → Int → LLM → LI → LB → LM → Option R) (rec1 : Int → LI → Int → LM → Int → LLM → LI → LB → LM → Option R) (s8 : Int) (s9 : LI) (s10 : Int) (s11 : LM) (s12 : Int) (s13 : LLM) (s14 : LI) (s15 : LB) (s16 : LM) : Option R :=
  f115.s1' L N k1_e2 rec1 s8 s9 s10 s11 s12 s13 s14 s15 s16
def f115.l1 {R : Type} (L N : Nat) (k1_e2 : Int → LI → Int → LLM → LI → LB → LM → Option R) : Nat → Int → LI → Int → LM → Int → LLM → LI → LB → LM → Option R
  | 0, _, _, _, _, _, _, _, _, _ => none
  | n + 1, s8, s9, s10, s11, s12, s13, s14, s15, s16 => f115.s1 L N k1_e2 (f115.l1 L N k1_e2 n) s8 s9 s10 s11 s12 s13 s14 s15 s16
def f115.T1 (s8 : Int) (s9 : LI) (s10 : Int) (s11 : LM) (s12 : Int) (s13 : LLM) (s14 : LI) (s15 : LB) (s16 : LM) : T := mkT 96 [(1, (.tv i64 s8)), (2, (.tv (.sl i64) s9)), (3, (.ptr 1003 0)), (7, (.row 1016)), (8, (.row 1019)), (9, (.row 1023)), (10, (.tv i64 s10)), (11, (.tv (.sl (.st 0)) s11)), (12, (.tv i64 s12))]
def f115.H1 (s8 : Int) (s9 : LI) (s10 : Int) (s11 : LM) (s12 : Int) (s13 : LLM) (s14 : LI) (s15 : LB) (s16 : LM) : H := [(1003, (.box [(.tv (.sl (.sl (.st 0))) s13)])), (1016, (.row 3 i64 s14)), (1019, (.row 4 .bool s15)), (1023, (.row 53 (.st 0) s16))]
def f115.T1_e2 (z17 : Int) (z18 : LI) (z19 : Int) (z20 : LLM) (z21 : LI) (z22 : LB) (z23 : LM) : T := mkT 96 [(1, (.tv i64 z17)), (2, (.tv (.sl i64) z18)), (3, (.ptr 1003 0)), (7, (.row 1016)), (8, (.row 1019)), (9, (.row 1023)), (10, (.tv i64 z19))]
def f115.H1_e2 (z17 : Int) (z18 : LI) (z19 : Int) (z20 : LLM) (z21 : LI) (z22 : LB) (z23 : LM) : H := [(1003, (.box [(.tv (.sl (.sl (.st 0))) z20)])), (1016, (.row 3 i64 z21)), (1019, (.row 4 .bool z22)), (1023, (.row 53 (.st 0) z23))]
def f115.p1_e2' {R : Type} (L N : Nat) (k0_e0 : LM → Option R) (rec0 : Int → LI → Int → LLM → LI → LB → LM → Option R) (z17 : Int) (z18 : LI) (z19 : Int) (z20 : LLM) (z21 : LI) (z22 : LB) (z23 : LM) : Option R :=
  rec0 z17 z18 (wi (z19 + (1 : Int))) z20 z21 z22 z23
def f115.p1_e2 {R : Type} (L N : Nat) (k0_e0 : LM → Option R) (rec0 : Int → LI → Int → LLM → LI → LB → LM → Option R) (z17 : Int) (z18 : LI) (z19 : Int) (z20 : LLM) (z21 : LI) (z22 : LB) (z23 : LM) : Option R :=
  f115.p1_e2' L N k0_e0 rec0 z17 z18 z19 z20 z21 z22 z23
def f115.s0' {R : Type} (L N : Nat) (k0_e0 : LM → Option R) (rec0 : Int → LI → Int → LLM → LI → LB → LM → Option R) (w1 : Int → LI → Int → LM → Int → LLM → LI → LB → LM → Option R) (s0 : Int) (s1 : LI) (s2 : Int) (s3 : LLM) (s4 : LI) (s5 : LB) (s6 : LM) : Option R :=
  bif (decide (s2 < (s4.length : Int))) then
    bif (decide (0 ≤ s2) && decide (s2 < (s4.length : Int))) then
      bif (decide (0 ≤ (listAt s4 (0 : Int) s2.toNat)) && decide ((listAt s4 (0 : Int) s2.toNat) < (s3.length : Int))) then
        w1 s0 s1 s2 (listAt s3 [] (listAt s4 (0 : Int) s2.toNat).toNat) (0 : Int) s3 s4 s5 s6
      else none
    else none
  else k0_e0 s6
def f115.s0 {R : Type} (L N : Nat) (k0_e0 : LM → Option R) (rec0 : Int → LI → Int → LLM → LI → LB → LM → Option R) (s0 : Int) (s1 : LI) (s2 : Int) (s3 : LLM) (s4 : LI) (s5 : LB) (s6 : LM) : Option R :=
  f115.s0' L N k0_e0 rec0 (fun s8 s9 s10 s11 s12 s13 s14 s15 s16 => f115.l1 L N (fun z17 z18 z19 z20 z21 z22 z23 => f115.p1_e2 L N k0_e0 rec0 z17 z18 z19 z20 z21 z22 z23) L s8 s9 s10 s11 s12 s13 s14 s15 s16) s0 s1 s2 s3 s4 s5 s6
def f115.l0 {R : Type} (L N : Nat) (k0_e0 : LM → Option R) : Nat → Int → LI → Int → LLM → LI → LB → LM → Option R
  | 0, _, _, _, _, _, _, _ => none
  | n + 1, s0, s1, s2, s3, s4, s5, s6 => f115.s0 L N k0_e0 (f115.l0 L N k0_e0 n) s0 s1 s2 s3 s4 s5 s6
def f115.T0 (s0 : Int) (s1 : LI) (s2 : Int) (s3 : LLM) (s4 : LI) (s5 : LB) (s6 : LM) : T := mkT 96 [(1, (.tv i64 s0)), (2, (.tv (.sl i64) s1)), (3, (.ptr 1003 0)), (7, (.row 1016)), (8, (.row 1019)), (9, (.row 1023)), (10, (.tv i64 s2))]
def f115.H0 (s0 : Int) (s1 : LI) (s2 : Int) (s3 : LLM) (s4 : LI) (s5 : LB) (s6 : LM) : H := [(1003, (.box [(.tv (.sl (.sl (.st 0))) s3)])), (1016, (.row 3 i64 s4)), (1019, (.row 4 .bool s5)), (1023, (.row 53 (.st 0) s6))]
def f115.T0_e0 (z7 : LM) : T := mkT 96 [(9, (.row 1023))]
def f115.H0_e0 (z7 : LM) : H := [(1023, (.row 53 (.st 0) z7))]
def f115.p0_e0' {R : Type} (L N : Nat) (k : LM → Option R) (z7 : LM) : Option R :=
  (f123 L N z7).bind fun y69 =>
  k y69
def f115.p0_e0 {R : Type} (L N : Nat) (k : LM → Option R) (z7 : LM) : Option R :=
  f115.p0_e0' L N k z7
def f115.b' {R : Type} (L N : Nat) (k : LM → Option R) (w0 : Int → LI → Int → LLM → LI → LB → LM → Option R) (x0 : Graph) (x1 : Int) (x2 : LI) : Option R :=
  bif (decide (0 ≤ (x2.length : Int)) && decide ((x2.length : Int) ≤ (lim : Int))) then
    bif (decide (0 ≤ x1) && decide (x1 < ((List.replicate (x2.length : Int).toNat false).length : Int))) then
      w0 x1 x2 (0 : Int) x0.moves ([x1] : LI) ((List.replicate (x2.length : Int).toNat false).set x1.toNat true) ([] : LM)
    else none
  else none
def f115.b {R : Type} (L N : Nat) (k : LM → Option R) (x0 : Graph) (x1 : Int) (x2 : LI) : Option R :=
  f115.b' L N k (fun s0 s1 s2 s3 s4 s5 s6 => f115.l0 L N (fun z7 => f115.p0_e0 L N k z7) L s0 s1 s2 s3 s4 s5 s6) x0 x1 x2
def f115 (L N : Nat) (x0 : Graph) (x1 : Int) (x2 : LI) : Option (LM) := f115.b L N some x0 x1 x2
def f115.ent (L N : Nat) (args : List AV) (vw : View) (site : Nat) : Ans := match roD [(.st 2), i64, (.sl i64)] vw args with
  | some d => ⟨LM, f115 L N d.1 d.2.1 d.2.2.1, fun y => (RN.av site .row (), [(site, some (mkO none 53 (.st 0) y))], [])⟩
  | none => Ans.no
noncomputable def E115 (L N : Nat) : Env := { P := Try.prog, ty := tyOf, Φ := (Φ123 L N), inl := inlT, live := lives, liveX := livesX, L := L, dp := none, prom := promT, heal := healT, ren := renT }
noncomputable def f115.c0 : Code := loopAt 0 (codeOf Try.f115)
noncomputable def f115.c1 : Code := loopAt 2 f115.c0
def f115.X1_e2 {R : Type} (κ : KX R) := fun z17 z18 z19 z20 z21 z22 z23 => κ (.exit 2) (f115.T1_e2 z17 z18 z19 z20 z21 z22 z23) (f115.H1_e2 z17 z18 z19 z20 z21 z22 z23)
def f115.R1 {R : Type} (rec : KT R) := fun s8 s9 s10 s11 s12 s13 s14 s15 s16 => rec (f115.T1 s8 s9 s10 s11 s12 s13 s14 s15 s16) (f115.H1 s8 s9 s10 s11 s12 s13 s14 s15 s16)
theorem f115.s1_eq {R : Type} (L N : Nat) (κ : KX R) (rec : KT R) (s8 : Int) (s9 : LI) (s10 : Int) (s11 : LM) (s12 : Int) (s13 : LLM) (s14 : LI) (s15 : LB) (s16 : LM) :
    evRd (E115 L N) (evCallI (E115 L N) 1 2000) 1000 115 96 2 f115.c1 κ rec (f115.T1 s8 s9 s10 s11 s12 s13 s14 s15 s16) (f115.H1 s8 s9 s10 s11 s12 s13 s14 s15 s16)
    = f115.s1 L N (f115.X1_e2 κ) (f115.R1 rec) s8 s9 s10 s11 s12 s13 s14 s15 s16 := by kernel_rfl
theorem f115.l1_eq {R : Type} (L N : Nat) (κ : KX R) : ∀ (n : Nat) (s8 : Int) (s9 : LI) (s10 : Int) (s11 : LM) (s12 : Int) (s13 : LLM) (s14 : LI) (s15 : LB) (s16 : LM),
    evLp (E115 L N) (evCallI (E115 L N) 1 2000) 1000 115 96 2 f115.c1 κ n (f115.T1 s8 s9 s10 s11 s12 s13 s14 s15 s16) (f115.H1 s8 s9 s10 s11 s12 s13 s14 s15 s16)
    = f115.l1 L N (f115.X1_e2 κ) n s8 s9 s10 s11 s12 s13 s14 s15 s16 := by
  intro n
  induction n with
  | zero => intros; rfl
  | succ n ih =>
    intro s8 s9 s10 s11 s12 s13 s14 s15 s16
    rw [evLp_succ, f115.s1_eq]
    delta f115.R1
    simp only [ih]
    rfl
def f115.X0_e0 {R : Type} (κ : KX R) := fun z7 => κ (.exit 0) (f115.T0_e0 z7) (f115.H0_e0 z7)
def f115.R0 {R : Type} (rec : KT R) := fun s0 s1 s2 s3 s4 s5 s6 => rec (f115.T0 s0 s1 s2 s3 s4 s5 s6) (f115.H0 s0 s1 s2 s3 s4 s5 s6)
theorem f115.p1_e2_eq {R : Type} (L N : Nat) (κ : KX R) (rec : KT R) (z17 : Int) (z18 : LI) (z19 : Int) (z20 : LLM) (z21 : LI) (z22 : LB) (z23 : LM) :
    (contAt (E115 L N) (evCallI (E115 L N) 1 2000) 1000 115 96 2 f115.c0 (rdK (E115 L N) 1000 115 96 0 κ rec)) (.exit 2) (f115.T1_e2 z17 z18 z19 z20 z21 z22 z23) (f115.H1_e2 z17 z18 z19 z20 z21 z22 z23)
    = f115.p1_e2 L N (f115.X0_e0 κ) (f115.R0 rec) z17 z18 z19 z20 z21 z22 z23 := by kernel_rfl
theorem f115.s0_eq {R : Type} (L N : Nat) (κ : KX R) (rec : KT R) (s0 : Int) (s1 : LI) (s2 : Int) (s3 : LLM) (s4 : LI) (s5 : LB) (s6 : LM) :
    evRd (E115 L N) (evCallI (E115 L N) 1 2000) 1000 115 96 0 f115.c0 κ rec (f115.T0 s0 s1 s2 s3 s4 s5 s6) (f115.H0 s0 s1 s2 s3 s4 s5 s6)
    = f115.s0 L N (f115.X0_e0 κ) (f115.R0 rec) s0 s1 s2 s3 s4 s5 s6 := by
  refine Eq.trans (b := f115.s0' L N (f115.X0_e0 κ) (f115.R0 rec) (fun s8 s9 s10 s11 s12 s13 s14 s15 s16 => evLp (E115 L N) (evCallI (E115 L N) 1 2000) 1000 115 96 2 f115.c1 (contAt (E115 L N) (evCallI (E115 L N) 1 2000) 1000 115 96 2 f115.c0 (rdK (E115 L N) 1000 115 96 0 κ rec)) L (f115.T1 s8 s9 s10 s11 s12 s13 s14 s15 s16) (f115.H1 s8 s9 s10 s11 s12 s13 s14 s15 s16)) s0 s1 s2 s3 s4 s5 s6) (by kernel_rfl) ?_
  unfold f115.s0
  simp only [f115.l1_eq]
  delta f115.X1_e2
  simp only [f115.p1_e2_eq]
theorem f115.l0_eq {R : Type} (L N : Nat) (κ : KX R) : ∀ (n : Nat) (s0 : Int) (s1 : LI) (s2 : Int) (s3 : LLM) (s4 : LI) (s5 : LB) (s6 : LM),
    evLp (E115 L N) (evCallI (E115 L N) 1 2000) 1000 115 96 0 f115.c0 κ n (f115.T0 s0 s1 s2 s3 s4 s5 s6) (f115.H0 s0 s1 s2 s3 s4 s5 s6)
    = f115.l0 L N (f115.X0_e0 κ) n s0 s1 s2 s3 s4 s5 s6 := by
  intro n
  induction n with
  | zero => intros; rfl
  | succ n ih =>
    intro s0 s1 s2 s3 s4 s5 s6
    rw [evLp_succ, f115.s0_eq]
    delta f115.R0
    simp only [ih]
    rfl
theorem f115.p0_e0_eq {R : Type} (L N : Nat) (κ : RN.Den .row → List Move → Option R) (z7 : LM) :
    (contAt (E115 L N) (evCallI (E115 L N) 1 2000) 1000 115 96 0 (codeOf Try.f115) (finK (E115 L N) 1000 Try.f115 (finN .row none 53 (.st 0) κ))) (.exit 0) (f115.T0_e0 z7) (f115.H0_e0 z7)
    = f115.p0_e0 L N (fun a0 => κ () a0) z7 := by kernel_rfl
theorem f115.b_eq {R : Type} (L N : Nat) (κ : RN.Den .row → List Move → Option R) (x0 : Graph) (x1 : Int) (x2 : LI) :
    evBody (E115 L N) (evCallI (E115 L N) 1 2000) 1000 115 Try.f115 [(.tv (.st 2) x0), (.tv i64 x1), (.tv (.sl i64) x2)] [] [] (finN .row none 53 (.st 0) κ)
    = f115.b L N (fun a0 => κ () a0) x0 x1 x2 := by
  refine Eq.trans (b := f115.b' L N (fun a0 => κ () a0) (fun s0 s1 s2 s3 s4 s5 s6 => evLp (E115 L N) (evCallI (E115 L N) 1 2000) 1000 115 96 0 f115.c0 (contAt (E115 L N) (evCallI (E115 L N) 1 2000) 1000 115 96 0 (codeOf Try.f115) (finK (E115 L N) 1000 Try.f115 (finN .row none 53 (.st 0) κ))) L (f115.T0 s0 s1 s2 s3 s4 s5 s6) (f115.H0 s0 s1 s2 s3 s4 s5 s6)) x0 x1 x2) (by kernel_rfl) ?_
  unfold f115.b
  simp only [f115.l0_eq]
  delta f115.X0_e0
  simp only [f115.p0_e0_eq]
theorem f115.ok (L N : Nat) (hΦ : TellsOk Try.prog ((Φ123 L N))) : EntOk Try.prog 115 (f115.ent L N) := by
  intro args vw site h
  unfold f115.ent
  split
  · rename_i d ha
    intro y hy hs
    refine call_ron (y := y) (dep := 1000) (E := (E115 L N)) (ts := [(.st 2), i64, (.sl i64)]) (rn := .row) (q := none) (el := 53) (ty := (.st 0)) (d1 := ()) (xs := y) (κ := (fun d xs => some xs)) (sound_of hΦ) okP (callI_sound (sound_of hΦ) okP 1 2000) (f := Try.f115) rfl hs ha ?_ (fun _ _ h => by obtain rfl := Option.some.inj h; exact ⟨rfl, rfl⟩) rfl site
    exact (f115.b_eq L N (fun d xs => some xs) d.1 d.2.1 d.2.2.1).trans (Eq.trans (b := f115.b L N some d.1 d.2.1 d.2.2.1) (by kernel_rfl) hy)
  · intro y hy
    cases hy
def Φ115 (L N : Nat) : Tells := (addT (Φ123 L N) 115 (f115.ent L N))
theorem Φ115_ok (L N : Nat) : TellsOk Try.prog (Φ115 L N) := addT_ok (Φ123_ok L N) (f115.ok L N (Φ123_ok L N))
def f116.s0' {R : Type} (L N : Nat) (k0_e0 : Option R) (k0_r : Bool → Option R) (rec0 : LI → LI → Int → Option R) (s0 : LI) (s1 : LI) (s2 : Int) : Option R :=
  bif (decide (s2 < (s0.length : Int))) then
    bif (decide (0 ≤ s2) && decide (s2 < (s0.length : Int))) then
      bif (decide (0 ≤ s2) && decide (s2 < (s1.length : Int))) then
        bif ((listAt s0 (0 : Int) s2.toNat) != (listAt s1 (0 : Int) s2.toNat)) then
          k0_r false
        else rec0 s0 s1 (wi (s2 + (1 : Int)))
      else none
    else none
  else k0_e0
def f116.s0 {R : Type} (L N : Nat) (k0_e0 : Option R) (k0_r : Bool → Option R) (rec0 : LI → LI → Int → Option R) (s0 : LI) (s1 : LI) (s2 : Int) : Option R :=
  f116.s0' L N k0_e0 k0_r rec0 s0 s1 s2
def f116.l0 {R : Type} (L N : Nat) (k0_e0 : Option R) (k0_r : Bool → Option R) : Nat → LI → LI → Int → Option R
  | 0, _, _, _ => none
  | n + 1, s0, s1, s2 => f116.s0 L N k0_e0 k0_r (f116.l0 L N k0_e0 k0_r n) s0 s1 s2
def f116.T0 (s0 : LI) (s1 : LI) (s2 : Int) : T := mkT 26 [(0, (.tv (.sl i64) s0)), (1, (.tv (.sl i64) s1)), (5, (.tv i64 s2))]
def f116.H0 (s0 : LI) (s1 : LI) (s2 : Int) : H := []
def f116.T0_e0 : T := mkT 26 []
def f116.H0_e0 : H := []
def f116.T0_r (z3 : Bool) : T := mkT 26 [(4, (.tv .bool z3))]
def f116.H0_r (z3 : Bool) : H := []
def f116.p0_e0' {R : Type} (L N : Nat) (k : Bool → Option R) : Option R :=
  k true
def f116.p0_e0 {R : Type} (L N : Nat) (k : Bool → Option R) : Option R :=
  f116.p0_e0' L N k
def f116.p0_r' {R : Type} (L N : Nat) (k : Bool → Option R) (z3 : Bool) : Option R :=
  k z3
def f116.p0_r {R : Type} (L N : Nat) (k : Bool → Option R) (z3 : Bool) : Option R :=
  f116.p0_r' L N k z3
def f116.b' {R : Type} (L N : Nat) (k : Bool → Option R) (w0 : LI → LI → Int → Option R) (x0 : LI) (x1 : LI) : Option R :=
  bif ((x0.length : Int) != (x1.length : Int)) then
    k false
  else w0 x0 x1 (0 : Int)
def f116.b {R : Type} (L N : Nat) (k : Bool → Option R) (x0 : LI) (x1 : LI) : Option R :=
  f116.b' L N k (fun s0 s1 s2 => f116.l0 L N (f116.p0_e0 L N k) (fun z3 => f116.p0_r L N k z3) L s0 s1 s2) x0 x1
def f116 (L N : Nat) (x0 : LI) (x1 : LI) : Option (Bool) := f116.b L N some x0 x1
def f116.ent (L N : Nat) := entRo [(.sl i64), (.sl i64)] (.one .bool) fun d => f116 L N d.1 d.2.1
noncomputable def E116 (L N : Nat) : Env := { P := Try.prog, ty := tyOf, Φ := (Φ115 L N), inl := inlT, live := lives, liveX := livesX, L := L, dp := none, prom := promT, heal := healT, ren := renT }
noncomputable def f116.c0 : Code := loopAt 0 (codeOf Try.f116)
def f116.X0_e0 {R : Type} (κ : KX R) := κ (.exit 0) f116.T0_e0 f116.H0_e0
def f116.X0_r {R : Type} (κ : KX R) := fun z3 => κ .ret (f116.T0_r z3) (f116.H0_r z3)
def f116.R0 {R : Type} (rec : KT R) := fun s0 s1 s2 => rec (f116.T0 s0 s1 s2) (f116.H0 s0 s1 s2)
theorem f116.s0_eq {R : Type} (L N : Nat) (κ : KX R) (rec : KT R) (s0 : LI) (s1 : LI) (s2 : Int) :
    evRd (E116 L N) (evCallI (E116 L N) 1 2000) 1000 116 26 0 f116.c0 κ rec (f116.T0 s0 s1 s2) (f116.H0 s0 s1 s2)
    = f116.s0 L N (f116.X0_e0 κ) (f116.X0_r κ) (f116.R0 rec) s0 s1 s2 := by kernel_rfl
theorem f116.l0_eq {R : Type} (L N : Nat) (κ : KX R) : ∀ (n : Nat) (s0 : LI) (s1 : LI) (s2 : Int),
    evLp (E116 L N) (evCallI (E116 L N) 1 2000) 1000 116 26 0 f116.c0 κ n (f116.T0 s0 s1 s2) (f116.H0 s0 s1 s2)
    = f116.l0 L N (f116.X0_e0 κ) (f116.X0_r κ) n s0 s1 s2 := by
  intro n
  induction n with
  | zero => intros; rfl
  | succ n ih =>
    intro s0 s1 s2
    rw [evLp_succ, f116.s0_eq]
    delta f116.R0
    simp only [ih]
    rfl
theorem f116.p0_e0_eq {R : Type} (L N : Nat) (κ : AV → Option R) :
    (contAt (E116 L N) (evCallI (E116 L N) 1 2000) 1000 116 26 0 (codeOf Try.f116) (finK (E116 L N) 1000 Try.f116 (finC (.one .bool) κ))) (.exit 0) f116.T0_e0 f116.H0_e0
    = f116.p0_e0 L N (fun a0 => κ (.tv .bool a0)) := by kernel_rfl
theorem f116.p0_r_eq {R : Type} (L N : Nat) (κ : AV → Option R) (z3 : Bool) :
    (contAt (E116 L N) (evCallI (E116 L N) 1 2000) 1000 116 26 0 (codeOf Try.f116) (finK (E116 L N) 1000 Try.f116 (finC (.one .bool) κ))) .ret (f116.T0_r z3) (f116.H0_r z3)
    = f116.p0_r L N (fun a0 => κ (.tv .bool a0)) z3 := by kernel_rfl
theorem f116.b_eq {R : Type} (L N : Nat) (κ : AV → Option R) (x0 : LI) (x1 : LI) :
    evBody (E116 L N) (evCallI (E116 L N) 1 2000) 1000 116 Try.f116 [(.tv (.sl i64) x0), (.tv (.sl i64) x1)] [] [] (finC (.one .bool) κ)
    = f116.b L N (fun a0 => κ (.tv .bool a0)) x0 x1 := by
  refine Eq.trans (b := f116.b' L N (fun a0 => κ (.tv .bool a0)) (fun s0 s1 s2 => evLp (E116 L N) (evCallI (E116 L N) 1 2000) 1000 116 26 0 f116.c0 (contAt (E116 L N) (evCallI (E116 L N) 1 2000) 1000 116 26 0 (codeOf Try.f116) (finK (E116 L N) 1000 Try.f116 (finC (.one .bool) κ))) L (f116.T0 s0 s1 s2) (f116.H0 s0 s1 s2)) x0 x1) (by kernel_rfl) ?_
  unfold f116.b
  simp only [f116.l0_eq]
  delta f116.X0_e0 f116.X0_r
  simp only [f116.p0_e0_eq, f116.p0_r_eq]
theorem f116.ok (L N : Nat) (hΦ : TellsOk Try.prog ((Φ115 L N))) : EntOk Try.prog 116 (f116.ent L N) := entRo_ok (E := (E116 L N)) (dep := 1000) (f := Try.f116) (sound_of hΦ) okP (callI_sound (sound_of hΦ) okP 1 2000) rfl rfl fun d _ hy => (f116.b_eq L N (unR (.one .bool)) d.1 d.2.1).trans (Eq.trans (b := f116.b L N some d.1 d.2.1) (by kernel_rfl) hy)
def Φ116 (L N : Nat) : Tells := (addT (Φ115 L N) 116 (f116.ent L N))
theorem Φ116_ok (L N : Nat) : TellsOk Try.prog (Φ116 L N) := addT_ok (Φ115_ok L N) (f116.ok L N (Φ115_ok L N))
def f80.s2' {R : Type} (L N : Nat) (k2_e4 : Int → Int → LLM → LI → LI → Option R) (rec2 : Int → Int → Int → LLM → LI → LI → Option R) (s9 : Int) (s10 : Int) (s11 : Int) (s12 : LLM) (s13 : LI) (s14 : LI) : Option R :=
  bif (decide (s11 ≥ (0 : Int))) then
    bif (decide (0 ≤ s11) && decide (s11 < (s13.length : Int))) then
      bif (decide (0 ≤ s9) && decide (s9 < (s13.length : Int))) then
        bif ((listAt s13 (0 : Int) s11.toNat) == (listAt s13 (0 : Int) s9.toNat)) then
          (f115 L N (Graph.mk s12) s9 s13).bind fun y20 =>
          (f115 L N (Graph.mk s12) s11 s13).bind fun y21 =>
          (f114 L N y20 y21).bind fun y22 =>
          bif y22 then
            rec2 s9 s11 (wi (s11 - (1 : Int))) s12 s13 s14
          else rec2 s9 s10 (wi (s11 - (1 : Int))) s12 s13 s14
        else rec2 s9 s10 (wi (s11 - (1 : Int))) s12 s13 s14
      else none
    else none
  else k2_e4 s9 s10 s12 s13 s14
def f80.s2 {R : Type} (L N : Nat) (k2_e4 : Int → Int → LLM → LI → LI → Option R) (rec2 : Int → Int → Int → LLM → LI → LI → Option R) (s9 : Int) (s10 : Int) (s11 : Int) (s12 : LLM) (s13 : LI) (s14 : LI) : Option R :=
  f80.s2' L N k2_e4 rec2 s9 s10 s11 s12 s13 s14
def f80.l2 {R : Type} (L N : Nat) (k2_e4 : Int → Int → LLM → LI → LI → Option R) : Nat → Int → Int → Int → LLM → LI → LI → Option R
  | 0, _, _, _, _, _, _ => none
  | n + 1, s9, s10, s11, s12, s13, s14 => f80.s2 L N k2_e4 (f80.l2 L N k2_e4 n) s9 s10 s11 s12 s13 s14
def f80.T2 (s9 : Int) (s10 : Int) (s11 : Int) (s12 : LLM) (s13 : LI) (s14 : LI) : T := mkT 56 [(1, (.ptr 1001 0)), (3, (.row 1011)), (4, (.row 1012)), (5, (.tv i64 s9)), (6, (.tv i64 s10)), (7, (.tv i64 s11))]
def f80.H2 (s9 : Int) (s10 : Int) (s11 : Int) (s12 : LLM) (s13 : LI) (s14 : LI) : H := [(1001, (.box [(.tv (.sl (.sl (.st 0))) s12)])), (1011, (.row 3 i64 s13)), (1012, (.row 3 i64 s14))]
def f80.T2_e4 (z15 : Int) (z16 : Int) (z17 : LLM) (z18 : LI) (z19 : LI) : T := mkT 56 [(1, (.ptr 1001 0)), (3, (.row 1011)), (4, (.row 1012)), (5, (.tv i64 z15)), (6, (.tv i64 z16))]
def f80.H2_e4 (z15 : Int) (z16 : Int) (z17 : LLM) (z18 : LI) (z19 : LI) : H := [(1001, (.box [(.tv (.sl (.sl (.st 0))) z17)])), (1011, (.row 3 i64 z18)), (1012, (.row 3 i64 z19))]
def f80.p2_e4' {R : Type} (L N : Nat) (k1_e2 : LLM → LI → LI → Option R) (rec1 : Int → LLM → LI → LI → Option R) (z15 : Int) (z16 : Int) (z17 : LLM) (z18 : LI) (z19 : LI) : Option R :=
  bif (decide (z19.length + ([z16] : LI).length ≤ lim)) then
    rec1 (wi (z15 + (1 : Int))) z17 z18 (z19 ++ ([z16] : LI))
  else none
def f80.p2_e4 {R : Type} (L N : Nat) (k1_e2 : LLM → LI → LI → Option R) (rec1 : Int → LLM → LI → LI → Option R) (z15 : Int) (z16 : Int) (z17 : LLM) (z18 : LI) (z19 : LI) : Option R :=
  f80.p2_e4' L N k1_e2 rec1 z15 z16 z17 z18 z19
def f80.s1' {R : Type} (L N : Nat) (k1_e2 : LLM → LI → LI → Option R) (rec1 : Int → LLM → LI → LI → Option R) (w2 : Int → Int → Int → LLM → LI → LI → Option R) (s2 : Int) (s3 : LLM) (s4 : LI) (s5 : LI) : Option R :=
  bif (decide (s2 < (s4.length : Int))) then
    w2 s2 s2 (wi (s2 - (1 : Int))) s3 s4 s5
  else k1_e2 s3 s4 s5
def f80.s1 {R : Type} (L N : Nat) (k1_e2 : LLM → LI → LI → Option R) (rec1 : Int → LLM → LI → LI → Option R) (s2 : Int) (s3 : LLM) (s4 : LI) (s5 : LI) : Option R :=
  f80.s1' L N k1_e2 rec1 (fun s9 s10 s11 s12 s13 s14 => f80.l2 L N (fun z15 z16 z17 z18 z19 => f80.p2_e4 L N k1_e2 rec1 z15 z16 z17 z18 z19) L s9 s10 s11 s12 s13 s14) s2 s3 s4 s5
def f80.l1 {R : Type} (L N : Nat) (k1_e2 : LLM → LI → LI → Option R) : Nat → Int → LLM → LI → LI → Option R
  | 0, _, _, _, _ => none
  | n + 1, s2, s3, s4, s5 => f80.s1 L N k1_e2 (f80.l1 L N k1_e2 n) s2 s3 s4 s5
def f80.T1 (s2 : Int) (s3 : LLM) (s4 : LI) (s5 : LI) : T := mkT 56 [(1, (.ptr 1001 0)), (3, (.row 1011)), (4, (.row 1012)), (5, (.tv i64 s2))]
def f80.H1 (s2 : Int) (s3 : LLM) (s4 : LI) (s5 : LI) : H := [(1001, (.box [(.tv (.sl (.sl (.st 0))) s3)])), (1011, (.row 3 i64 s4)), (1012, (.row 3 i64 s5))]
def f80.T1_e2 (z6 : LLM) (z7 : LI) (z8 : LI) : T := mkT 56 [(1, (.ptr 1001 0)), (3, (.row 1011)), (4, (.row 1012))]
def f80.H1_e2 (z6 : LLM) (z7 : LI) (z8 : LI) : H := [(1001, (.box [(.tv (.sl (.sl (.st 0))) z6)])), (1011, (.row 3 i64 z7)), (1012, (.row 3 i64 z8))]
def f80.p1_e2' {R : Type} (L N : Nat) (k0_r : LI → Option R) (rec0 : LLM → LI → Option R) (z6 : LLM) (z7 : LI) (z8 : LI) : Option R :=
  (f116 L N z8 z7).bind fun y36 =>
  bif y36 then
    k0_r z7
  else rec0 z6 z8
def f80.p1_e2 {R : Type} (L N : Nat) (k0_r : LI → Option R) (rec0 : LLM → LI → Option R) (z6 : LLM) (z7 : LI) (z8 : LI) : Option R :=
  f80.p1_e2' L N k0_r rec0 z6 z7 z8
def f80.s0' {R : Type} (L N : Nat) (k0_r : LI → Option R) (rec0 : LLM → LI → Option R) (w1 : Int → LLM → LI → LI → Option R) (s0 : LLM) (s1 : LI) : Option R :=
  w1 (0 : Int) s0 s1 ([] : LI)
def f80.s0 {R : Type} (L N : Nat) (k0_r : LI → Option R) (rec0 : LLM → LI → Option R) (s0 : LLM) (s1 : LI) : Option R :=
  f80.s0' L N k0_r rec0 (fun s2 s3 s4 s5 => f80.l1 L N (fun z6 z7 z8 => f80.p1_e2 L N k0_r rec0 z6 z7 z8) L s2 s3 s4 s5) s0 s1
def f80.l0 {R : Type} (L N : Nat) (k0_r : LI → Option R) : Nat → LLM → LI → Option R
  | 0, _, _ => none
  | n + 1, s0, s1 => f80.s0 L N k0_r (f80.l0 L N k0_r n) s0 s1
def f80.T0 (s0 : LLM) (s1 : LI) : T := mkT 56 [(1, (.ptr 1001 0)), (3, (.row 1011))]
def f80.H0 (s0 : LLM) (s1 : LI) : H := [(1001, (.box [(.tv (.sl (.sl (.st 0))) s0)])), (1011, (.row 3 i64 s1))]
def f80.T0_r (z37 : LI) : T := mkT 56 [(2, (.row 1011))]
def f80.H0_r (z37 : LI) : H := [(1011, (.row 3 i64 z37))]
def f80.p0_r' {R : Type} (L N : Nat) (k : LI → Option R) (z37 : LI) : Option R :=
  k z37
def f80.p0_r {R : Type} (L N : Nat) (k : LI → Option R) (z37 : LI) : Option R :=
  f80.p0_r' L N k z37
def f80.b' {R : Type} (L N : Nat) (k : LI → Option R) (w0 : LLM → LI → Option R) (x0 : Graph) : Option R :=
  bif (decide (0 ≤ (x0.moves.length : Int)) && decide ((x0.moves.length : Int) ≤ (lim : Int))) then
    w0 x0.moves (List.replicate (x0.moves.length : Int).toNat (0 : Int))
  else none
def f80.b {R : Type} (L N : Nat) (k : LI → Option R) (x0 : Graph) : Option R :=
  f80.b' L N k (fun s0 s1 => f80.l0 L N (fun z37 => f80.p0_r L N k z37) L s0 s1) x0
def f80 (L N : Nat) (x0 : Graph) : Option (LI) := f80.b L N some x0
def f80.ent (L N : Nat) := entDa [(.st 2)] (.one (.sl i64)) fun d => f80 L N d.1
noncomputable def E80 (L N : Nat) : Env := { P := Try.prog, ty := tyOf, Φ := (Φ116 L N), inl := inlT, live := lives, liveX := livesX, L := L, dp := none, prom := promT, heal := healT, ren := renT }
noncomputable def f80.c0 : Code := loopAt 0 (codeOf Try.f80)
noncomputable def f80.c1 : Code := loopAt 2 f80.c0
noncomputable def f80.c2 : Code := loopAt 4 f80.c1
def f80.X2_e4 {R : Type} (κ : KX R) := fun z15 z16 z17 z18 z19 => κ (.exit 4) (f80.T2_e4 z15 z16 z17 z18 z19) (f80.H2_e4 z15 z16 z17 z18 z19)
def f80.R2 {R : Type} (rec : KT R) := fun s9 s10 s11 s12 s13 s14 => rec (f80.T2 s9 s10 s11 s12 s13 s14) (f80.H2 s9 s10 s11 s12 s13 s14)
theorem f80.s2_eq {R : Type} (L N : Nat) (κ : KX R) (rec : KT R) (s9 : Int) (s10 : Int) (s11 : Int) (s12 : LLM) (s13 : LI) (s14 : LI) :
    evRd (E80 L N) (evCallI (E80 L N) 1 2000) 1000 80 56 4 f80.c2 κ rec (f80.T2 s9 s10 s11 s12 s13 s14) (f80.H2 s9 s10 s11 s12 s13 s14)
    = f80.s2 L N (f80.X2_e4 κ) (f80.R2 rec) s9 s10 s11 s12 s13 s14 := by kernel_rfl
theorem f80.l2_eq {R : Type} (L N : Nat) (κ : KX R) : ∀ (n : Nat) (s9 : Int) (s10 : Int) (s11 : Int) (s12 : LLM) (s13 : LI) (s14 : LI),
    evLp (E80 L N) (evCallI (E80 L N) 1 2000) 1000 80 56 4 f80.c2 κ n (f80.T2 s9 s10 s11 s12 s13 s14) (f80.H2 s9 s10 s11 s12 s13 s14)
    = f80.l2 L N (f80.X2_e4 κ) n s9 s10 s11 s12 s13 s14 := by
  intro n
  induction n with
  | zero => intros; rfl
  | succ n ih =>
    intro s9 s10 s11 s12 s13 s14
    rw [evLp_succ, f80.s2_eq]
    delta f80.R2
    simp only [ih]
    rfl
def f80.X1_e2 {R : Type} (κ : KX R) := fun z6 z7 z8 => κ (.exit 2) (f80.T1_e2 z6 z7 z8) (f80.H1_e2 z6 z7 z8)
def f80.R1 {R : Type} (rec : KT R) := fun s2 s3 s4 s5 => rec (f80.T1 s2 s3 s4 s5) (f80.H1 s2 s3 s4 s5)
theorem f80.p2_e4_eq {R : Type} (L N : Nat) (κ : KX R) (rec : KT R) (z15 : Int) (z16 : Int) (z17 : LLM) (z18 : LI) (z19 : LI) :
    (contAt (E80 L N) (evCallI (E80 L N) 1 2000) 1000 80 56 4 f80.c1 (rdK (E80 L N) 1000 80 56 2 κ rec)) (.exit 4) (f80.T2_e4 z15 z16 z17 z18 z19) (f80.H2_e4 z15 z16 z17 z18 z19)
    = f80.p2_e4 L N (f80.X1_e2 κ) (f80.R1 rec) z15 z16 z17 z18 z19 := by kernel_rfl
theorem f80.s1_eq {R : Type} (L N : Nat) (κ : KX R) (rec : KT R) (s2 : Int) (s3 : LLM) (s4 : LI) (s5 : LI) :
    evRd (E80 L N) (evCallI (E80 L N) 1 2000) 1000 80 56 2 f80.c1 κ rec (f80.T1 s2 s3 s4 s5) (f80.H1 s2 s3 s4 s5)
    = f80.s1 L N (f80.X1_e2 κ) (f80.R1 rec) s2 s3 s4 s5 := by
  refine Eq.trans (b := f80.s1' L N (f80.X1_e2 κ) (f80.R1 rec) (fun s9 s10 s11 s12 s13 s14 => evLp (E80 L N) (evCallI (E80 L N) 1 2000) 1000 80 56 4 f80.c2 (contAt (E80 L N) (evCallI (E80 L N) 1 2000) 1000 80 56 4 f80.c1 (rdK (E80 L N) 1000 80 56 2 κ rec)) L (f80.T2 s9 s10 s11 s12 s13 s14) (f80.H2 s9 s10 s11 s12 s13 s14)) s2 s3 s4 s5) (by kernel_rfl) ?_
  unfold f80.s1
  simp only [f80.l2_eq]
  delta f80.X2_e4
  simp only [f80.p2_e4_eq]
theorem f80.l1_eq {R : Type} (L N : Nat) (κ : KX R) : ∀ (n : Nat) (s2 : Int) (s3 : LLM) (s4 : LI) (s5 : LI),
    evLp (E80 L N) (evCallI (E80 L N) 1 2000) 1000 80 56 2 f80.c1 κ n (f80.T1 s2 s3 s4 s5) (f80.H1 s2 s3 s4 s5)
    = f80.l1 L N (f80.X1_e2 κ) n s2 s3 s4 s5 := by
  intro n
  induction n with
  | zero => intros; rfl
  | succ n ih =>
    intro s2 s3 s4 s5
    rw [evLp_succ, f80.s1_eq]
    delta f80.R1
    simp only [ih]
    rfl
def f80.X0_r {R : Type} (κ : KX R) := fun z37 => κ .ret (f80.T0_r z37) (f80.H0_r z37)
def f80.R0 {R : Type} (rec : KT R) := fun s0 s1 => rec (f80.T0 s0 s1) (f80.H0 s0 s1)
theorem f80.p1_e2_eq {R : Type} (L N : Nat) (κ : KX R) (rec : KT R) (z6 : LLM) (z7 : LI) (z8 : LI) :
    (contAt (E80 L N) (evCallI (E80 L N) 1 2000) 1000 80 56 2 f80.c0 (rdK (E80 L N) 1000 80 56 0 κ rec)) (.exit 2) (f80.T1_e2 z6 z7 z8) (f80.H1_e2 z6 z7 z8)
    = f80.p1_e2 L N (f80.X0_r κ) (f80.R0 rec) z6 z7 z8 := by kernel_rfl
theorem f80.s0_eq {R : Type} (L N : Nat) (κ : KX R) (rec : KT R) (s0 : LLM) (s1 : LI) :
    evRd (E80 L N) (evCallI (E80 L N) 1 2000) 1000 80 56 0 f80.c0 κ rec (f80.T0 s0 s1) (f80.H0 s0 s1)
    = f80.s0 L N (f80.X0_r κ) (f80.R0 rec) s0 s1 := by
  refine Eq.trans (b := f80.s0' L N (f80.X0_r κ) (f80.R0 rec) (fun s2 s3 s4 s5 => evLp (E80 L N) (evCallI (E80 L N) 1 2000) 1000 80 56 2 f80.c1 (contAt (E80 L N) (evCallI (E80 L N) 1 2000) 1000 80 56 2 f80.c0 (rdK (E80 L N) 1000 80 56 0 κ rec)) L (f80.T1 s2 s3 s4 s5) (f80.H1 s2 s3 s4 s5)) s0 s1) (by kernel_rfl) ?_
  unfold f80.s0
  simp only [f80.l1_eq]
  delta f80.X1_e2
  simp only [f80.p1_e2_eq]
theorem f80.l0_eq {R : Type} (L N : Nat) (κ : KX R) : ∀ (n : Nat) (s0 : LLM) (s1 : LI),
    evLp (E80 L N) (evCallI (E80 L N) 1 2000) 1000 80 56 0 f80.c0 κ n (f80.T0 s0 s1) (f80.H0 s0 s1)
    = f80.l0 L N (f80.X0_r κ) n s0 s1 := by
  intro n
  induction n with
  | zero => intros; rfl
  | succ n ih =>
    intro s0 s1
    rw [evLp_succ, f80.s0_eq]
    delta f80.R0
    simp only [ih]
    rfl
theorem f80.p0_r_eq {R : Type} (L N : Nat) (κ : AV → Option R) (z37 : LI) :
    (contAt (E80 L N) (evCallI (E80 L N) 1 2000) 1000 80 56 0 (codeOf Try.f80) (finK (E80 L N) 1000 Try.f80 (finC (.one (.sl i64)) κ))) .ret (f80.T0_r z37) (f80.H0_r z37)
    = f80.p0_r L N (fun a0 => κ (.tv (.sl i64) a0)) z37 := by kernel_rfl
theorem f80.b_eq {R : Type} (L N : Nat) (κ : AV → Option R) (x0 : Graph) :
    evBody (E80 L N) (evCallI (E80 L N) 1 2000) 1000 80 Try.f80 [(.tv (.st 2) x0)] [] [] (finC (.one (.sl i64)) κ)
    = f80.b L N (fun a0 => κ (.tv (.sl i64) a0)) x0 := by
  refine Eq.trans (b := f80.b' L N (fun a0 => κ (.tv (.sl i64) a0)) (fun s0 s1 => evLp (E80 L N) (evCallI (E80 L N) 1 2000) 1000 80 56 0 f80.c0 (contAt (E80 L N) (evCallI (E80 L N) 1 2000) 1000 80 56 0 (codeOf Try.f80) (finK (E80 L N) 1000 Try.f80 (finC (.one (.sl i64)) κ))) L (f80.T0 s0 s1) (f80.H0 s0 s1)) x0) (by kernel_rfl) ?_
  unfold f80.b
  simp only [f80.l0_eq]
  delta f80.X0_r
  simp only [f80.p0_r_eq]
theorem f80.ok (L N : Nat) (hΦ : TellsOk Try.prog ((Φ116 L N))) : EntOk Try.prog 80 (f80.ent L N) := entDa_ok (E := (E80 L N)) (dep := 1000) (f := Try.f80) (sound_of hΦ) okP (callI_sound (sound_of hΦ) okP 1 2000) rfl fun d _ hy => (f80.b_eq L N (unR (.one (.sl i64))) d.1).trans (Eq.trans (b := f80.b L N some d.1) (by kernel_rfl) hy)
def Φ80 (L N : Nat) : Tells := (addT (Φ116 L N) 80 (f80.ent L N))
theorem Φ80_ok (L N : Nat) : TellsOk Try.prog (Φ80 L N) := addT_ok (Φ116_ok L N) (f80.ok L N (Φ116_ok L N))
def f40.b' {R : Type} (L N : Nat) (k : LI → Option R) (x0 : Graph) : Option R :=
  (f58 L N (Graph.mk x0.moves)).bind fun y0 =>
  bif (!y0) then
    k ([] : LI)
  else (f80 L N (Graph.mk x0.moves)).bind fun y1 =>
  k y1
def f40.b {R : Type} (L N : Nat) (k : LI → Option R) (x0 : Graph) : Option R :=
  f40.b' L N k x0
def f40 (L N : Nat) (x0 : Graph) : Option (LI) := f40.b L N some x0
def f40.ent (L N : Nat) := entDa [(.st 2)] (.one (.sl i64)) fun d => f40 L N d.1
noncomputable def E40 (L N : Nat) : Env := { P := Try.prog, ty := tyOf, Φ := (Φ80 L N), inl := inlT, live := lives, liveX := livesX, L := L, dp := none, prom := promT, heal := healT, ren := renT }
theorem f40.b_eq {R : Type} (L N : Nat) (κ : AV → Option R) (x0 : Graph) :
    evBody (E40 L N) (evCallI (E40 L N) 1 2000) 1000 40 Try.f40 [(.tv (.st 2) x0)] [] [] (finC (.one (.sl i64)) κ)
    = f40.b L N (fun a0 => κ (.tv (.sl i64) a0)) x0 := by kernel_rfl
theorem f40.ok (L N : Nat) (hΦ : TellsOk Try.prog ((Φ80 L N))) : EntOk Try.prog 40 (f40.ent L N) := entDa_ok (E := (E40 L N)) (dep := 1000) (f := Try.f40) (sound_of hΦ) okP (callI_sound (sound_of hΦ) okP 1 2000) rfl fun d _ hy => (f40.b_eq L N (unR (.one (.sl i64))) d.1).trans (Eq.trans (b := f40.b L N some d.1) (by kernel_rfl) hy)
def Φ40 (L N : Nat) : Tells := (addT (Φ80 L N) 40 (f40.ent L N))
theorem Φ40_ok (L N : Nat) : TellsOk Try.prog (Φ40 L N) := addT_ok (Φ80_ok L N) (f40.ok L N (Φ80_ok L N))
def f72.b' {R : Type} (L N : Nat) (k : Bool → Option R) (x0 : Int) : Option R :=
  bif (decide (x0 ≥ (-4 : Int))) then
    k (decide (x0 ≤ (4 : Int)))
  else k false
def f72.b {R : Type} (L N : Nat) (k : Bool → Option R) (x0 : Int) : Option R :=
  f72.b' L N k x0
def f72 (L N : Nat) (x0 : Int) : Option (Bool) := f72.b L N some x0
def f72.ent (L N : Nat) := entRo [i64] (.one .bool) fun d => f72 L N d.1
noncomputable def E72 (L N : Nat) : Env := { P := Try.prog, ty := tyOf, Φ := (Φ40 L N), inl := inlT, live := lives, liveX := livesX, L := L, dp := none, prom := promT, heal := healT, ren := renT }
theorem f72.b_eq {R : Type} (L N : Nat) (κ : AV → Option R) (x0 : Int) :
    evBody (E72 L N) (evCallI (E72 L N) 1 2000) 1000 72 Try.f72 [(.tv i64 x0)] [] [] (finC (.one .bool) κ)
    = f72.b L N (fun a0 => κ (.tv .bool a0)) x0 := by kernel_rfl
theorem f72.ok (L N : Nat) (hΦ : TellsOk Try.prog ((Φ40 L N))) : EntOk Try.prog 72 (f72.ent L N) := entRo_ok (E := (E72 L N)) (dep := 1000) (f := Try.f72) (sound_of hΦ) okP (callI_sound (sound_of hΦ) okP 1 2000) rfl rfl fun d _ hy => (f72.b_eq L N (unR (.one .bool)) d.1).trans (Eq.trans (b := f72.b L N some d.1) (by kernel_rfl) hy)
def Φ72 (L N : Nat) : Tells := (addT (Φ40 L N) 72 (f72.ent L N))
theorem Φ72_ok (L N : Nat) : TellsOk Try.prog (Φ72 L N) := addT_ok (Φ40_ok L N) (f72.ok L N (Φ40_ok L N))
def f136.b' {R : Type} (L N : Nat) (k : Bool → Option R) (x0 : Int) : Option R :=
  k (x0 != x0)
def f136.b {R : Type} (L N : Nat) (k : Bool → Option R) (x0 : Int) : Option R :=
  f136.b' L N k x0
def f136 (L N : Nat) (x0 : Int) : Option (Bool) := f136.b L N some x0
def f136.ent (L N : Nat) := entRo [i64] (.one .bool) fun d => f136 L N d.1
noncomputable def E136 (L N : Nat) : Env := { P := Try.prog, ty := tyOf, Φ := (Φ72 L N), inl := inlT, live := lives, liveX := livesX, L := L, dp := none, prom := promT, heal := healT, ren := renT }
theorem f136.b_eq {R : Type} (L N : Nat) (κ : AV → Option R) (x0 : Int) :
    evBody (E136 L N) (evCallI (E136 L N) 1 2000) 1000 136 Try.f136 [(.tv i64 x0)] [] [] (finC (.one .bool) κ)
    = f136.b L N (fun a0 => κ (.tv .bool a0)) x0 := by kernel_rfl
theorem f136.ok (L N : Nat) (hΦ : TellsOk Try.prog ((Φ72 L N))) : EntOk Try.prog 136 (f136.ent L N) := entRo_ok (E := (E136 L N)) (dep := 1000) (f := Try.f136) (sound_of hΦ) okP (callI_sound (sound_of hΦ) okP 1 2000) rfl rfl fun d _ hy => (f136.b_eq L N (unR (.one .bool)) d.1).trans (Eq.trans (b := f136.b L N some d.1) (by kernel_rfl) hy)
def Φ136 (L N : Nat) : Tells := (addT (Φ72 L N) 136 (f136.ent L N))
theorem Φ136_ok (L N : Nat) : TellsOk Try.prog (Φ136 L N) := addT_ok (Φ72_ok L N) (f136.ok L N (Φ72_ok L N))
def f108.b' {R : Type} (L N : Nat) (k : Int → Option R) (x0 : Int) (x1 : Int) : Option R :=
  (f136 L N x0).bind fun y0 =>
  (f136 L N x1).bind fun y1 =>
  bif y0 then
    bif y1 then
      k (0 : Int)
    else k (-1 : Int)
  else bif y1 then
    k (1 : Int)
  else bif (decide (x0 < x1)) then
    k (-1 : Int)
  else bif (decide (x0 > x1)) then
    k (1 : Int)
  else k (0 : Int)
def f108.b {R : Type} (L N : Nat) (k : Int → Option R) (x0 : Int) (x1 : Int) : Option R :=
  f108.b' L N k x0 x1
def f108 (L N : Nat) (x0 : Int) (x1 : Int) : Option (Int) := f108.b L N some x0 x1
def f108.ent (L N : Nat) := entRo [i64, i64] (.one i64) fun d => f108 L N d.1 d.2.1
noncomputable def E108 (L N : Nat) : Env := { P := Try.prog, ty := tyOf, Φ := (Φ136 L N), inl := inlT, live := lives, liveX := livesX, L := L, dp := none, prom := promT, heal := healT, ren := renT }
theorem f108.b_eq {R : Type} (L N : Nat) (κ : AV → Option R) (x0 : Int) (x1 : Int) :
    evBody (E108 L N) (evCallI (E108 L N) 1 2000) 1000 108 Try.f108 [(.tv i64 x0), (.tv i64 x1)] [] [] (finC (.one i64) κ)
    = f108.b L N (fun a0 => κ (.tv i64 a0)) x0 x1 := by kernel_rfl
theorem f108.ok (L N : Nat) (hΦ : TellsOk Try.prog ((Φ136 L N))) : EntOk Try.prog 108 (f108.ent L N) := entRo_ok (E := (E108 L N)) (dep := 1000) (f := Try.f108) (sound_of hΦ) okP (callI_sound (sound_of hΦ) okP 1 2000) rfl rfl fun d _ hy => (f108.b_eq L N (unR (.one i64)) d.1 d.2.1).trans (Eq.trans (b := f108.b L N some d.1 d.2.1) (by kernel_rfl) hy)
def Φ108 (L N : Nat) : Tells := (addT (Φ136 L N) 108 (f108.ent L N))
theorem Φ108_ok (L N : Nat) : TellsOk Try.prog (Φ108 L N) := addT_ok (Φ136_ok L N) (f108.ok L N (Φ136_ok L N))
def f73.b' {R : Type} (L N : Nat) (k : Int → Option R) (x0 : Move) (x1 : Move) : Option R :=
  (f108 L N x0.act x1.act).bind fun y0 =>
  bif (y0 != (0 : Int)) then
    k y0
  else (f108 L N x0.to x1.to).bind fun y1 =>
  k y1
def f73.b {R : Type} (L N : Nat) (k : Int → Option R) (x0 : Move) (x1 : Move) : Option R :=
  f73.b' L N k x0 x1
def f73 (L N : Nat) (x0 : Move) (x1 : Move) : Option (Int) := f73.b L N some x0 x1
def f73.ent (L N : Nat) := entRo [(.st 0), (.st 0)] (.one i64) fun d => f73 L N d.1 d.2.1
noncomputable def E73 (L N : Nat) : Env := { P := Try.prog, ty := tyOf, Φ := (Φ108 L N), inl := inlT, live := lives, liveX := livesX, L := L, dp := none, prom := promT, heal := healT, ren := renT }
theorem f73.b_eq {R : Type} (L N : Nat) (κ : AV → Option R) (x0 : Move) (x1 : Move) :
    evBody (E73 L N) (evCallI (E73 L N) 1 2000) 1000 73 Try.f73 [(.tv (.st 0) x0), (.tv (.st 0) x1)] [] [] (finC (.one i64) κ)
    = f73.b L N (fun a0 => κ (.tv i64 a0)) x0 x1 := by kernel_rfl
theorem f73.ok (L N : Nat) (hΦ : TellsOk Try.prog ((Φ108 L N))) : EntOk Try.prog 73 (f73.ent L N) := entRo_ok (E := (E73 L N)) (dep := 1000) (f := Try.f73) (sound_of hΦ) okP (callI_sound (sound_of hΦ) okP 1 2000) rfl rfl fun d _ hy => (f73.b_eq L N (unR (.one i64)) d.1 d.2.1).trans (Eq.trans (b := f73.b L N some d.1 d.2.1) (by kernel_rfl) hy)
def Φ73 (L N : Nat) : Tells := (addT (Φ108 L N) 73 (f73.ent L N))
theorem Φ73_ok (L N : Nat) : TellsOk Try.prog (Φ73 L N) := addT_ok (Φ108_ok L N) (f73.ok L N (Φ108_ok L N))
def f32.s1' {R : Type} (L N : Nat) (k1_e2 : LLM → Int → Int → LLM → Option R) (k1_r : Bool → LLM → Int → Int → LLM → Option R) (rec1 : LM → LLM → Int → Int → LM → Int → Int → LLM → Option R) (s7 : LM) (s8 : LLM) (s9 : Int) (s10 : Int) (s11 : LM) (s12 : Int) (s13 : Int) (s14 : LLM) : Option R :=
  bif (decide (s13 < s12)) then
    bif (decide (0 ≤ s13) && decide (s13 < (s11.length : Int))) then
      (f72 L N ((listAt s11 (Ty.dflt (.st 0)) s13.toNat).act)).bind fun y19 =>
      bif (!y19) then
        k1_r false s8 s9 s10 s14
      else bif (decide ((listAt s11 (Ty.dflt (.st 0)) s13.toNat).to < (0 : Int))) then
        k1_r false s8 s9 s10 s14
      else bif (decide ((listAt s11 (Ty.dflt (.st 0)) s13.toNat).to ≥ (s14.length : Int))) then
        k1_r false s8 s9 s10 s14
      else bif (decide (s13 > (0 : Int))) then
        bif (decide (0 ≤ (wi (s13 - (1 : Int)))) && decide ((wi (s13 - (1 : Int))) < (s7.length : Int))) then
          (f73 L N (listAt s7 (Ty.dflt (.st 0)) (wi (s13 - (1 : Int))).toNat) (Move.mk ((listAt s11 (Ty.dflt (.st 0)) s13.toNat).act) ((listAt s11 (Ty.dflt (.st 0)) s13.toNat).to))).bind fun y20 =>
          bif (decide (y20 ≥ (0 : Int))) then
            k1_r false s8 s9 s10 s14
          else rec1 s7 s8 s9 s10 s11 s12 (wi (s13 + (1 : Int))) s14
        else none
      else rec1 s7 s8 s9 s10 s11 s12 (wi (s13 + (1 : Int))) s14
    else none
  else k1_e2 s8 s9 s10 s14
def f32.s1 {R : Type} (L N : Nat) (k1_e2 : LLM → Int → Int → LLM → Option R) (k1_r : Bool → LLM → Int → Int → LLM → Option R) (rec1 : LM → LLM → Int → Int → LM → Int → Int → LLM → Option R) (s7 : LM) (s8 : LLM) (s9 : Int) (s10 : Int) (s11 : LM) (s12 : Int) (s13 : Int) (s14 : LLM) : Option R :=
  f32.s1' L N k1_e2 k1_r rec1 s7 s8 s9 s10 s11 s12 s13 s14
def f32.l1 {R : Type} (L N : Nat) (k1_e2 : LLM → Int → Int → LLM → Option R) (k1_r : Bool → LLM → Int → Int → LLM → Option R) : Nat → LM → LLM → Int → Int → LM → Int → Int → LLM → Option R
  | 0, _, _, _, _, _, _, _, _ => none
  | n + 1, s7, s8, s9, s10, s11, s12, s13, s14 => f32.s1 L N k1_e2 k1_r (f32.l1 L N k1_e2 k1_r n) s7 s8 s9 s10 s11 s12 s13 s14
def f32.T1 (s7 : LM) (s8 : LLM) (s9 : Int) (s10 : Int) (s11 : LM) (s12 : Int) (s13 : Int) (s14 : LLM) : T := mkT 64 [(1, (.ptr 1001 0)), (4, (.tv (.sl (.st 0)) s7)), (18, (.tv (.sl (.sl (.st 0))) s8)), (19, (.tv i64 s9)), (20, (.tv i64 s10)), (24, (.tv (.sl (.st 0)) s11)), (25, (.tv i64 s12)), (26, (.tv i64 s13))]
def f32.H1 (s7 : LM) (s8 : LLM) (s9 : Int) (s10 : Int) (s11 : LM) (s12 : Int) (s13 : Int) (s14 : LLM) : H := [(1001, (.box [(.tv (.sl (.sl (.st 0))) s14)]))]
def f32.T1_e2 (z15 : LLM) (z16 : Int) (z17 : Int) (z18 : LLM) : T := mkT 64 [(1, (.ptr 1001 0)), (18, (.tv (.sl (.sl (.st 0))) z15)), (19, (.tv i64 z16)), (20, (.tv i64 z17))]
def f32.H1_e2 (z15 : LLM) (z16 : Int) (z17 : Int) (z18 : LLM) : H := [(1001, (.box [(.tv (.sl (.sl (.st 0))) z18)]))]
def f32.T1_r (z30 : Bool) (z31 : LLM) (z32 : Int) (z33 : Int) (z34 : LLM) : T := mkT 64 [(1, (.ptr 1001 0)), (2, (.tv .bool z30)), (18, (.tv (.sl (.sl (.st 0))) z31)), (19, (.tv i64 z32)), (20, (.tv i64 z33))]
def f32.H1_r (z30 : Bool) (z31 : LLM) (z32 : Int) (z33 : Int) (z34 : LLM) : H := [(1001, (.box [(.tv (.sl (.sl (.st 0))) z34)]))]
def f32.p1_e2' {R : Type} (L N : Nat) (k0_e0 : Option R) (k0_r : Bool → Option R) (rec0 : LLM → Int → Int → LLM → Option R) (z15 : LLM) (z16 : Int) (z17 : Int) (z18 : LLM) : Option R :=
  rec0 z15 z16 (wi (z17 + (1 : Int))) z18
def f32.p1_e2 {R : Type} (L N : Nat) (k0_e0 : Option R) (k0_r : Bool → Option R) (rec0 : LLM → Int → Int → LLM → Option R) (z15 : LLM) (z16 : Int) (z17 : Int) (z18 : LLM) : Option R :=
  f32.p1_e2' L N k0_e0 k0_r rec0 z15 z16 z17 z18
def f32.p1_r' {R : Type} (L N : Nat) (k0_e0 : Option R) (k0_r : Bool → Option R) (rec0 : LLM → Int → Int → LLM → Option R) (z30 : Bool) (z31 : LLM) (z32 : Int) (z33 : Int) (z34 : LLM) : Option R :=
  k0_r z30
def f32.p1_r {R : Type} (L N : Nat) (k0_e0 : Option R) (k0_r : Bool → Option R) (rec0 : LLM → Int → Int → LLM → Option R) (z30 : Bool) (z31 : LLM) (z32 : Int) (z33 : Int) (z34 : LLM) : Option R :=
  f32.p1_r' L N k0_e0 k0_r rec0 z30 z31 z32 z33 z34
def f32.s0' {R : Type} (L N : Nat) (k0_e0 : Option R) (k0_r : Bool → Option R) (rec0 : LLM → Int → Int → LLM → Option R) (w1 : LM → LLM → Int → Int → LM → Int → Int → LLM → Option R) (s3 : LLM) (s4 : Int) (s5 : Int) (s6 : LLM) : Option R :=
  bif (decide (s5 < s4)) then
    bif (decide (0 ≤ s5) && decide (s5 < (s3.length : Int))) then
      w1 (listAt s3 [] s5.toNat) s3 s4 s5 (listAt s3 [] s5.toNat) ((listAt s3 [] s5.toNat).length : Int) (0 : Int) s6
    else none
  else k0_e0
def f32.s0 {R : Type} (L N : Nat) (k0_e0 : Option R) (k0_r : Bool → Option R) (rec0 : LLM → Int → Int → LLM → Option R) (s3 : LLM) (s4 : Int) (s5 : Int) (s6 : LLM) : Option R :=
  f32.s0' L N k0_e0 k0_r rec0 (fun s7 s8 s9 s10 s11 s12 s13 s14 => f32.l1 L N (fun z15 z16 z17 z18 => f32.p1_e2 L N k0_e0 k0_r rec0 z15 z16 z17 z18) (fun z30 z31 z32 z33 z34 => f32.p1_r L N k0_e0 k0_r rec0 z30 z31 z32 z33 z34) L s7 s8 s9 s10 s11 s12 s13 s14) s3 s4 s5 s6
def f32.l0 {R : Type} (L N : Nat) (k0_e0 : Option R) (k0_r : Bool → Option R) : Nat → LLM → Int → Int → LLM → Option R
  | 0, _, _, _, _ => none
  | n + 1, s3, s4, s5, s6 => f32.s0 L N k0_e0 k0_r (f32.l0 L N k0_e0 k0_r n) s3 s4 s5 s6
def f32.T0 (s3 : LLM) (s4 : Int) (s5 : Int) (s6 : LLM) : T := mkT 64 [(1, (.ptr 1001 0)), (18, (.tv (.sl (.sl (.st 0))) s3)), (19, (.tv i64 s4)), (20, (.tv i64 s5))]
def f32.H0 (s3 : LLM) (s4 : Int) (s5 : Int) (s6 : LLM) : H := [(1001, (.box [(.tv (.sl (.sl (.st 0))) s6)]))]
def f32.T0_e0 : T := mkT 64 []
def f32.H0_e0 : H := []
def f32.T0_r (z43 : Bool) : T := mkT 64 [(2, (.tv .bool z43))]
def f32.H0_r (z43 : Bool) : H := []
def f32.p0_e0' {R : Type} (L N : Nat) (k : Bool → Option R) : Option R :=
  k true
def f32.p0_e0 {R : Type} (L N : Nat) (k : Bool → Option R) : Option R :=
  f32.p0_e0' L N k
def f32.p0_r' {R : Type} (L N : Nat) (k : Bool → Option R) (z43 : Bool) : Option R :=
  k z43
def f32.p0_r {R : Type} (L N : Nat) (k : Bool → Option R) (z43 : Bool) : Option R :=
  f32.p0_r' L N k z43
def f32.j0' {R : Type} (L N : Nat) (k : Bool → Option R) (w0 : LLM → Int → Int → LLM → Option R) (v2 : LLM) : Option R :=
  w0 v2 (v2.length : Int) (0 : Int) v2
def f32.b' {R : Type} (L N : Nat) (k : Bool → Option R) (w0 : LLM → Int → Int → LLM → Option R) (x0 : Graph) : Option R :=
  bif (decide ((x0.moves.length : Int) < (1 : Int))) then
    k false
  else bif (decide ((x0.moves.length : Int) > (60 : Int))) then
    k false
  else f32.j0' L N k w0 x0.moves
def f32.b {R : Type} (L N : Nat) (k : Bool → Option R) (x0 : Graph) : Option R :=
  f32.b' L N k (fun s3 s4 s5 s6 => f32.l0 L N (f32.p0_e0 L N k) (fun z43 => f32.p0_r L N k z43) L s3 s4 s5 s6) x0
def f32 (L N : Nat) (x0 : Graph) : Option (Bool) := f32.b L N some x0
def f32.ent (L N : Nat) := entRo [(.st 2)] (.one .bool) fun d => f32 L N d.1
noncomputable def E32 (L N : Nat) : Env := { P := Try.prog, ty := tyOf, Φ := (Φ73 L N), inl := inlT, live := lives, liveX := livesX, L := L, dp := none, prom := promT, heal := healT, ren := renT }
noncomputable def f32.c0 : Code := loopAt 0 (codeOf Try.f32)
noncomputable def f32.c1 : Code := loopAt 2 f32.c0
def f32.X1_e2 {R : Type} (κ : KX R) := fun z15 z16 z17 z18 => κ (.exit 2) (f32.T1_e2 z15 z16 z17 z18) (f32.H1_e2 z15 z16 z17 z18)
def f32.X1_r {R : Type} (κ : KX R) := fun z30 z31 z32 z33 z34 => κ .ret (f32.T1_r z30 z31 z32 z33 z34) (f32.H1_r z30 z31 z32 z33 z34)
def f32.R1 {R : Type} (rec : KT R) := fun s7 s8 s9 s10 s11 s12 s13 s14 => rec (f32.T1 s7 s8 s9 s10 s11 s12 s13 s14) (f32.H1 s7 s8 s9 s10 s11 s12 s13 s14)
theorem f32.s1_eq {R : Type} (L N : Nat) (κ : KX R) (rec : KT R) (s7 : LM) (s8 : LLM) (s9 : Int) (s10 : Int) (s11 : LM) (s12 : Int) (s13 : Int) (s14 : LLM) :
    evRd (E32 L N) (evCallI (E32 L N) 1 2000) 1000 32 64 2 f32.c1 κ rec (f32.T1 s7 s8 s9 s10 s11 s12 s13 s14) (f32.H1 s7 s8 s9 s10 s11 s12 s13 s14)
    = f32.s1 L N (f32.X1_e2 κ) (f32.X1_r κ) (f32.R1 rec) s7 s8 s9 s10 s11 s12 s13 s14 := by kernel_rfl
theorem f32.l1_eq {R : Type} (L N : Nat) (κ : KX R) : ∀ (n : Nat) (s7 : LM) (s8 : LLM) (s9 : Int) (s10 : Int) (s11 : LM) (s12 : Int) (s13 : Int) (s14 : LLM),
    evLp (E32 L N) (evCallI (E32 L N) 1 2000) 1000 32 64 2 f32.c1 κ n (f32.T1 s7 s8 s9 s10 s11 s12 s13 s14) (f32.H1 s7 s8 s9 s10 s11 s12 s13 s14)
    = f32.l1 L N (f32.X1_e2 κ) (f32.X1_r κ) n s7 s8 s9 s10 s11 s12 s13 s14 := by
  intro n
  induction n with
  | zero => intros; rfl
  | succ n ih =>
    intro s7 s8 s9 s10 s11 s12 s13 s14
    rw [evLp_succ, f32.s1_eq]
    delta f32.R1
    simp only [ih]
    rfl
def f32.X0_e0 {R : Type} (κ : KX R) := κ (.exit 0) f32.T0_e0 f32.H0_e0
def f32.X0_r {R : Type} (κ : KX R) := fun z43 => κ .ret (f32.T0_r z43) (f32.H0_r z43)
def f32.R0 {R : Type} (rec : KT R) := fun s3 s4 s5 s6 => rec (f32.T0 s3 s4 s5 s6) (f32.H0 s3 s4 s5 s6)
theorem f32.p1_e2_eq {R : Type} (L N : Nat) (κ : KX R) (rec : KT R) (z15 : LLM) (z16 : Int) (z17 : Int) (z18 : LLM) :
    (contAt (E32 L N) (evCallI (E32 L N) 1 2000) 1000 32 64 2 f32.c0 (rdK (E32 L N) 1000 32 64 0 κ rec)) (.exit 2) (f32.T1_e2 z15 z16 z17 z18) (f32.H1_e2 z15 z16 z17 z18)
    = f32.p1_e2 L N (f32.X0_e0 κ) (f32.X0_r κ) (f32.R0 rec) z15 z16 z17 z18 := by kernel_rfl
theorem f32.p1_r_eq {R : Type} (L N : Nat) (κ : KX R) (rec : KT R) (z30 : Bool) (z31 : LLM) (z32 : Int) (z33 : Int) (z34 : LLM) :
    (contAt (E32 L N) (evCallI (E32 L N) 1 2000) 1000 32 64 2 f32.c0 (rdK (E32 L N) 1000 32 64 0 κ rec)) .ret (f32.T1_r z30 z31 z32 z33 z34) (f32.H1_r z30 z31 z32 z33 z34)
    = f32.p1_r L N (f32.X0_e0 κ) (f32.X0_r κ) (f32.R0 rec) z30 z31 z32 z33 z34 := by kernel_rfl
theorem f32.s0_eq {R : Type} (L N : Nat) (κ : KX R) (rec : KT R) (s3 : LLM) (s4 : Int) (s5 : Int) (s6 : LLM) :
    evRd (E32 L N) (evCallI (E32 L N) 1 2000) 1000 32 64 0 f32.c0 κ rec (f32.T0 s3 s4 s5 s6) (f32.H0 s3 s4 s5 s6)
    = f32.s0 L N (f32.X0_e0 κ) (f32.X0_r κ) (f32.R0 rec) s3 s4 s5 s6 := by
  refine Eq.trans (b := f32.s0' L N (f32.X0_e0 κ) (f32.X0_r κ) (f32.R0 rec) (fun s7 s8 s9 s10 s11 s12 s13 s14 => evLp (E32 L N) (evCallI (E32 L N) 1 2000) 1000 32 64 2 f32.c1 (contAt (E32 L N) (evCallI (E32 L N) 1 2000) 1000 32 64 2 f32.c0 (rdK (E32 L N) 1000 32 64 0 κ rec)) L (f32.T1 s7 s8 s9 s10 s11 s12 s13 s14) (f32.H1 s7 s8 s9 s10 s11 s12 s13 s14)) s3 s4 s5 s6) (by kernel_rfl) ?_
  unfold f32.s0
  simp only [f32.l1_eq]
  delta f32.X1_e2 f32.X1_r
  simp only [f32.p1_e2_eq, f32.p1_r_eq]
theorem f32.l0_eq {R : Type} (L N : Nat) (κ : KX R) : ∀ (n : Nat) (s3 : LLM) (s4 : Int) (s5 : Int) (s6 : LLM),
    evLp (E32 L N) (evCallI (E32 L N) 1 2000) 1000 32 64 0 f32.c0 κ n (f32.T0 s3 s4 s5 s6) (f32.H0 s3 s4 s5 s6)
    = f32.l0 L N (f32.X0_e0 κ) (f32.X0_r κ) n s3 s4 s5 s6 := by
  intro n
  induction n with
  | zero => intros; rfl
  | succ n ih =>
    intro s3 s4 s5 s6
    rw [evLp_succ, f32.s0_eq]
    delta f32.R0
    simp only [ih]
    rfl
theorem f32.p0_e0_eq {R : Type} (L N : Nat) (κ : AV → Option R) :
    (contAt (E32 L N) (evCallI (E32 L N) 1 2000) 1000 32 64 0 (codeOf Try.f32) (finK (E32 L N) 1000 Try.f32 (finC (.one .bool) κ))) (.exit 0) f32.T0_e0 f32.H0_e0
    = f32.p0_e0 L N (fun a0 => κ (.tv .bool a0)) := by kernel_rfl
theorem f32.p0_r_eq {R : Type} (L N : Nat) (κ : AV → Option R) (z43 : Bool) :
    (contAt (E32 L N) (evCallI (E32 L N) 1 2000) 1000 32 64 0 (codeOf Try.f32) (finK (E32 L N) 1000 Try.f32 (finC (.one .bool) κ))) .ret (f32.T0_r z43) (f32.H0_r z43)
    = f32.p0_r L N (fun a0 => κ (.tv .bool a0)) z43 := by kernel_rfl
theorem f32.b_eq {R : Type} (L N : Nat) (κ : AV → Option R) (x0 : Graph) :
    evBody (E32 L N) (evCallI (E32 L N) 1 2000) 1000 32 Try.f32 [(.tv (.st 2) x0)] [] [] (finC (.one .bool) κ)
    = f32.b L N (fun a0 => κ (.tv .bool a0)) x0 := by
  refine Eq.trans (b := f32.b' L N (fun a0 => κ (.tv .bool a0)) (fun s3 s4 s5 s6 => evLp (E32 L N) (evCallI (E32 L N) 1 2000) 1000 32 64 0 f32.c0 (contAt (E32 L N) (evCallI (E32 L N) 1 2000) 1000 32 64 0 (codeOf Try.f32) (finK (E32 L N) 1000 Try.f32 (finC (.one .bool) κ))) L (f32.T0 s3 s4 s5 s6) (f32.H0 s3 s4 s5 s6)) x0) (by kernel_rfl) ?_
  unfold f32.b
  simp only [f32.l0_eq]
  delta f32.X0_e0 f32.X0_r
  simp only [f32.p0_e0_eq, f32.p0_r_eq]
theorem f32.ok (L N : Nat) (hΦ : TellsOk Try.prog ((Φ73 L N))) : EntOk Try.prog 32 (f32.ent L N) := entRo_ok (E := (E32 L N)) (dep := 1000) (f := Try.f32) (sound_of hΦ) okP (callI_sound (sound_of hΦ) okP 1 2000) rfl rfl fun d _ hy => (f32.b_eq L N (unR (.one .bool)) d.1).trans (Eq.trans (b := f32.b L N some d.1) (by kernel_rfl) hy)
def Φ32 (L N : Nat) : Tells := (addT (Φ73 L N) 32 (f32.ent L N))
theorem Φ32_ok (L N : Nat) : TellsOk Try.prog (Φ32 L N) := addT_ok (Φ73_ok L N) (f32.ok L N (Φ73_ok L N))
def f119.s0' {R : Type} (L N : Nat) (k0_e0 : Option R) (k0_r : Bool → Option R) (rec0 : LI → LI → Int → Int → Option R) (s0 : LI) (s1 : LI) (s2 : Int) (s3 : Int) : Option R :=
  bif (decide (s3 < s2)) then
    bif (decide (0 ≤ s3) && decide (s3 < (s0.length : Int))) then
      bif (decide (0 ≤ s3) && decide (s3 < (s1.length : Int))) then
        bif ((listAt s0 (0 : Int) s3.toNat) != (listAt s1 (0 : Int) s3.toNat)) then
          k0_r false
        else rec0 s0 s1 s2 (wi (s3 + (1 : Int)))
      else none
    else none
  else k0_e0
def f119.s0 {R : Type} (L N : Nat) (k0_e0 : Option R) (k0_r : Bool → Option R) (rec0 : LI → LI → Int → Int → Option R) (s0 : LI) (s1 : LI) (s2 : Int) (s3 : Int) : Option R :=
  f119.s0' L N k0_e0 k0_r rec0 s0 s1 s2 s3
def f119.l0 {R : Type} (L N : Nat) (k0_e0 : Option R) (k0_r : Bool → Option R) : Nat → LI → LI → Int → Int → Option R
  | 0, _, _, _, _ => none
  | n + 1, s0, s1, s2, s3 => f119.s0 L N k0_e0 k0_r (f119.l0 L N k0_e0 k0_r n) s0 s1 s2 s3
def f119.T0 (s0 : LI) (s1 : LI) (s2 : Int) (s3 : Int) : T := mkT 26 [(0, (.tv (.sl i64) s0)), (1, (.tv (.sl i64) s1)), (12, (.tv i64 s2)), (13, (.tv i64 s3))]
def f119.H0 (s0 : LI) (s1 : LI) (s2 : Int) (s3 : Int) : H := []
def f119.T0_e0 : T := mkT 26 []
def f119.H0_e0 : H := []
def f119.T0_r (z4 : Bool) : T := mkT 26 [(4, (.tv .bool z4))]
def f119.H0_r (z4 : Bool) : H := []
def f119.p0_e0' {R : Type} (L N : Nat) (k : Bool → Option R) : Option R :=
  k true
def f119.p0_e0 {R : Type} (L N : Nat) (k : Bool → Option R) : Option R :=
  f119.p0_e0' L N k
def f119.p0_r' {R : Type} (L N : Nat) (k : Bool → Option R) (z4 : Bool) : Option R :=
  k z4
def f119.p0_r {R : Type} (L N : Nat) (k : Bool → Option R) (z4 : Bool) : Option R :=
  f119.p0_r' L N k z4
def f119.b' {R : Type} (L N : Nat) (k : Bool → Option R) (w0 : LI → LI → Int → Int → Option R) (x0 : LI) (x1 : LI) : Option R :=
  bif ((x0.length : Int) != (x1.length : Int)) then
    k false
  else w0 x0 x1 (x0.length : Int) (0 : Int)
def f119.b {R : Type} (L N : Nat) (k : Bool → Option R) (x0 : LI) (x1 : LI) : Option R :=
  f119.b' L N k (fun s0 s1 s2 s3 => f119.l0 L N (f119.p0_e0 L N k) (fun z4 => f119.p0_r L N k z4) L s0 s1 s2 s3) x0 x1
def f119 (L N : Nat) (x0 : LI) (x1 : LI) : Option (Bool) := f119.b L N some x0 x1
def f119.ent (L N : Nat) := entRo [(.sl i64), (.sl i64)] (.one .bool) fun d => f119 L N d.1 d.2.1
noncomputable def E119 (L N : Nat) : Env := { P := Try.prog, ty := tyOf, Φ := (Φ32 L N), inl := inlT, live := lives, liveX := livesX, L := L, dp := none, prom := promT, heal := healT, ren := renT }
noncomputable def f119.c0 : Code := loopAt 0 (codeOf Try.f119)
def f119.X0_e0 {R : Type} (κ : KX R) := κ (.exit 0) f119.T0_e0 f119.H0_e0
def f119.X0_r {R : Type} (κ : KX R) := fun z4 => κ .ret (f119.T0_r z4) (f119.H0_r z4)
def f119.R0 {R : Type} (rec : KT R) := fun s0 s1 s2 s3 => rec (f119.T0 s0 s1 s2 s3) (f119.H0 s0 s1 s2 s3)
theorem f119.s0_eq {R : Type} (L N : Nat) (κ : KX R) (rec : KT R) (s0 : LI) (s1 : LI) (s2 : Int) (s3 : Int) :
    evRd (E119 L N) (evCallI (E119 L N) 1 2000) 1000 119 26 0 f119.c0 κ rec (f119.T0 s0 s1 s2 s3) (f119.H0 s0 s1 s2 s3)
    = f119.s0 L N (f119.X0_e0 κ) (f119.X0_r κ) (f119.R0 rec) s0 s1 s2 s3 := by kernel_rfl
theorem f119.l0_eq {R : Type} (L N : Nat) (κ : KX R) : ∀ (n : Nat) (s0 : LI) (s1 : LI) (s2 : Int) (s3 : Int),
    evLp (E119 L N) (evCallI (E119 L N) 1 2000) 1000 119 26 0 f119.c0 κ n (f119.T0 s0 s1 s2 s3) (f119.H0 s0 s1 s2 s3)
    = f119.l0 L N (f119.X0_e0 κ) (f119.X0_r κ) n s0 s1 s2 s3 := by
  intro n
  induction n with
  | zero => intros; rfl
  | succ n ih =>
    intro s0 s1 s2 s3
    rw [evLp_succ, f119.s0_eq]
    delta f119.R0
    simp only [ih]
    rfl
theorem f119.p0_e0_eq {R : Type} (L N : Nat) (κ : AV → Option R) :
    (contAt (E119 L N) (evCallI (E119 L N) 1 2000) 1000 119 26 0 (codeOf Try.f119) (finK (E119 L N) 1000 Try.f119 (finC (.one .bool) κ))) (.exit 0) f119.T0_e0 f119.H0_e0
    = f119.p0_e0 L N (fun a0 => κ (.tv .bool a0)) := by kernel_rfl
theorem f119.p0_r_eq {R : Type} (L N : Nat) (κ : AV → Option R) (z4 : Bool) :
    (contAt (E119 L N) (evCallI (E119 L N) 1 2000) 1000 119 26 0 (codeOf Try.f119) (finK (E119 L N) 1000 Try.f119 (finC (.one .bool) κ))) .ret (f119.T0_r z4) (f119.H0_r z4)
    = f119.p0_r L N (fun a0 => κ (.tv .bool a0)) z4 := by kernel_rfl
theorem f119.b_eq {R : Type} (L N : Nat) (κ : AV → Option R) (x0 : LI) (x1 : LI) :
    evBody (E119 L N) (evCallI (E119 L N) 1 2000) 1000 119 Try.f119 [(.tv (.sl i64) x0), (.tv (.sl i64) x1)] [] [] (finC (.one .bool) κ)
    = f119.b L N (fun a0 => κ (.tv .bool a0)) x0 x1 := by
  refine Eq.trans (b := f119.b' L N (fun a0 => κ (.tv .bool a0)) (fun s0 s1 s2 s3 => evLp (E119 L N) (evCallI (E119 L N) 1 2000) 1000 119 26 0 f119.c0 (contAt (E119 L N) (evCallI (E119 L N) 1 2000) 1000 119 26 0 (codeOf Try.f119) (finK (E119 L N) 1000 Try.f119 (finC (.one .bool) κ))) L (f119.T0 s0 s1 s2 s3) (f119.H0 s0 s1 s2 s3)) x0 x1) (by kernel_rfl) ?_
  unfold f119.b
  simp only [f119.l0_eq]
  delta f119.X0_e0 f119.X0_r
  simp only [f119.p0_e0_eq, f119.p0_r_eq]
theorem f119.ok (L N : Nat) (hΦ : TellsOk Try.prog ((Φ32 L N))) : EntOk Try.prog 119 (f119.ent L N) := entRo_ok (E := (E119 L N)) (dep := 1000) (f := Try.f119) (sound_of hΦ) okP (callI_sound (sound_of hΦ) okP 1 2000) rfl rfl fun d _ hy => (f119.b_eq L N (unR (.one .bool)) d.1 d.2.1).trans (Eq.trans (b := f119.b L N some d.1 d.2.1) (by kernel_rfl) hy)
def Φ119 (L N : Nat) : Tells := (addT (Φ32 L N) 119 (f119.ent L N))
theorem Φ119_ok (L N : Nat) : TellsOk Try.prog (Φ119 L N) := addT_ok (Φ32_ok L N) (f119.ok L N (Φ32_ok L N))
def f142.s0' {R : Type} (L N : Nat) (k0_e0 : Option R) (k0_r : Bool → Option R) (rec0 : LM → LM → Int → Int → Option R) (s0 : LM) (s1 : LM) (s2 : Int) (s3 : Int) : Option R :=
  bif (decide (s3 < s2)) then
    bif (decide (0 ≤ s3) && decide (s3 < (s0.length : Int))) then
      bif (decide (0 ≤ s3) && decide (s3 < (s1.length : Int))) then
        bif (!(Move.eqb (listAt s0 (Ty.dflt (.st 0)) s3.toNat) (listAt s1 (Ty.dflt (.st 0)) s3.toNat))) then
          k0_r false
        else rec0 s0 s1 s2 (wi (s3 + (1 : Int)))
      else none
    else none
  else k0_e0
def f142.s0 {R : Type} (L N : Nat) (k0_e0 : Option R) (k0_r : Bool → Option R) (rec0 : LM → LM → Int → Int → Option R) (s0 : LM) (s1 : LM) (s2 : Int) (s3 : Int) : Option R :=
  f142.s0' L N k0_e0 k0_r rec0 s0 s1 s2 s3
def f142.l0 {R : Type} (L N : Nat) (k0_e0 : Option R) (k0_r : Bool → Option R) : Nat → LM → LM → Int → Int → Option R
  | 0, _, _, _, _ => none
  | n + 1, s0, s1, s2, s3 => f142.s0 L N k0_e0 k0_r (f142.l0 L N k0_e0 k0_r n) s0 s1 s2 s3
def f142.T0 (s0 : LM) (s1 : LM) (s2 : Int) (s3 : Int) : T := mkT 26 [(0, (.tv (.sl (.st 0)) s0)), (1, (.tv (.sl (.st 0)) s1)), (12, (.tv i64 s2)), (13, (.tv i64 s3))]
def f142.H0 (s0 : LM) (s1 : LM) (s2 : Int) (s3 : Int) : H := []
def f142.T0_e0 : T := mkT 26 []
def f142.H0_e0 : H := []
def f142.T0_r (z4 : Bool) : T := mkT 26 [(4, (.tv .bool z4))]
def f142.H0_r (z4 : Bool) : H := []
def f142.p0_e0' {R : Type} (L N : Nat) (k : Bool → Option R) : Option R :=
  k true
def f142.p0_e0 {R : Type} (L N : Nat) (k : Bool → Option R) : Option R :=
  f142.p0_e0' L N k
def f142.p0_r' {R : Type} (L N : Nat) (k : Bool → Option R) (z4 : Bool) : Option R :=
  k z4
def f142.p0_r {R : Type} (L N : Nat) (k : Bool → Option R) (z4 : Bool) : Option R :=
  f142.p0_r' L N k z4
def f142.b' {R : Type} (L N : Nat) (k : Bool → Option R) (w0 : LM → LM → Int → Int → Option R) (x0 : LM) (x1 : LM) : Option R :=
  bif ((x0.length : Int) != (x1.length : Int)) then
    k false
  else w0 x0 x1 (x0.length : Int) (0 : Int)
def f142.b {R : Type} (L N : Nat) (k : Bool → Option R) (x0 : LM) (x1 : LM) : Option R :=
  f142.b' L N k (fun s0 s1 s2 s3 => f142.l0 L N (f142.p0_e0 L N k) (fun z4 => f142.p0_r L N k z4) L s0 s1 s2 s3) x0 x1
def f142 (L N : Nat) (x0 : LM) (x1 : LM) : Option (Bool) := f142.b L N some x0 x1
def f142.ent (L N : Nat) := entRo [(.sl (.st 0)), (.sl (.st 0))] (.one .bool) fun d => f142 L N d.1 d.2.1
noncomputable def E142 (L N : Nat) : Env := { P := Try.prog, ty := tyOf, Φ := (Φ119 L N), inl := inlT, live := lives, liveX := livesX, L := L, dp := none, prom := promT, heal := healT, ren := renT }
noncomputable def f142.c0 : Code := loopAt 0 (codeOf Try.f142)
def f142.X0_e0 {R : Type} (κ : KX R) := κ (.exit 0) f142.T0_e0 f142.H0_e0
def f142.X0_r {R : Type} (κ : KX R) := fun z4 => κ .ret (f142.T0_r z4) (f142.H0_r z4)
def f142.R0 {R : Type} (rec : KT R) := fun s0 s1 s2 s3 => rec (f142.T0 s0 s1 s2 s3) (f142.H0 s0 s1 s2 s3)
theorem f142.s0_eq {R : Type} (L N : Nat) (κ : KX R) (rec : KT R) (s0 : LM) (s1 : LM) (s2 : Int) (s3 : Int) :
    evRd (E142 L N) (evCallI (E142 L N) 1 2000) 1000 142 26 0 f142.c0 κ rec (f142.T0 s0 s1 s2 s3) (f142.H0 s0 s1 s2 s3)
    = f142.s0 L N (f142.X0_e0 κ) (f142.X0_r κ) (f142.R0 rec) s0 s1 s2 s3 := by kernel_rfl
theorem f142.l0_eq {R : Type} (L N : Nat) (κ : KX R) : ∀ (n : Nat) (s0 : LM) (s1 : LM) (s2 : Int) (s3 : Int),
    evLp (E142 L N) (evCallI (E142 L N) 1 2000) 1000 142 26 0 f142.c0 κ n (f142.T0 s0 s1 s2 s3) (f142.H0 s0 s1 s2 s3)
    = f142.l0 L N (f142.X0_e0 κ) (f142.X0_r κ) n s0 s1 s2 s3 := by
  intro n
  induction n with
  | zero => intros; rfl
  | succ n ih =>
    intro s0 s1 s2 s3
    rw [evLp_succ, f142.s0_eq]
    delta f142.R0
    simp only [ih]
    rfl
theorem f142.p0_e0_eq {R : Type} (L N : Nat) (κ : AV → Option R) :
    (contAt (E142 L N) (evCallI (E142 L N) 1 2000) 1000 142 26 0 (codeOf Try.f142) (finK (E142 L N) 1000 Try.f142 (finC (.one .bool) κ))) (.exit 0) f142.T0_e0 f142.H0_e0
    = f142.p0_e0 L N (fun a0 => κ (.tv .bool a0)) := by kernel_rfl
theorem f142.p0_r_eq {R : Type} (L N : Nat) (κ : AV → Option R) (z4 : Bool) :
    (contAt (E142 L N) (evCallI (E142 L N) 1 2000) 1000 142 26 0 (codeOf Try.f142) (finK (E142 L N) 1000 Try.f142 (finC (.one .bool) κ))) .ret (f142.T0_r z4) (f142.H0_r z4)
    = f142.p0_r L N (fun a0 => κ (.tv .bool a0)) z4 := by kernel_rfl
theorem f142.b_eq {R : Type} (L N : Nat) (κ : AV → Option R) (x0 : LM) (x1 : LM) :
    evBody (E142 L N) (evCallI (E142 L N) 1 2000) 1000 142 Try.f142 [(.tv (.sl (.st 0)) x0), (.tv (.sl (.st 0)) x1)] [] [] (finC (.one .bool) κ)
    = f142.b L N (fun a0 => κ (.tv .bool a0)) x0 x1 := by
  refine Eq.trans (b := f142.b' L N (fun a0 => κ (.tv .bool a0)) (fun s0 s1 s2 s3 => evLp (E142 L N) (evCallI (E142 L N) 1 2000) 1000 142 26 0 f142.c0 (contAt (E142 L N) (evCallI (E142 L N) 1 2000) 1000 142 26 0 (codeOf Try.f142) (finK (E142 L N) 1000 Try.f142 (finC (.one .bool) κ))) L (f142.T0 s0 s1 s2 s3) (f142.H0 s0 s1 s2 s3)) x0 x1) (by kernel_rfl) ?_
  unfold f142.b
  simp only [f142.l0_eq]
  delta f142.X0_e0 f142.X0_r
  simp only [f142.p0_e0_eq, f142.p0_r_eq]
theorem f142.ok (L N : Nat) (hΦ : TellsOk Try.prog ((Φ119 L N))) : EntOk Try.prog 142 (f142.ent L N) := entRo_ok (E := (E142 L N)) (dep := 1000) (f := Try.f142) (sound_of hΦ) okP (callI_sound (sound_of hΦ) okP 1 2000) rfl rfl fun d _ hy => (f142.b_eq L N (unR (.one .bool)) d.1 d.2.1).trans (Eq.trans (b := f142.b L N some d.1 d.2.1) (by kernel_rfl) hy)
def Φ142 (L N : Nat) : Tells := (addT (Φ119 L N) 142 (f142.ent L N))
theorem Φ142_ok (L N : Nat) : TellsOk Try.prog (Φ142 L N) := addT_ok (Φ119_ok L N) (f142.ok L N (Φ119_ok L N))
def f83.j0' {R : Type} (L N : Nat) (k1_e2 : LI → Int → Int → LLM → LM → (List (Int × Bool)) → LI → Option R) (rec1 : LI → Int → Int → LM → Int → Int → LLM → LM → (List (Int × Bool)) → LI → Option R) (v25 : LI) (v26 : Int) (v27 : Int) (v28 : LM) (v29 : Int) (v30 : Int) (v31 : Bool) (v32 : LLM) (v33 : Int) (v34 : Int) (v35 : LM) (v36 : (List (Int × Bool))) (v37 : LI) : Option R :=
  bif v31 then
    bif (decide (0 ≤ v34) && decide (v34 < (v25.length : Int))) then
      bif (decide (v35.length + ([(Move.mk v33 (listAt v25 (0 : Int) v34.toNat))] : LM).length ≤ lim)) then
        rec1 v25 v26 v27 v28 v29 (wi (v30 + (1 : Int))) v32 (v35 ++ ([(Move.mk v33 (listAt v25 (0 : Int) v34.toNat))] : LM)) v36 v37
      else none
    else none
  else bif (!((mapFind i64 .bool v34 v36).getD (Ty.dflt .bool))) then
    bif (decide (v37.length + ([v34] : LI).length ≤ lim)) then
      rec1 v25 v26 v27 v28 v29 (wi (v30 + (1 : Int))) v32 v35 (mapPut i64 .bool v34 true v36) (v37 ++ ([v34] : LI))
    else none
  else rec1 v25 v26 v27 v28 v29 (wi (v30 + (1 : Int))) v32 v35 v36 v37
def f83.s1' {R : Type} (L N : Nat) (k1_e2 : LI → Int → Int → LLM → LM → (List (Int × Bool)) → LI → Option R) (rec1 : LI → Int → Int → LM → Int → Int → LLM → LM → (List (Int × Bool)) → LI → Option R) (s8 : LI) (s9 : Int) (s10 : Int) (s11 : LM) (s12 : Int) (s13 : Int) (s14 : LLM) (s15 : LM) (s16 : (List (Int × Bool))) (s17 : LI) : Option R :=
  bif (decide (s13 < s12)) then
    bif (decide (0 ≤ s13) && decide (s13 < (s11.length : Int))) then
      bif ((listAt s11 (Ty.dflt (.st 0)) s13.toNat).act != (0 : Int)) then
        f83.j0' L N k1_e2 rec1 s8 s9 s10 s11 s12 s13 true s14 ((listAt s11 (Ty.dflt (.st 0)) s13.toNat).act) ((listAt s11 (Ty.dflt (.st 0)) s13.toNat).to) s15 s16 s17
      else bif (decide (0 ≤ (listAt s11 (Ty.dflt (.st 0)) s13.toNat).to) && decide ((listAt s11 (Ty.dflt (.st 0)) s13.toNat).to < (s8.length : Int))) then
        bif (decide (0 ≤ s9) && decide (s9 < (s8.length : Int))) then
          f83.j0' L N k1_e2 rec1 s8 s9 s10 s11 s12 s13 ((listAt s8 (0 : Int) ((listAt s11 (Ty.dflt (.st 0)) s13.toNat).to).toNat) != (listAt s8 (0 : Int) s9.toNat)) s14 ((listAt s11 (Ty.dflt (.st 0)) s13.toNat).act) ((listAt s11 (Ty.dflt (.st 0)) s13.toNat).to) s15 s16 s17
        else none
      else none
    else none
  else k1_e2 s8 s9 s10 s14 s15 s16 s17
def f83.s1 {R : Type} (L N : Nat) (k1_e2 : LI → Int → Int → LLM → LM → (List (Int × Bool)) → LI → Option R) (rec1 : LI → Int → Int → LM → Int → Int → LLM → LM → (List (Int × Bool)) → LI → Option R) (s8 : LI) (s9 : Int) (s10 : Int) (s11 : LM) (s12 : Int) (s13 : Int) (s14 : LLM) (s15 : LM) (s16 : (List (Int × Bool))) (s17 : LI) : Option R :=
  f83.s1' L N k1_e2 rec1 s8 s9 s10 s11 s12 s13 s14 s15 s16 s17
def f83.l1 {R : Type} (L N : Nat) (k1_e2 : LI → Int → Int → LLM → LM → (List (Int × Bool)) → LI → Option R) : Nat → LI → Int → Int → LM → Int → Int → LLM → LM → (List (Int × Bool)) → LI → Option R
  | 0, _, _, _, _, _, _, _, _, _, _ => none
  | n + 1, s8, s9, s10, s11, s12, s13, s14, s15, s16, s17 => f83.s1 L N k1_e2 (f83.l1 L N k1_e2 n) s8 s9 s10 s11 s12 s13 s14 s15 s16 s17
def f83.T1 (s8 : LI) (s9 : Int) (s10 : Int) (s11 : LM) (s12 : Int) (s13 : Int) (s14 : LLM) (s15 : LM) (s16 : (List (Int × Bool))) (s17 : LI) : T := mkT 80 [(1, (.tv (.sl i64) s8)), (2, (.tv i64 s9)), (3, (.ptr 1003 0)), (7, (.row 1013)), (8, (.mp 1014)), (9, (.row 1018)), (10, (.tv i64 s10)), (32, (.tv (.sl (.st 0)) s11)), (33, (.tv i64 s12)), (34, (.tv i64 s13))]
def f83.H1 (s8 : LI) (s9 : Int) (s10 : Int) (s11 : LM) (s12 : Int) (s13 : Int) (s14 : LLM) (s15 : LM) (s16 : (List (Int × Bool))) (s17 : LI) : H := [(1003, (.box [(.tv (.sl (.sl (.st 0))) s14)])), (1013, (.row 53 (.st 0) s15)), (1014, (.map i64 .bool s16)), (1018, (.row 3 i64 s17))]
def f83.T1_e2 (z18 : LI) (z19 : Int) (z20 : Int) (z21 : LLM) (z22 : LM) (z23 : (List (Int × Bool))) (z24 : LI) : T := mkT 80 [(1, (.tv (.sl i64) z18)), (2, (.tv i64 z19)), (3, (.ptr 1003 0)), (7, (.row 1013)), (8, (.mp 1014)), (9, (.row 1018)), (10, (.tv i64 z20))]
def f83.H1_e2 (z18 : LI) (z19 : Int) (z20 : Int) (z21 : LLM) (z22 : LM) (z23 : (List (Int × Bool))) (z24 : LI) : H := [(1003, (.box [(.tv (.sl (.sl (.st 0))) z21)])), (1013, (.row 53 (.st 0) z22)), (1014, (.map i64 .bool z23)), (1018, (.row 3 i64 z24))]
def f83.p1_e2' {R : Type} (L N : Nat) (k0_e0 : LM → Option R) (rec0 : LI → Int → Int → LLM → LM → (List (Int × Bool)) → LI → Option R) (z18 : LI) (z19 : Int) (z20 : Int) (z21 : LLM) (z22 : LM) (z23 : (List (Int × Bool))) (z24 : LI) : Option R :=
  rec0 z18 z19 (wi (z20 + (1 : Int))) z21 z22 z23 z24
def f83.p1_e2 {R : Type} (L N : Nat) (k0_e0 : LM → Option R) (rec0 : LI → Int → Int → LLM → LM → (List (Int × Bool)) → LI → Option R) (z18 : LI) (z19 : Int) (z20 : Int) (z21 : LLM) (z22 : LM) (z23 : (List (Int × Bool))) (z24 : LI) : Option R :=
  f83.p1_e2' L N k0_e0 rec0 z18 z19 z20 z21 z22 z23 z24
def f83.s0' {R : Type} (L N : Nat) (k0_e0 : LM → Option R) (rec0 : LI → Int → Int → LLM → LM → (List (Int × Bool)) → LI → Option R) (w1 : LI → Int → Int → LM → Int → Int → LLM → LM → (List (Int × Bool)) → LI → Option R) (s0 : LI) (s1 : Int) (s2 : Int) (s3 : LLM) (s4 : LM) (s5 : (List (Int × Bool))) (s6 : LI) : Option R :=
  bif (decide (s2 < (s6.length : Int))) then
    bif (decide (0 ≤ s2) && decide (s2 < (s6.length : Int))) then
      bif (decide (0 ≤ (listAt s6 (0 : Int) s2.toNat)) && decide ((listAt s6 (0 : Int) s2.toNat) < (s3.length : Int))) then
        w1 s0 s1 s2 (listAt s3 [] (listAt s6 (0 : Int) s2.toNat).toNat) ((listAt s3 [] (listAt s6 (0 : Int) s2.toNat).toNat).length : Int) (0 : Int) s3 s4 s5 s6
      else none
    else none
  else k0_e0 s4
def f83.s0 {R : Type} (L N : Nat) (k0_e0 : LM → Option R) (rec0 : LI → Int → Int → LLM → LM → (List (Int × Bool)) → LI → Option R) (s0 : LI) (s1 : Int) (s2 : Int) (s3 : LLM) (s4 : LM) (s5 : (List (Int × Bool))) (s6 : LI) : Option R :=
  f83.s0' L N k0_e0 rec0 (fun s8 s9 s10 s11 s12 s13 s14 s15 s16 s17 => f83.l1 L N (fun z18 z19 z20 z21 z22 z23 z24 => f83.p1_e2 L N k0_e0 rec0 z18 z19 z20 z21 z22 z23 z24) L s8 s9 s10 s11 s12 s13 s14 s15 s16 s17) s0 s1 s2 s3 s4 s5 s6
def f83.l0 {R : Type} (L N : Nat) (k0_e0 : LM → Option R) : Nat → LI → Int → Int → LLM → LM → (List (Int × Bool)) → LI → Option R
  | 0, _, _, _, _, _, _, _ => none
  | n + 1, s0, s1, s2, s3, s4, s5, s6 => f83.s0 L N k0_e0 (f83.l0 L N k0_e0 n) s0 s1 s2 s3 s4 s5 s6
def f83.T0 (s0 : LI) (s1 : Int) (s2 : Int) (s3 : LLM) (s4 : LM) (s5 : (List (Int × Bool))) (s6 : LI) : T := mkT 80 [(1, (.tv (.sl i64) s0)), (2, (.tv i64 s1)), (3, (.ptr 1003 0)), (7, (.row 1013)), (8, (.mp 1014)), (9, (.row 1018)), (10, (.tv i64 s2))]
def f83.H0 (s0 : LI) (s1 : Int) (s2 : Int) (s3 : LLM) (s4 : LM) (s5 : (List (Int × Bool))) (s6 : LI) : H := [(1003, (.box [(.tv (.sl (.sl (.st 0))) s3)])), (1013, (.row 53 (.st 0) s4)), (1014, (.map i64 .bool s5)), (1018, (.row 3 i64 s6))]
def f83.T0_e0 (z7 : LM) : T := mkT 80 [(7, (.row 1013))]
def f83.H0_e0 (z7 : LM) : H := [(1013, (.row 53 (.st 0) z7))]
def f83.p0_e0' {R : Type} (L N : Nat) (k : LM → Option R) (z7 : LM) : Option R :=
  ((fsortM z7)).bind fun y48 =>
  k (tidyM z7)
def f83.p0_e0 {R : Type} (L N : Nat) (k : LM → Option R) (z7 : LM) : Option R :=
  f83.p0_e0' L N k z7
def f83.b' {R : Type} (L N : Nat) (k : LM → Option R) (w0 : LI → Int → Int → LLM → LM → (List (Int × Bool)) → LI → Option R) (x0 : Graph) (x1 : LI) (x2 : Int) : Option R :=
  w0 x1 x2 (0 : Int) x0.moves ([] : LM) (mapPut i64 .bool x2 true ([] : (List (Int × Bool)))) ([x2] : LI)
def f83.b {R : Type} (L N : Nat) (k : LM → Option R) (x0 : Graph) (x1 : LI) (x2 : Int) : Option R :=
  f83.b' L N k (fun s0 s1 s2 s3 s4 s5 s6 => f83.l0 L N (fun z7 => f83.p0_e0 L N k z7) L s0 s1 s2 s3 s4 s5 s6) x0 x1 x2
def f83 (L N : Nat) (x0 : Graph) (x1 : LI) (x2 : Int) : Option (LM) := f83.b L N some x0 x1 x2
def f83.ent (L N : Nat) := entDa [(.st 2), (.sl i64), i64] (.one (.sl (.st 0))) fun d => f83 L N d.1 d.2.1 d.2.2.1
noncomputable def E83 (L N : Nat) : Env := { P := Try.prog, ty := tyOf, Φ := (Φ142 L N), inl := inlT, live := lives, liveX := livesX, L := L, dp := none, prom := promT, heal := healT, ren := renT }
noncomputable def f83.c0 : Code := loopAt 0 (codeOf Try.f83)
noncomputable def f83.c1 : Code := loopAt 2 f83.c0
def f83.X1_e2 {R : Type} (κ : KX R) := fun z18 z19 z20 z21 z22 z23 z24 => κ (.exit 2) (f83.T1_e2 z18 z19 z20 z21 z22 z23 z24) (f83.H1_e2 z18 z19 z20 z21 z22 z23 z24)
def f83.R1 {R : Type} (rec : KT R) := fun s8 s9 s10 s11 s12 s13 s14 s15 s16 s17 => rec (f83.T1 s8 s9 s10 s11 s12 s13 s14 s15 s16 s17) (f83.H1 s8 s9 s10 s11 s12 s13 s14 s15 s16 s17)
theorem f83.s1_eq {R : Type} (L N : Nat) (κ : KX R) (rec : KT R) (s8 : LI) (s9 : Int) (s10 : Int) (s11 : LM) (s12 : Int) (s13 : Int) (s14 : LLM) (s15 : LM) (s16 : (List (Int × Bool))) (s17 : LI) :
    evRd (E83 L N) (evCallI (E83 L N) 1 2000) 1000 83 80 2 f83.c1 κ rec (f83.T1 s8 s9 s10 s11 s12 s13 s14 s15 s16 s17) (f83.H1 s8 s9 s10 s11 s12 s13 s14 s15 s16 s17)
    = f83.s1 L N (f83.X1_e2 κ) (f83.R1 rec) s8 s9 s10 s11 s12 s13 s14 s15 s16 s17 := by kernel_rfl
theorem f83.l1_eq {R : Type} (L N : Nat) (κ : KX R) : ∀ (n : Nat) (s8 : LI) (s9 : Int) (s10 : Int) (s11 : LM) (s12 : Int) (s13 : Int) (s14 : LLM) (s15 : LM) (s16 : (List (Int × Bool))) (s17 : LI),
    evLp (E83 L N) (evCallI (E83 L N) 1 2000) 1000 83 80 2 f83.c1 κ n (f83.T1 s8 s9 s10 s11 s12 s13 s14 s15 s16 s17) (f83.H1 s8 s9 s10 s11 s12 s13 s14 s15 s16 s17)
    = f83.l1 L N (f83.X1_e2 κ) n s8 s9 s10 s11 s12 s13 s14 s15 s16 s17 := by
  intro n
  induction n with
  | zero => intros; rfl
  | succ n ih =>
    intro s8 s9 s10 s11 s12 s13 s14 s15 s16 s17
    rw [evLp_succ, f83.s1_eq]
    delta f83.R1
    simp only [ih]
    rfl
def f83.X0_e0 {R : Type} (κ : KX R) := fun z7 => κ (.exit 0) (f83.T0_e0 z7) (f83.H0_e0 z7)
def f83.R0 {R : Type} (rec : KT R) := fun s0 s1 s2 s3 s4 s5 s6 => rec (f83.T0 s0 s1 s2 s3 s4 s5 s6) (f83.H0 s0 s1 s2 s3 s4 s5 s6)
theorem f83.p1_e2_eq {R : Type} (L N : Nat) (κ : KX R) (rec : KT R) (z18 : LI) (z19 : Int) (z20 : Int) (z21 : LLM) (z22 : LM) (z23 : (List (Int × Bool))) (z24 : LI) :
    (contAt (E83 L N) (evCallI (E83 L N) 1 2000) 1000 83 80 2 f83.c0 (rdK (E83 L N) 1000 83 80 0 κ rec)) (.exit 2) (f83.T1_e2 z18 z19 z20 z21 z22 z23 z24) (f83.H1_e2 z18 z19 z20 z21 z22 z23 z24)
    = f83.p1_e2 L N (f83.X0_e0 κ) (f83.R0 rec) z18 z19 z20 z21 z22 z23 z24 := by kernel_rfl
theorem f83.s0_eq {R : Type} (L N : Nat) (κ : KX R) (rec : KT R) (s0 : LI) (s1 : Int) (s2 : Int) (s3 : LLM) (s4 : LM) (s5 : (List (Int × Bool))) (s6 : LI) :
    evRd (E83 L N) (evCallI (E83 L N) 1 2000) 1000 83 80 0 f83.c0 κ rec (f83.T0 s0 s1 s2 s3 s4 s5 s6) (f83.H0 s0 s1 s2 s3 s4 s5 s6)
    = f83.s0 L N (f83.X0_e0 κ) (f83.R0 rec) s0 s1 s2 s3 s4 s5 s6 := by
  refine Eq.trans (b := f83.s0' L N (f83.X0_e0 κ) (f83.R0 rec) (fun s8 s9 s10 s11 s12 s13 s14 s15 s16 s17 => evLp (E83 L N) (evCallI (E83 L N) 1 2000) 1000 83 80 2 f83.c1 (contAt (E83 L N) (evCallI (E83 L N) 1 2000) 1000 83 80 2 f83.c0 (rdK (E83 L N) 1000 83 80 0 κ rec)) L (f83.T1 s8 s9 s10 s11 s12 s13 s14 s15 s16 s17) (f83.H1 s8 s9 s10 s11 s12 s13 s14 s15 s16 s17)) s0 s1 s2 s3 s4 s5 s6) (by kernel_rfl) ?_
  unfold f83.s0
  simp only [f83.l1_eq]
  delta f83.X1_e2
  simp only [f83.p1_e2_eq]
theorem f83.l0_eq {R : Type} (L N : Nat) (κ : KX R) : ∀ (n : Nat) (s0 : LI) (s1 : Int) (s2 : Int) (s3 : LLM) (s4 : LM) (s5 : (List (Int × Bool))) (s6 : LI),
    evLp (E83 L N) (evCallI (E83 L N) 1 2000) 1000 83 80 0 f83.c0 κ n (f83.T0 s0 s1 s2 s3 s4 s5 s6) (f83.H0 s0 s1 s2 s3 s4 s5 s6)
    = f83.l0 L N (f83.X0_e0 κ) n s0 s1 s2 s3 s4 s5 s6 := by
  intro n
  induction n with
  | zero => intros; rfl
  | succ n ih =>
    intro s0 s1 s2 s3 s4 s5 s6
    rw [evLp_succ, f83.s0_eq]
    delta f83.R0
    simp only [ih]
    rfl
theorem f83.p0_e0_eq {R : Type} (L N : Nat) (κ : AV → Option R) (z7 : LM) :
    (contAt (E83 L N) (evCallI (E83 L N) 1 2000) 1000 83 80 0 (codeOf Try.f83) (finK (E83 L N) 1000 Try.f83 (finC (.one (.sl (.st 0))) κ))) (.exit 0) (f83.T0_e0 z7) (f83.H0_e0 z7)
    = f83.p0_e0 L N (fun a0 => κ (.tv (.sl (.st 0)) a0)) z7 := by kernel_rfl
theorem f83.b_eq {R : Type} (L N : Nat) (κ : AV → Option R) (x0 : Graph) (x1 : LI) (x2 : Int) :
    evBody (E83 L N) (evCallI (E83 L N) 1 2000) 1000 83 Try.f83 [(.tv (.st 2) x0), (.tv (.sl i64) x1), (.tv i64 x2)] [] [] (finC (.one (.sl (.st 0))) κ)
    = f83.b L N (fun a0 => κ (.tv (.sl (.st 0)) a0)) x0 x1 x2 := by
  refine Eq.trans (b := f83.b' L N (fun a0 => κ (.tv (.sl (.st 0)) a0)) (fun s0 s1 s2 s3 s4 s5 s6 => evLp (E83 L N) (evCallI (E83 L N) 1 2000) 1000 83 80 0 f83.c0 (contAt (E83 L N) (evCallI (E83 L N) 1 2000) 1000 83 80 0 (codeOf Try.f83) (finK (E83 L N) 1000 Try.f83 (finC (.one (.sl (.st 0))) κ))) L (f83.T0 s0 s1 s2 s3 s4 s5 s6) (f83.H0 s0 s1 s2 s3 s4 s5 s6)) x0 x1 x2) (by kernel_rfl) ?_
  unfold f83.b
  simp only [f83.l0_eq]
  delta f83.X0_e0
  simp only [f83.p0_e0_eq]
theorem f83.ok (L N : Nat) (hΦ : TellsOk Try.prog ((Φ142 L N))) : EntOk Try.prog 83 (f83.ent L N) := entDa_ok (E := (E83 L N)) (dep := 1000) (f := Try.f83) (sound_of hΦ) okP (callI_sound (sound_of hΦ) okP 1 2000) rfl fun d _ hy => (f83.b_eq L N (unR (.one (.sl (.st 0)))) d.1 d.2.1 d.2.2.1).trans (Eq.trans (b := f83.b L N some d.1 d.2.1 d.2.2.1) (by kernel_rfl) hy)
def Φ83 (L N : Nat) : Tells := (addT (Φ142 L N) 83 (f83.ent L N))
theorem Φ83_ok (L N : Nat) : TellsOk Try.prog (Φ83 L N) := addT_ok (Φ142_ok L N) (f83.ok L N (Φ142_ok L N))
def f82_1.b' {R : Type} (L N : Nat) (k : LM → Option R) (x0 : LI) (x1 : Int) (x2 : LLM) : Option R :=
  (f83 L N (Graph.mk x2) x0 x1).bind fun y0 =>
  k y0
def f82_1.b {R : Type} (L N : Nat) (k : LM → Option R) (x0 : LI) (x1 : Int) (x2 : LLM) : Option R :=
  f82_1.b' L N k x0 x1 x2
def f82_1 (L N : Nat) (x0 : LI) (x1 : Int) (x2 : LLM) : Option (LM) := f82_1.b L N some x0 x1 x2
def f82_1.ent (L N : Nat) := entDf [(.dat (.sl i64)), (.dat i64), (.imp (.sl (.sl (.st 0))) 0)] (.one (.sl (.st 0))) fun d => f82_1 L N d.1 d.2.1 d.2.2.1
noncomputable def E82_1 (L N : Nat) : Env := { P := Try.prog, ty := tyOf, Φ := (Φ83 L N), inl := inlT, live := lives, liveX := livesX, L := L, dp := none, prom := promT, heal := healT, ren := renT }
theorem f82_1.b_eq {R : Type} (L N : Nat) (κ : AV → Option R) (x0 : LI) (x1 : Int) (x2 : LLM) :
    evBody (E82_1 L N) (evCallI (E82_1 L N) 1 2000) 1000 82 Try.f82 [(.tv (.sl i64) x0), (.tv i64 x1), (.imp (.sl (.sl (.st 0))) x2 0)] [] [] (finC (.one (.sl (.st 0))) κ)
    = f82_1.b L N (fun a0 => κ (.tv (.sl (.st 0)) a0)) x0 x1 x2 := by kernel_rfl
theorem f82_1.ok (L N : Nat) (hΦ : TellsOk Try.prog ((Φ83 L N))) : EntOkO Try.prog 82 (f82_1.ent L N) := entDf_ok (E := (E82_1 L N)) (dep := 1000) (f := Try.f82) (sound_of hΦ) okP (callI_sound (sound_of hΦ) okP 1 2000) rfl fun d _ hy => (f82_1.b_eq L N (unR (.one (.sl (.st 0)))) d.1 d.2.1 d.2.2.1).trans (Eq.trans (b := f82_1.b L N some d.1 d.2.1 d.2.2.1) (by kernel_rfl) hy)
def Φ82_1 (L N : Nat) : Tells := (addO (Φ83 L N) 82 (f82_1.ent L N))
theorem Φ82_1_ok (L N : Nat) : TellsOk Try.prog (Φ82_1 L N) := addO_ok (Φ83_ok L N) (f82_1.ok L N (Φ83_ok L N))
def f118_1.b' {R : Type} (L N : Nat) (k : LM → Option R) (x0 : Int) (x1 : LLM) (x2 : LI) : Option R :=
  (f82_1 L N x2 x0 x1).bind fun y0 =>
  k y0
def f118_1.b {R : Type} (L N : Nat) (k : LM → Option R) (x0 : Int) (x1 : LLM) (x2 : LI) : Option R :=
  f118_1.b' L N k x0 x1 x2
def f118_1 (L N : Nat) (x0 : Int) (x1 : LLM) (x2 : LI) : Option (LM) := f118_1.b L N some x0 x1 x2
def f118_1.ent (L N : Nat) := entDf [(.dat i64), (.pfn 82 [(.imp (.sl (.sl (.st 0))) 0)]), (.imp (.sl i64) 0)] (.one (.sl (.st 0))) fun d => f118_1 L N d.1 d.2.1.1 d.2.2.1
noncomputable def E118_1 (L N : Nat) : Env := { P := Try.prog, ty := tyOf, Φ := (Φ82_1 L N), inl := inlT, live := lives, liveX := livesX, L := L, dp := none, prom := promT, heal := healT, ren := renT }
theorem f118_1.b_eq {R : Type} (L N : Nat) (κ : AV → Option R) (x0 : Int) (x1 : LLM) (x2 : LI) :
    evBody (E118_1 L N) (evCallI (E118_1 L N) 1 2000) 1000 118 Try.f118 [(.tv i64 x0), (.imf 82 [(.imp (.sl (.sl (.st 0))) x1 0)]), (.imp (.sl i64) x2 0)] [] [] (finC (.one (.sl (.st 0))) κ)
    = f118_1.b L N (fun a0 => κ (.tv (.sl (.st 0)) a0)) x0 x1 x2 := by kernel_rfl
theorem f118_1.ok (L N : Nat) (hΦ : TellsOk Try.prog ((Φ82_1 L N))) : EntOkO Try.prog 118 (f118_1.ent L N) := entDf_ok (E := (E118_1 L N)) (dep := 1000) (f := Try.f118) (sound_of hΦ) okP (callI_sound (sound_of hΦ) okP 1 2000) rfl fun d _ hy => (f118_1.b_eq L N (unR (.one (.sl (.st 0)))) d.1 d.2.1.1 d.2.2.1).trans (Eq.trans (b := f118_1.b L N some d.1 d.2.1.1 d.2.2.1) (by kernel_rfl) hy)
def Φ118_1 (L N : Nat) : Tells := (addO (Φ82_1 L N) 118 (f118_1.ent L N))
theorem Φ118_1_ok (L N : Nat) : TellsOk Try.prog (Φ118_1 L N) := addO_ok (Φ82_1_ok L N) (f118_1.ok L N (Φ82_1_ok L N))
def f117_1.j0' {R : Type} (L N : Nat) (k1_e2 : LI → LLM → LI → Int → Int → LI → LLM → Option R) (rec1 : LI → LLM → LI → Int → Int → Int → Int → LI → LLM → Option R) (v26 : LI) (v27 : LLM) (v28 : LI) (v29 : Int) (v30 : Int) (v31 : Int) (v32 : Int) (v33 : Bool) (v34 : LI) (v35 : LLM) : Option R :=
  bif v33 then
    bif (decide (0 ≤ v29) && decide (v29 < (v34.length : Int))) then
      k1_e2 v26 v27 v28 v31 v32 (v34.set v29.toNat v30) v35
    else none
  else rec1 v26 v27 v28 v29 (wi (v30 + (1 : Int))) v31 v32 v34 v35
def f117_1.s1' {R : Type} (L N : Nat) (k1_e2 : LI → LLM → LI → Int → Int → LI → LLM → Option R) (rec1 : LI → LLM → LI → Int → Int → Int → Int → LI → LLM → Option R) (s9 : LI) (s10 : LLM) (s11 : LI) (s12 : Int) (s13 : Int) (s14 : Int) (s15 : Int) (s16 : LI) (s17 : LLM) : Option R :=
  bif (decide (s13 < s12)) then
    bif (decide (0 ≤ s13) && decide (s13 < (s9.length : Int))) then
      bif (decide (0 ≤ s12) && decide (s12 < (s9.length : Int))) then
        bif ((listAt s9 (0 : Int) s13.toNat) == (listAt s9 (0 : Int) s12.toNat)) then
          bif (decide (0 ≤ s13) && decide (s13 < (s17.length : Int))) then
            bif (decide (0 ≤ s12) && decide (s12 < (s17.length : Int))) then
              (f142 L N (listAt s17 [] s13.toNat) (listAt s17 [] s12.toNat)).bind fun y25 =>
              f117_1.j0' L N k1_e2 rec1 s9 s10 s11 s12 s13 s14 s15 y25 s16 s17
            else none
          else none
        else f117_1.j0' L N k1_e2 rec1 s9 s10 s11 s12 s13 s14 s15 false s16 s17
      else none
    else none
  else k1_e2 s9 s10 s11 s14 s15 s16 s17
def f117_1.s1 {R : Type} (L N : Nat) (k1_e2 : LI → LLM → LI → Int → Int → LI → LLM → Option R) (rec1 : LI → LLM → LI → Int → Int → Int → Int → LI → LLM → Option R) (s9 : LI) (s10 : LLM) (s11 : LI) (s12 : Int) (s13 : Int) (s14 : Int) (s15 : Int) (s16 : LI) (s17 : LLM) : Option R :=
  f117_1.s1' L N k1_e2 rec1 s9 s10 s11 s12 s13 s14 s15 s16 s17
def f117_1.l1 {R : Type} (L N : Nat) (k1_e2 : LI → LLM → LI → Int → Int → LI → LLM → Option R) : Nat → LI → LLM → LI → Int → Int → Int → Int → LI → LLM → Option R
  | 0, _, _, _, _, _, _, _, _, _ => none
  | n + 1, s9, s10, s11, s12, s13, s14, s15, s16, s17 => f117_1.s1 L N k1_e2 (f117_1.l1 L N k1_e2 n) s9 s10 s11 s12 s13 s14 s15 s16 s17
def f117_1.T1 (s9 : LI) (s10 : LLM) (s11 : LI) (s12 : Int) (s13 : Int) (s14 : Int) (s15 : Int) (s16 : LI) (s17 : LLM) : T := mkT 61 [(0, (.tv (.sl i64) s9)), (1, (.fn 118 [(.imf 82 [(.imp (.sl (.sl (.st 0))) s10 0)]), (.imp (.sl i64) s11 0)])), (5, (.row 1011)), (6, (.row 1014)), (7, (.tv i64 s12)), (8, (.tv i64 s13)), (16, (.tv i64 s14)), (17, (.tv i64 s15))]
def f117_1.H1 (s9 : LI) (s10 : LLM) (s11 : LI) (s12 : Int) (s13 : Int) (s14 : Int) (s15 : Int) (s16 : LI) (s17 : LLM) : H := [(1011, (.row 3 i64 s16)), (1014, (.row 51 (.sl (.st 0)) s17))]
def f117_1.T1_e2 (z18 : LI) (z19 : LLM) (z20 : LI) (z21 : Int) (z22 : Int) (z23 : LI) (z24 : LLM) : T := mkT 61 [(0, (.tv (.sl i64) z18)), (1, (.fn 118 [(.imf 82 [(.imp (.sl (.sl (.st 0))) z19 0)]), (.imp (.sl i64) z20 0)])), (5, (.row 1011)), (6, (.row 1014)), (16, (.tv i64 z21)), (17, (.tv i64 z22))]
def f117_1.H1_e2 (z18 : LI) (z19 : LLM) (z20 : LI) (z21 : Int) (z22 : Int) (z23 : LI) (z24 : LLM) : H := [(1011, (.row 3 i64 z23)), (1014, (.row 51 (.sl (.st 0)) z24))]
def f117_1.p1_e2' {R : Type} (L N : Nat) (k0_e0 : LI → Option R) (rec0 : LI → LLM → LI → Int → Int → LI → LLM → Option R) (z18 : LI) (z19 : LLM) (z20 : LI) (z21 : Int) (z22 : Int) (z23 : LI) (z24 : LLM) : Option R :=
  rec0 z18 z19 z20 z21 (wi (z22 + (1 : Int))) z23 z24
def f117_1.p1_e2 {R : Type} (L N : Nat) (k0_e0 : LI → Option R) (rec0 : LI → LLM → LI → Int → Int → LI → LLM → Option R) (z18 : LI) (z19 : LLM) (z20 : LI) (z21 : Int) (z22 : Int) (z23 : LI) (z24 : LLM) : Option R :=
  f117_1.p1_e2' L N k0_e0 rec0 z18 z19 z20 z21 z22 z23 z24
def f117_1.s0' {R : Type} (L N : Nat) (k0_e0 : LI → Option R) (rec0 : LI → LLM → LI → Int → Int → LI → LLM → Option R) (w1 : LI → LLM → LI → Int → Int → Int → Int → LI → LLM → Option R) (s0 : LI) (s1 : LLM) (s2 : LI) (s3 : Int) (s4 : Int) (s5 : LI) (s6 : LLM) : Option R :=
  bif (decide (s4 < s3)) then
    (f118_1 L N s4 s1 s2).bind fun y8 =>
    bif (decide (0 ≤ s4) && decide (s4 < (s6.length : Int))) then
      bif (decide (0 ≤ s4) && decide (s4 < (s5.length : Int))) then
        w1 s0 s1 s2 s4 (0 : Int) s3 s4 (s5.set s4.toNat s4) (s6.set s4.toNat y8)
      else none
    else none
  else k0_e0 s5
def f117_1.s0 {R : Type} (L N : Nat) (k0_e0 : LI → Option R) (rec0 : LI → LLM → LI → Int → Int → LI → LLM → Option R) (s0 : LI) (s1 : LLM) (s2 : LI) (s3 : Int) (s4 : Int) (s5 : LI) (s6 : LLM) : Option R :=
  f117_1.s0' L N k0_e0 rec0 (fun s9 s10 s11 s12 s13 s14 s15 s16 s17 => f117_1.l1 L N (fun z18 z19 z20 z21 z22 z23 z24 => f117_1.p1_e2 L N k0_e0 rec0 z18 z19 z20 z21 z22 z23 z24) L s9 s10 s11 s12 s13 s14 s15 s16 s17) s0 s1 s2 s3 s4 s5 s6
def f117_1.l0 {R : Type} (L N : Nat) (k0_e0 : LI → Option R) : Nat → LI → LLM → LI → Int → Int → LI → LLM → Option R
  | 0, _, _, _, _, _, _, _ => none
  | n + 1, s0, s1, s2, s3, s4, s5, s6 => f117_1.s0 L N k0_e0 (f117_1.l0 L N k0_e0 n) s0 s1 s2 s3 s4 s5 s6
def f117_1.T0 (s0 : LI) (s1 : LLM) (s2 : LI) (s3 : Int) (s4 : Int) (s5 : LI) (s6 : LLM) : T := mkT 61 [(0, (.tv (.sl i64) s0)), (1, (.fn 118 [(.imf 82 [(.imp (.sl (.sl (.st 0))) s1 0)]), (.imp (.sl i64) s2 0)])), (5, (.row 1011)), (6, (.row 1014)), (16, (.tv i64 s3)), (17, (.tv i64 s4))]
def f117_1.H0 (s0 : LI) (s1 : LLM) (s2 : LI) (s3 : Int) (s4 : Int) (s5 : LI) (s6 : LLM) : H := [(1011, (.row 3 i64 s5)), (1014, (.row 51 (.sl (.st 0)) s6))]
def f117_1.T0_e0 (z7 : LI) : T := mkT 61 [(5, (.row 1011))]
def f117_1.H0_e0 (z7 : LI) : H := [(1011, (.row 3 i64 z7))]
def f117_1.p0_e0' {R : Type} (L N : Nat) (k : LI → Option R) (z7 : LI) : Option R :=
  k z7
def f117_1.p0_e0 {R : Type} (L N : Nat) (k : LI → Option R) (z7 : LI) : Option R :=
  f117_1.p0_e0' L N k z7
def f117_1.b' {R : Type} (L N : Nat) (k : LI → Option R) (w0 : LI → LLM → LI → Int → Int → LI → LLM → Option R) (x0 : LI) (x1 : LLM) (x2 : LI) : Option R :=
  bif (decide (0 ≤ (x0.length : Int)) && decide ((x0.length : Int) ≤ (lim : Int))) then
    bif (decide (0 ≤ (x0.length : Int)) && decide ((x0.length : Int) ≤ (lim : Int))) then
      w0 x0 x1 x2 (x0.length : Int) (0 : Int) (List.replicate (x0.length : Int).toNat (0 : Int)) (List.replicate (x0.length : Int).toNat [])
    else none
  else none
def f117_1.b {R : Type} (L N : Nat) (k : LI → Option R) (x0 : LI) (x1 : LLM) (x2 : LI) : Option R :=
  f117_1.b' L N k (fun s0 s1 s2 s3 s4 s5 s6 => f117_1.l0 L N (fun z7 => f117_1.p0_e0 L N k z7) L s0 s1 s2 s3 s4 s5 s6) x0 x1 x2
def f117_1 (L N : Nat) (x0 : LI) (x1 : LLM) (x2 : LI) : Option (LI) := f117_1.b L N some x0 x1 x2
def f117_1.ent (L N : Nat) (args : List AV) (vw : View) (site : Nat) : Option Ans := match shD [(.dat (.sl i64)), (.fn 118 [(.pfn 82 [(.imp (.sl (.sl (.st 0))) 0)]), (.imp (.sl i64) 0)])] vw args with
  | some d => some ⟨LI, f117_1 L N d.1 d.2.1.1.1 d.2.1.2.1, fun y => (RN.av site .row (), [(site, some (mkO none 3 i64 y))], [])⟩
  | none => none
noncomputable def E117_1 (L N : Nat) : Env := { P := Try.prog, ty := tyOf, Φ := (Φ118_1 L N), inl := inlT, live := lives, liveX := livesX, L := L, dp := none, prom := promT, heal := healT, ren := renT }
noncomputable def f117_1.c0 : Code := loopAt 0 (codeOf Try.f117)
noncomputable def f117_1.c1 : Code := loopAt 2 f117_1.c0
def f117_1.X1_e2 {R : Type} (κ : KX R) := fun z18 z19 z20 z21 z22 z23 z24 => κ (.exit 2) (f117_1.T1_e2 z18 z19 z20 z21 z22 z23 z24) (f117_1.H1_e2 z18 z19 z20 z21 z22 z23 z24)
def f117_1.R1 {R : Type} (rec : KT R) := fun s9 s10 s11 s12 s13 s14 s15 s16 s17 => rec (f117_1.T1 s9 s10 s11 s12 s13 s14 s15 s16 s17) (f117_1.H1 s9 s10 s11 s12 s13 s14 s15 s16 s17)
theorem f117_1.s1_eq {R : Type} (L N : Nat) (κ : KX R) (rec : KT R) (s9 : LI) (s10 : LLM) (s11 : LI) (s12 : Int) (s13 : Int) (s14 : Int) (s15 : Int) (s16 : LI) (s17 : LLM) :
    evRd (E117_1 L N) (evCallI (E117_1 L N) 1 2000) 1000 117 61 2 f117_1.c1 κ rec (f117_1.T1 s9 s10 s11 s12 s13 s14 s15 s16 s17) (f117_1.H1 s9 s10 s11 s12 s13 s14 s15 s16 s17)
    = f117_1.s1 L N (f117_1.X1_e2 κ) (f117_1.R1 rec) s9 s10 s11 s12 s13 s14 s15 s16 s17 := by kernel_rfl
theorem f117_1.l1_eq {R : Type} (L N : Nat) (κ : KX R) : ∀ (n : Nat) (s9 : LI) (s10 : LLM) (s11 : LI) (s12 : Int) (s13 : Int) (s14 : Int) (s15 : Int) (s16 : LI) (s17 : LLM),
    evLp (E117_1 L N) (evCallI (E117_1 L N) 1 2000) 1000 117 61 2 f117_1.c1 κ n (f117_1.T1 s9 s10 s11 s12 s13 s14 s15 s16 s17) (f117_1.H1 s9 s10 s11 s12 s13 s14 s15 s16 s17)
    = f117_1.l1 L N (f117_1.X1_e2 κ) n s9 s10 s11 s12 s13 s14 s15 s16 s17 := by
  intro n
  induction n with
  | zero => intros; rfl
  | succ n ih =>
    intro s9 s10 s11 s12 s13 s14 s15 s16 s17
    rw [evLp_succ, f117_1.s1_eq]
    delta f117_1.R1
    simp only [ih]
    rfl
def f117_1.X0_e0 {R : Type} (κ : KX R) := fun z7 => κ (.exit 0) (f117_1.T0_e0 z7) (f117_1.H0_e0 z7)
def f117_1.R0 {R : Type} (rec : KT R) := fun s0 s1 s2 s3 s4 s5 s6 => rec (f117_1.T0 s0 s1 s2 s3 s4 s5 s6) (f117_1.H0 s0 s1 s2 s3 s4 s5 s6)
theorem f117_1.p1_e2_eq {R : Type} (L N : Nat) (κ : KX R) (rec : KT R) (z18 : LI) (z19 : LLM) (z20 : LI) (z21 : Int) (z22 : Int) (z23 : LI) (z24 : LLM) :
    (contAt (E117_1 L N) (evCallI (E117_1 L N) 1 2000) 1000 117 61 2 f117_1.c0 (rdK (E117_1 L N) 1000 117 61 0 κ rec)) (.exit 2) (f117_1.T1_e2 z18 z19 z20 z21 z22 z23 z24) (f117_1.H1_e2 z18 z19 z20 z21 z22 z23 z24)
    = f117_1.p1_e2 L N (f117_1.X0_e0 κ) (f117_1.R0 rec) z18 z19 z20 z21 z22 z23 z24 := by kernel_rfl
theorem f117_1.s0_eq {R : Type} (L N : Nat) (κ : KX R) (rec : KT R) (s0 : LI) (s1 : LLM) (s2 : LI) (s3 : Int) (s4 : Int) (s5 : LI) (s6 : LLM) :
    evRd (E117_1 L N) (evCallI (E117_1 L N) 1 2000) 1000 117 61 0 f117_1.c0 κ rec (f117_1.T0 s0 s1 s2 s3 s4 s5 s6) (f117_1.H0 s0 s1 s2 s3 s4 s5 s6)
    = f117_1.s0 L N (f117_1.X0_e0 κ) (f117_1.R0 rec) s0 s1 s2 s3 s4 s5 s6 := by
  refine Eq.trans (b := f117_1.s0' L N (f117_1.X0_e0 κ) (f117_1.R0 rec) (fun s9 s10 s11 s12 s13 s14 s15 s16 s17 => evLp (E117_1 L N) (evCallI (E117_1 L N) 1 2000) 1000 117 61 2 f117_1.c1 (contAt (E117_1 L N) (evCallI (E117_1 L N) 1 2000) 1000 117 61 2 f117_1.c0 (rdK (E117_1 L N) 1000 117 61 0 κ rec)) L (f117_1.T1 s9 s10 s11 s12 s13 s14 s15 s16 s17) (f117_1.H1 s9 s10 s11 s12 s13 s14 s15 s16 s17)) s0 s1 s2 s3 s4 s5 s6) (by kernel_rfl) ?_
  unfold f117_1.s0
  simp only [f117_1.l1_eq]
  delta f117_1.X1_e2
  simp only [f117_1.p1_e2_eq]
theorem f117_1.l0_eq {R : Type} (L N : Nat) (κ : KX R) : ∀ (n : Nat) (s0 : LI) (s1 : LLM) (s2 : LI) (s3 : Int) (s4 : Int) (s5 : LI) (s6 : LLM),
    evLp (E117_1 L N) (evCallI (E117_1 L N) 1 2000) 1000 117 61 0 f117_1.c0 κ n (f117_1.T0 s0 s1 s2 s3 s4 s5 s6) (f117_1.H0 s0 s1 s2 s3 s4 s5 s6)
    = f117_1.l0 L N (f117_1.X0_e0 κ) n s0 s1 s2 s3 s4 s5 s6 := by
  intro n
  induction n with
  | zero => intros; rfl
  | succ n ih =>
    intro s0 s1 s2 s3 s4 s5 s6
    rw [evLp_succ, f117_1.s0_eq]
    delta f117_1.R0
    simp only [ih]
    rfl
theorem f117_1.p0_e0_eq {R : Type} (L N : Nat) (κ : RN.Den .row → List Int → Option R) (z7 : LI) :
    (contAt (E117_1 L N) (evCallI (E117_1 L N) 1 2000) 1000 117 61 0 (codeOf Try.f117) (finK (E117_1 L N) 1000 Try.f117 (finN .row none 3 i64 κ))) (.exit 0) (f117_1.T0_e0 z7) (f117_1.H0_e0 z7)
    = f117_1.p0_e0 L N (fun a0 => κ () a0) z7 := by kernel_rfl
theorem f117_1.b_eq {R : Type} (L N : Nat) (κ : RN.Den .row → List Int → Option R) (x0 : LI) (x1 : LLM) (x2 : LI) :
    evBody (E117_1 L N) (evCallI (E117_1 L N) 1 2000) 1000 117 Try.f117 [(.tv (.sl i64) x0), (.fn 118 [(.imf 82 [(.imp (.sl (.sl (.st 0))) x1 0)]), (.imp (.sl i64) x2 0)])] [] [] (finN .row none 3 i64 κ)
    = f117_1.b L N (fun a0 => κ () a0) x0 x1 x2 := by
  refine Eq.trans (b := f117_1.b' L N (fun a0 => κ () a0) (fun s0 s1 s2 s3 s4 s5 s6 => evLp (E117_1 L N) (evCallI (E117_1 L N) 1 2000) 1000 117 61 0 f117_1.c0 (contAt (E117_1 L N) (evCallI (E117_1 L N) 1 2000) 1000 117 61 0 (codeOf Try.f117) (finK (E117_1 L N) 1000 Try.f117 (finN .row none 3 i64 κ))) L (f117_1.T0 s0 s1 s2 s3 s4 s5 s6) (f117_1.H0 s0 s1 s2 s3 s4 s5 s6)) x0 x1 x2) (by kernel_rfl) ?_
  unfold f117_1.b
  simp only [f117_1.l0_eq]
  delta f117_1.X0_e0
  simp only [f117_1.p0_e0_eq]
theorem f117_1.ok (L N : Nat) (hΦ : TellsOk Try.prog ((Φ118_1 L N))) : EntOkO Try.prog 117 (f117_1.ent L N) := by
  intro args vw site h a ha
  unfold f117_1.ent at ha
  split at ha
  · rename_i d hd
    obtain rfl := Option.some.inj ha
    intro y hy hs
    refine call_ronF (y := y) (dep := 1000) (E := (E117_1 L N)) (rn := .row) (q := none) (el := 3) (ty := i64) (d1 := ()) (xs := y) (κ := (fun d xs => some xs)) (sound_of hΦ) okP (callI_sound (sound_of hΦ) okP 1 2000) (f := Try.f117) rfl hs hd ?_ (fun _ _ h => by obtain rfl := Option.some.inj h; exact ⟨rfl, rfl⟩) rfl site
    exact (f117_1.b_eq L N (fun d xs => some xs) d.1 d.2.1.1.1 d.2.1.2.1).trans (Eq.trans (b := f117_1.b L N some d.1 d.2.1.1.1 d.2.1.2.1) (by kernel_rfl) hy)
  · cases ha
def Φ117_1 (L N : Nat) : Tells := (addO (Φ118_1 L N) 117 (f117_1.ent L N))
theorem Φ117_1_ok (L N : Nat) : TellsOk Try.prog (Φ117_1 L N) := addO_ok (Φ118_1_ok L N) (f117_1.ok L N (Φ118_1_ok L N))
def f81_1.s0' {R : Type} (L N : Nat) (k0_r : LLI → Option R) (rec0 : LLM → LLI → Option R) (s0 : LLM) (s1 : LLI) : Option R :=
  bif (decide (0 ≤ (wi ((s1.length : Int) - (1 : Int)))) && decide ((wi ((s1.length : Int) - (1 : Int))) < (s1.length : Int))) then
    (f117_1 L N (listAt s1 [] (wi ((s1.length : Int) - (1 : Int))).toNat) s0 (listAt s1 [] (wi ((s1.length : Int) - (1 : Int))).toNat)).bind fun y2 =>
    (f119 L N y2 (listAt s1 [] (wi ((s1.length : Int) - (1 : Int))).toNat)).bind fun y3 =>
    bif y3 then
      k0_r s1
    else bif (decide (s1.length + ([y2] : LLI).length ≤ lim)) then
      rec0 s0 (s1 ++ ([y2] : LLI))
    else none
  else none
def f81_1.s0 {R : Type} (L N : Nat) (k0_r : LLI → Option R) (rec0 : LLM → LLI → Option R) (s0 : LLM) (s1 : LLI) : Option R :=
  f81_1.s0' L N k0_r rec0 s0 s1
def f81_1.l0 {R : Type} (L N : Nat) (k0_r : LLI → Option R) : Nat → LLM → LLI → Option R
  | 0, _, _ => none
  | n + 1, s0, s1 => f81_1.s0 L N k0_r (f81_1.l0 L N k0_r n) s0 s1
def f81_1.T0 (s0 : LLM) (s1 : LLI) : T := mkT 28 [(3, (.ptr 1003 0)), (5, (.row 1010))]
def f81_1.H0 (s0 : LLM) (s1 : LLI) : H := [(1003, (.box [(.fn 82 [(.imp (.sl (.sl (.st 0))) s0 0)])])), (1010, (.row 30 (.sl i64) s1))]
def f81_1.T0_r (z4 : LLI) : T := mkT 28 [(4, (.row 1010))]
def f81_1.H0_r (z4 : LLI) : H := [(1010, (.row 30 (.sl i64) z4))]
def f81_1.p0_r' {R : Type} (L N : Nat) (k : LLI → Option R) (z4 : LLI) : Option R :=
  k z4
def f81_1.p0_r {R : Type} (L N : Nat) (k : LLI → Option R) (z4 : LLI) : Option R :=
  f81_1.p0_r' L N k z4
def f81_1.b' {R : Type} (L N : Nat) (k : LLI → Option R) (w0 : LLM → LLI → Option R) (x0 : Int) (x1 : LLM) : Option R :=
  bif (decide (0 ≤ x0) && decide (x0 ≤ (lim : Int))) then
    w0 x1 ([(List.replicate x0.toNat (0 : Int))] : LLI)
  else none
def f81_1.b {R : Type} (L N : Nat) (k : LLI → Option R) (x0 : Int) (x1 : LLM) : Option R :=
  f81_1.b' L N k (fun s0 s1 => f81_1.l0 L N (fun z4 => f81_1.p0_r L N k z4) L s0 s1) x0 x1
def f81_1 (L N : Nat) (x0 : Int) (x1 : LLM) : Option (LLI) := f81_1.b L N some x0 x1
def f81_1.ent (L N : Nat) := entDf [(.dat i64), (.fn 82 [(.imp (.sl (.sl (.st 0))) 0)])] (.one (.sl (.sl i64))) fun d => f81_1 L N d.1 d.2.1.1
noncomputable def E81_1 (L N : Nat) : Env := { P := Try.prog, ty := tyOf, Φ := (Φ117_1 L N), inl := inlT, live := lives, liveX := livesX, L := L, dp := none, prom := promT, heal := healT, ren := renT }
noncomputable def f81_1.c0 : Code := loopAt 0 (codeOf Try.f81)
def f81_1.X0_r {R : Type} (κ : KX R) := fun z4 => κ .ret (f81_1.T0_r z4) (f81_1.H0_r z4)
def f81_1.R0 {R : Type} (rec : KT R) := fun s0 s1 => rec (f81_1.T0 s0 s1) (f81_1.H0 s0 s1)
theorem f81_1.s0_eq {R : Type} (L N : Nat) (κ : KX R) (rec : KT R) (s0 : LLM) (s1 : LLI) :
    evRd (E81_1 L N) (evCallI (E81_1 L N) 1 2000) 1000 81 28 0 f81_1.c0 κ rec (f81_1.T0 s0 s1) (f81_1.H0 s0 s1)
    = f81_1.s0 L N (f81_1.X0_r κ) (f81_1.R0 rec) s0 s1 := by kernel_rfl
theorem f81_1.l0_eq {R : Type} (L N : Nat) (κ : KX R) : ∀ (n : Nat) (s0 : LLM) (s1 : LLI),
    evLp (E81_1 L N) (evCallI (E81_1 L N) 1 2000) 1000 81 28 0 f81_1.c0 κ n (f81_1.T0 s0 s1) (f81_1.H0 s0 s1)
    = f81_1.l0 L N (f81_1.X0_r κ) n s0 s1 := by
  intro n
  induction n with
  | zero => intros; rfl
  | succ n ih =>
    intro s0 s1
    rw [evLp_succ, f81_1.s0_eq]
    delta f81_1.R0
    simp only [ih]
    rfl
theorem f81_1.p0_r_eq {R : Type} (L N : Nat) (κ : AV → Option R) (z4 : LLI) :
    (contAt (E81_1 L N) (evCallI (E81_1 L N) 1 2000) 1000 81 28 0 (codeOf Try.f81) (finK (E81_1 L N) 1000 Try.f81 (finC (.one (.sl (.sl i64))) κ))) .ret (f81_1.T0_r z4) (f81_1.H0_r z4)
    = f81_1.p0_r L N (fun a0 => κ (.tv (.sl (.sl i64)) a0)) z4 := by kernel_rfl
theorem f81_1.b_eq {R : Type} (L N : Nat) (κ : AV → Option R) (x0 : Int) (x1 : LLM) :
    evBody (E81_1 L N) (evCallI (E81_1 L N) 1 2000) 1000 81 Try.f81 [(.tv i64 x0), (.fn 82 [(.imp (.sl (.sl (.st 0))) x1 0)])] [] [] (finC (.one (.sl (.sl i64))) κ)
    = f81_1.b L N (fun a0 => κ (.tv (.sl (.sl i64)) a0)) x0 x1 := by
  refine Eq.trans (b := f81_1.b' L N (fun a0 => κ (.tv (.sl (.sl i64)) a0)) (fun s0 s1 => evLp (E81_1 L N) (evCallI (E81_1 L N) 1 2000) 1000 81 28 0 f81_1.c0 (contAt (E81_1 L N) (evCallI (E81_1 L N) 1 2000) 1000 81 28 0 (codeOf Try.f81) (finK (E81_1 L N) 1000 Try.f81 (finC (.one (.sl (.sl i64))) κ))) L (f81_1.T0 s0 s1) (f81_1.H0 s0 s1)) x0 x1) (by kernel_rfl) ?_
  unfold f81_1.b
  simp only [f81_1.l0_eq]
  delta f81_1.X0_r
  simp only [f81_1.p0_r_eq]
theorem f81_1.ok (L N : Nat) (hΦ : TellsOk Try.prog ((Φ117_1 L N))) : EntOkO Try.prog 81 (f81_1.ent L N) := entDf_ok (E := (E81_1 L N)) (dep := 1000) (f := Try.f81) (sound_of hΦ) okP (callI_sound (sound_of hΦ) okP 1 2000) rfl fun d _ hy => (f81_1.b_eq L N (unR (.one (.sl (.sl i64)))) d.1 d.2.1.1).trans (Eq.trans (b := f81_1.b L N some d.1 d.2.1.1) (by kernel_rfl) hy)
def Φ81_1 (L N : Nat) : Tells := (addO (Φ117_1 L N) 81 (f81_1.ent L N))
theorem Φ81_1_ok (L N : Nat) : TellsOk Try.prog (Φ81_1 L N) := addO_ok (Φ117_1_ok L N) (f81_1.ok L N (Φ117_1_ok L N))
def f41.b' {R : Type} (L N : Nat) (k : LI → Option R) (x0 : Graph) : Option R :=
  (f32 L N (Graph.mk x0.moves)).bind fun y0 =>
  bif (!y0) then
    k []
  else (f81_1 L N (x0.moves.length : Int) x0.moves).bind fun y1 =>
  bif (decide (0 ≤ (wi ((y1.length : Int) - (1 : Int)))) && decide ((wi ((y1.length : Int) - (1 : Int))) < (y1.length : Int))) then
    ((fclone (listAt y1 [] (wi ((y1.length : Int) - (1 : Int))).toNat))).bind fun y2 =>
    k (listAt y1 [] (wi ((y1.length : Int) - (1 : Int))).toNat)
  else none
def f41.b {R : Type} (L N : Nat) (k : LI → Option R) (x0 : Graph) : Option R :=
  f41.b' L N k x0
def f41 (L N : Nat) (x0 : Graph) : Option (LI) := f41.b L N some x0
def f41.ent (L N : Nat) (args : List AV) (vw : View) (site : Nat) : Ans := match roD [(.st 2)] vw args with
  | some d => ⟨LI, f41 L N d.1, fun y => (RN.av site .row (), [(site, some (mkO none 3 i64 y))], [])⟩
  | none => Ans.no
noncomputable def E41 (L N : Nat) : Env := { P := Try.prog, ty := tyOf, Φ := (Φ81_1 L N), inl := inlT, live := lives, liveX := livesX, L := L, dp := none, prom := promT, heal := healT, ren := renT }
theorem f41.b_eq {R : Type} (L N : Nat) (κ : RN.Den .row → List Int → Option R) (x0 : Graph) :
    evBody (E41 L N) (evCallI (E41 L N) 1 2000) 1000 41 Try.f41 [(.tv (.st 2) x0)] [] [] (finN .row none 3 i64 κ)
    = f41.b L N (fun a0 => κ () a0) x0 := by kernel_rfl
theorem f41.ok (L N : Nat) (hΦ : TellsOk Try.prog ((Φ81_1 L N))) : EntOk Try.prog 41 (f41.ent L N) := by
  intro args vw site h
  unfold f41.ent
  split
  · rename_i d ha
    intro y hy hs
    refine call_ron (y := y) (dep := 1000) (E := (E41 L N)) (ts := [(.st 2)]) (rn := .row) (q := none) (el := 3) (ty := i64) (d1 := ()) (xs := y) (κ := (fun d xs => some xs)) (sound_of hΦ) okP (callI_sound (sound_of hΦ) okP 1 2000) (f := Try.f41) rfl hs ha ?_ (fun _ _ h => by obtain rfl := Option.some.inj h; exact ⟨rfl, rfl⟩) rfl site
    exact (f41.b_eq L N (fun d xs => some xs) d.1).trans (Eq.trans (b := f41.b L N some d.1) (by kernel_rfl) hy)
  · intro y hy
    cases hy
def Φ41 (L N : Nat) : Tells := (addT (Φ81_1 L N) 41 (f41.ent L N))
theorem Φ41_ok (L N : Nat) : TellsOk Try.prog (Φ41 L N) := addT_ok (Φ81_1_ok L N) (f41.ok L N (Φ81_1_ok L N))
def f68.b' {R : Type} (L N : Nat) (k : LI → Int → Option R) (x0 : LI) : Option R :=
  bif (decide ((x0.length : Int) > (2000 : Int))) then
    bif (slB (0 : Int) (2000 : Int) x0.length) then
      k (slX x0 (0 : Int) (2000 : Int)) (0 : Int)
    else none
  else k x0 (0 : Int)
def f68.b {R : Type} (L N : Nat) (k : LI → Int → Option R) (x0 : LI) : Option R :=
  f68.b' L N k x0
def f68 (L N : Nat) (x0 : LI) : Option (LI × Int) := f68.b L N (fun a0 a1 => some (a0, a1)) x0
def f68.ent (L N : Nat) (args : List AV) (vw : View) (site : Nat) : Ans := match coeD [(.sl (.int .u8))] vw args with
  | some (d, u) => ⟨LI × Int, f68 L N d.1, fun y => (.ptr site 0, u ++ [(site, some (.box [(.tv (.sl (.int .u8)) y.1), (.tv i64 y.2)]))], [])⟩
  | none => Ans.no
noncomputable def E68 (L N : Nat) : Env := { P := Try.prog, ty := tyOf, Φ := (Φ41 L N), inl := inlT, live := lives, liveX := livesX, L := L, dp := none, prom := promT, heal := healT, ren := renT }
theorem f68.b_eq {R : Type} (L N : Nat) (κ : Dens [(.sl (.int .u8)), i64] → Option R) (x0 : LI) :
    evBody (E68 L N) (evCallI (E68 L N) 1 2000) 1000 68 Try.f68 [(.tv (.sl (.int .u8)) x0)] [] [] (finB [(.sl (.int .u8)), i64] κ)
    = f68.b L N (fun a0 a1 => κ (a0, a1, ())) x0 := by kernel_rfl
theorem f68.ok (L N : Nat) (hΦ : TellsOk Try.prog ((Φ41 L N))) : EntOk Try.prog 68 (f68.ent L N) := by
  intro args vw site h
  unfold f68.ent
  split
  · rename_i d u ha
    intro y hy hs
    refine call_newbox (y := y) (dep := 1000) (d1 := (y.1, y.2, ())) (E := (E68 L N)) (ts := [(.sl (.int .u8))]) (tb := [(.sl (.int .u8)), i64]) (κ := (fun d => some (d.1, d.2.1))) (sound_of hΦ) okP (callI_sound (sound_of hΦ) okP 1 2000) (f := Try.f68) rfl hs ha ?_ (fun _ h => by obtain rfl := Option.some.inj h; rfl) site
    exact (f68.b_eq L N (fun d => some (d.1, d.2.1)) d.1).trans (Eq.trans (b := f68.b L N (fun a0 a1 => some (a0, a1)) d.1) (by kernel_rfl) hy)
  · intro y hy
    cases hy
def Φ68 (L N : Nat) : Tells := (addT (Φ41 L N) 68 (f68.ent L N))
theorem Φ68_ok (L N : Nat) : TellsOk Try.prog (Φ68 L N) := addT_ok (Φ41_ok L N) (f68.ok L N (Φ41_ok L N))
def f91.j0' {R : Type} (L N : Nat) (k : Int → LI → Int → Option R) (v4 : Int) (v5 : LI) (v6 : Int) : Option R :=
  bif (decide ((wi (v6 - (1 : Int))) < (v5.length : Int))) then
    bif (decide (0 ≤ (wi (v6 - (1 : Int)))) && decide ((wi (v6 - (1 : Int))) < (v5.length : Int))) then
      bif (decide (v4 = 0)) then
        none
      else k (Int.tmod (wi ((listAt v5 (0 : Int) (wi (v6 - (1 : Int))).toNat))) v4) v5 v6
    else none
  else bif (decide ((v5.length : Int) = 0)) then
    none
  else bif (decide (0 ≤ (Int.tmod (wi (v6 - (1 : Int))) (v5.length : Int))) && decide ((Int.tmod (wi (v6 - (1 : Int))) (v5.length : Int)) < (v5.length : Int))) then
    bif (decide ((v5.length : Int) = 0)) then
      none
    else bif (decide (0 ≤ (Int.tmod (wi ((wi ((wi (v6 - (1 : Int))) * (7 : Int))) + (3 : Int))) (v5.length : Int))) && decide ((Int.tmod (wi ((wi ((wi (v6 - (1 : Int))) * (7 : Int))) + (3 : Int))) (v5.length : Int)) < (v5.length : Int))) then
      bif (decide ((v5.length : Int) = 0)) then
        none
      else bif (decide ((64 : Int) = 0)) then
        none
      else bif (decide (v4 = 0)) then
        none
      else k (Int.tmod (IntKind.wrap .i64 ((BitVec.ofInt (IntKind.bits .i64) (wi ((wi ((wi ((wi ((wi ((listAt v5 (0 : Int) (Int.tmod (wi (v6 - (1 : Int))) (v5.length : Int)).toNat))) * (131 : Int))) + (wi ((wi ((listAt v5 (0 : Int) (Int.tmod (wi ((wi ((wi (v6 - (1 : Int))) * (7 : Int))) + (3 : Int))) (v5.length : Int)).toNat))) * (1117 : Int))))) + (wi ((wi (v6 - (1 : Int))) * (29 : Int))))) + (wi ((wi (Int.tdiv (wi (v6 - (1 : Int))) (v5.length : Int))) * (53 : Int))))) ^^^ BitVec.ofInt (IntKind.bits .i64) (wi (Int.tdiv (wi ((wi ((wi ((wi ((wi ((listAt v5 (0 : Int) (Int.tmod (wi (v6 - (1 : Int))) (v5.length : Int)).toNat))) * (131 : Int))) + (wi ((wi ((listAt v5 (0 : Int) (Int.tmod (wi ((wi ((wi (v6 - (1 : Int))) * (7 : Int))) + (3 : Int))) (v5.length : Int)).toNat))) * (1117 : Int))))) + (wi ((wi (v6 - (1 : Int))) * (29 : Int))))) + (wi ((wi (Int.tdiv (wi (v6 - (1 : Int))) (v5.length : Int))) * (53 : Int))))) (64 : Int)))).toNat)) v4) v5 v6
    else none
  else none
def f91.b' {R : Type} (L N : Nat) (k : Int → LI → Int → Option R) (c0 : LI) (c1 : Int) (x0 : Int) : Option R :=
  bif (decide (x0 < (1 : Int))) then
    k (0 : Int) c0 (wi (c1 + (1 : Int)))
  else bif ((c0.length : Int) == (0 : Int)) then
    k (0 : Int) c0 (wi (c1 + (1 : Int)))
  else f91.j0' L N k x0 c0 (wi (c1 + (1 : Int)))
def f91.b {R : Type} (L N : Nat) (k : Int → LI → Int → Option R) (c0 : LI) (c1 : Int) (x0 : Int) : Option R :=
  f91.b' L N k c0 c1 x0
def f91 (L N : Nat) (c0 : LI) (c1 : Int) (x0 : Int) : Option (Int × LI × Int) := f91.b L N (fun a0 a1 a2 => some (a0, a1, a2)) c0 c1 x0
def f91.ent (L N : Nat) (args : List AV) (vw : View) (site : Nat) : Ans := match boxD [(.sl (.int .u8)), i64] [i64] vw args with
  | some (o, d0, d, u) => ⟨Int × LI × Int, f91 L N d0.1 d0.2.1 d.1, fun y => ((.tv i64 y.1), u ++ [(o, some (.box [(.tv (.sl (.int .u8)) y.2.1), (.tv i64 y.2.2)]))], [])⟩
  | none => Ans.no
noncomputable def E91 (L N : Nat) : Env := { P := Try.prog, ty := tyOf, Φ := (Φ68 L N), inl := inlT, live := lives, liveX := livesX, L := L, dp := none, prom := promT, heal := healT, ren := renT }
theorem f91.b_eq {R : Type} (L N : Nat) (κ : AV → Dens [(.sl (.int .u8)), i64] → Option R) (c0 : LI) (c1 : Int) (x0 : Int) :
    evBody (E91 L N) (evCallI (E91 L N) 1 2000) 1000 91 Try.f91 [(.ptr 0 0), (.tv i64 x0)] [.ptr 0 0] [(0, (.box [(.tv (.sl (.int .u8)) c0), (.tv i64 c1)]))] (finM (.one i64) [(.sl (.int .u8)), i64] κ)
    = f91.b L N (fun a0 a1 a2 => κ (.tv i64 a0) (a1, a2, ())) c0 c1 x0 := by kernel_rfl
theorem f91.ok (L N : Nat) (hΦ : TellsOk Try.prog ((Φ68 L N))) : EntOk Try.prog 91 (f91.ent L N) := by
  intro args vw site h
  unfold f91.ent
  split
  · rename_i o d0 d u ha
    intro y hy hs
    obtain ⟨rest, cs, rfl, ho, hd0, hr, hu⟩ := boxD_some ha
    refine call_box (y := y) (dep := 1000) (v' := (.tv i64 y.1)) (d1 := (y.2.1, y.2.2, ())) (E := (E91 L N)) (ts := [(.sl (.int .u8)), i64]) (tr := [i64]) (rs := (.one i64)) (κ := (fun v d => (unR (.one i64) v).bind fun x => some (x, d.1, d.2.1))) (sound_of hΦ) okP (callI_sound (sound_of hΦ) okP 1 2000) (f := Try.f91) rfl hs ho hd0 hr hu ?_ (fun _ _ h => by obtain ⟨x, h1, h2⟩ := unR_bind h; obtain rfl := Option.some.inj h2; exact ⟨h1, rfl⟩) site
    exact (f91.b_eq L N (fun v d => (unR (.one i64) v).bind fun x => some (x, d.1, d.2.1)) d0.1 d0.2.1 d.1).trans (Eq.trans (b := f91.b L N (fun a0 a1 a2 => some (a0, a1, a2)) d0.1 d0.2.1 d.1) (by kernel_rfl) hy)
  · intro y hy
    cases hy
def Φ91 (L N : Nat) : Tells := (addT (Φ68 L N) 91 (f91.ent L N))
theorem Φ91_ok (L N : Nat) : TellsOk Try.prog (Φ91 L N) := addT_ok (Φ68_ok L N) (f91.ok L N (Φ68_ok L N))
def f134.b' {R : Type} (L N : Nat) (k : Int → LI → Int → Option R) (c0 : LI) (c1 : Int) : Option R :=
  (f91 L N c0 c1 (3 : Int)).bind fun y0 =>
  bif (decide (y0.1 > (0 : Int))) then
    (f91 L N y0.2.1 y0.2.2 (5 : Int)).bind fun y1 =>
    k (wi (y1.1 - (2 : Int))) y1.2.1 y1.2.2
  else (f91 L N y0.2.1 y0.2.2 (9 : Int)).bind fun y2 =>
  k (wi (y2.1 - (4 : Int))) y2.2.1 y2.2.2
def f134.b {R : Type} (L N : Nat) (k : Int → LI → Int → Option R) (c0 : LI) (c1 : Int) : Option R :=
  f134.b' L N k c0 c1
def f134 (L N : Nat) (c0 : LI) (c1 : Int) : Option (Int × LI × Int) := f134.b L N (fun a0 a1 a2 => some (a0, a1, a2)) c0 c1
def f134.ent (L N : Nat) (args : List AV) (vw : View) (site : Nat) : Ans := match boxD [(.sl (.int .u8)), i64] [] vw args with
  | some (o, d0, d, u) => ⟨Int × LI × Int, f134 L N d0.1 d0.2.1, fun y => ((.tv i64 y.1), u ++ [(o, some (.box [(.tv (.sl (.int .u8)) y.2.1), (.tv i64 y.2.2)]))], [])⟩
  | none => Ans.no
noncomputable def E134 (L N : Nat) : Env := { P := Try.prog, ty := tyOf, Φ := (Φ91 L N), inl := inlT, live := lives, liveX := livesX, L := L, dp := none, prom := promT, heal := healT, ren := renT }
theorem f134.b_eq {R : Type} (L N : Nat) (κ : AV → Dens [(.sl (.int .u8)), i64] → Option R) (c0 : LI) (c1 : Int) :
    evBody (E134 L N) (evCallI (E134 L N) 1 2000) 1000 134 Try.f134 [(.ptr 0 0)] [.ptr 0 0] [(0, (.box [(.tv (.sl (.int .u8)) c0), (.tv i64 c1)]))] (finM (.one i64) [(.sl (.int .u8)), i64] κ)
    = f134.b L N (fun a0 a1 a2 => κ (.tv i64 a0) (a1, a2, ())) c0 c1 := by kernel_rfl
theorem f134.ok (L N : Nat) (hΦ : TellsOk Try.prog ((Φ91 L N))) : EntOk Try.prog 134 (f134.ent L N) := by
  intro args vw site h
  unfold f134.ent
  split
  · rename_i o d0 d u ha
    intro y hy hs
    obtain ⟨rest, cs, rfl, ho, hd0, hr, hu⟩ := boxD_some ha
    refine call_box (y := y) (dep := 1000) (v' := (.tv i64 y.1)) (d1 := (y.2.1, y.2.2, ())) (E := (E134 L N)) (ts := [(.sl (.int .u8)), i64]) (tr := []) (rs := (.one i64)) (κ := (fun v d => (unR (.one i64) v).bind fun x => some (x, d.1, d.2.1))) (sound_of hΦ) okP (callI_sound (sound_of hΦ) okP 1 2000) (f := Try.f134) rfl hs ho hd0 hr hu ?_ (fun _ _ h => by obtain ⟨x, h1, h2⟩ := unR_bind h; obtain rfl := Option.some.inj h2; exact ⟨h1, rfl⟩) site
    exact (f134.b_eq L N (fun v d => (unR (.one i64) v).bind fun x => some (x, d.1, d.2.1)) d0.1 d0.2.1).trans (Eq.trans (b := f134.b L N (fun a0 a1 a2 => some (a0, a1, a2)) d0.1 d0.2.1) (by kernel_rfl) hy)
  · intro y hy
    cases hy
def Φ134 (L N : Nat) : Tells := (addT (Φ91 L N) 134 (f134.ent L N))
theorem Φ134_ok (L N : Nat) : TellsOk Try.prog (Φ134 L N) := addT_ok (Φ91_ok L N) (f134.ok L N (Φ91_ok L N))
def f147.j0' {R : Type} (L N : Nat) (self147 : LI → Int → Int → Int → Bool → Option (Tree × LI × Int)) (k : Tree → LI → Int → Option R) (v10 : Int) (v11 : Int) (v12 : Bool) (v13 : Int) (v14 : Bool) (v15 : LI) (v16 : Int) (v17 : Int) (v18 : Int) : Option R :=
  bif v14 then
    (f91 L N v15 v16 v11).bind fun y19 =>
    k (Tree.mk (5 : Int) y19.1 []) y19.2.1 y19.2.2
  else bif (v13 == (0 : Int)) then
    k (Tree.mk (0 : Int) (0 : Int) []) v15 v16
  else bif (decide (v13 < (5 : Int))) then
    (f134 L N v15 v16).bind fun y20 =>
    bif (v10 == (0 : Int)) then
      k (Tree.mk (1 : Int) y20.1 ([(Tree.mk (0 : Int) (0 : Int) [])] : LT)) y20.2.1 y20.2.2
    else (self147 y20.2.1 y20.2.2 (bif decide ((wi (v10 - (1 : Int))) > (0 : Int)) then (wi (v10 - (1 : Int))) else (0 : Int)) v11 true).bind fun y21 =>
    k (Tree.mk (1 : Int) y20.1 ([y21.1] : LT)) y21.2.1 y21.2.2
  else bif (v13 == (5 : Int)) then
    (f91 L N v15 v16 (4 : Int)).bind fun y22 =>
    (self147 y22.2.1 y22.2.2 (wi (v10 - (1 : Int))) v11 v12).bind fun y23 =>
    k (Tree.mk (4 : Int) y22.1 ([y23.1] : LT)) y23.2.1 y23.2.2
  else bif (v13 == (8 : Int)) then
    (self147 v15 v16 (wi (v10 - (1 : Int))) v11 v12).bind fun y34 =>
    (self147 y34.2.1 y34.2.2 (wi (v10 - (1 : Int))) v11 v12).bind fun y35 =>
    k (Tree.mk (3 : Int) (0 : Int) ([(Tree.mk y34.1.op y34.1.n y34.1.parts), (Tree.mk y35.1.op y35.1.n y35.1.parts)] : LT)) y35.2.1 y35.2.2
  else (self147 v15 v16 (wi (v10 - (1 : Int))) v11 v12).bind fun y36 =>
  (self147 y36.2.1 y36.2.2 (wi (v10 - (1 : Int))) v11 v12).bind fun y37 =>
  k (Tree.mk (2 : Int) (0 : Int) ([(Tree.mk y36.1.op y36.1.n y36.1.parts), (Tree.mk y37.1.op y37.1.n y37.1.parts)] : LT)) y37.2.1 y37.2.2
def f147.j1' {R : Type} (L N : Nat) (self147 : LI → Int → Int → Int → Bool → Option (Tree × LI × Int)) (k : Tree → LI → Int → Option R) (v2 : Int) (v3 : Int) (v4 : Bool) (v5 : Int) (v6 : LI) (v7 : Int) (v8 : Int) (v9 : Int) : Option R :=
  bif (decide (v5 < (2 : Int))) then
    bif (decide (v3 > (0 : Int))) then
      f147.j0' L N self147 k v2 v3 v4 v5 v4 v6 v7 v8 v9
    else f147.j0' L N self147 k v2 v3 v4 v5 false v6 v7 v8 v9
  else f147.j0' L N self147 k v2 v3 v4 v5 false v6 v7 v8 v9
def f147.b' {R : Type} (L N : Nat) (self147 : LI → Int → Int → Int → Bool → Option (Tree × LI × Int)) (k : Tree → LI → Int → Option R) (c0 : LI) (c1 : Int) (x0 : Int) (x1 : Int) (x2 : Bool) : Option R :=
  (f91 L N c0 c1 (9 : Int)).bind fun y0 =>
  bif (x0 == (0 : Int)) then
    (f91 L N y0.2.1 y0.2.2 (2 : Int)).bind fun y1 =>
    f147.j1' L N self147 k x0 x1 x2 y1.1 y1.2.1 y1.2.2 (0 : Int) (0 : Int)
  else f147.j1' L N self147 k x0 x1 x2 y0.1 y0.2.1 y0.2.2 (0 : Int) (0 : Int)
def f147.b {R : Type} (L N : Nat) (self147 : LI → Int → Int → Int → Bool → Option (Tree × LI × Int)) (k : Tree → LI → Int → Option R) (c0 : LI) (c1 : Int) (x0 : Int) (x1 : Int) (x2 : Bool) : Option R :=
  f147.b' L N self147 k c0 c1 x0 x1 x2
def f147 (L N : Nat) : Nat → LI → Int → Int → Int → Bool → Option (Tree × LI × Int)
  | 0, _, _, _, _, _ => none
  | n + 1, c0, c1, x0, x1, x2 => f147.b L N (f147 L N n) (fun a0 a1 a2 => some (a0, a1, a2)) c0 c1 x0 x1 x2
def f147.ent (L N m : Nat) (args : List AV) (vw : View) (site : Nat) : Ans := match boxD [(.sl (.int .u8)), i64] [i64, i64, .bool] vw args with
  | some (o, d0, d, u) => ⟨Tree × LI × Int, f147 L N m d0.1 d0.2.1 d.1 d.2.1 d.2.2.1, fun y => ((.tv (.st 1) y.1), u ++ [(o, some (.box [(.tv (.sl (.int .u8)) y.2.1), (.tv i64 y.2.2)]))], [])⟩
  | none => Ans.no
def Φ147s (L N m : Nat) : Tells := (addT (Φ134 L N) 147 (f147.ent L N m))
noncomputable def E147 (L N m : Nat) : Env := { P := Try.prog, ty := tyOf, Φ := Φ147s L N m, inl := inlT, live := lives, liveX := livesX, L := L, dp := none, prom := promT, heal := healT, ren := renT }
theorem f147.b_eq {R : Type} (L N m : Nat) (κ : AV → Dens [(.sl (.int .u8)), i64] → Option R) (c0 : LI) (c1 : Int) (x0 : Int) (x1 : Int) (x2 : Bool) :
    evBody (E147 L N m) (evCallI (E147 L N m) 1 2000) 1000 147 Try.f147 [(.ptr 0 0), (.tv i64 x0), (.tv i64 x1), (.tv .bool x2)] [.ptr 0 0] [(0, (.box [(.tv (.sl (.int .u8)) c0), (.tv i64 c1)]))] (finM (.one (.st 1)) [(.sl (.int .u8)), i64] κ)
    = f147.b L N (f147 L N m) (fun a0 a1 a2 => κ (.tv (.st 1) a0) (a1, a2, ())) c0 c1 x0 x1 x2 := by kernel_rfl
theorem f147.ok (L N m : Nat) (hΦ : TellsOk Try.prog (Φ147s L N m)) : EntOk Try.prog 147 (f147.ent L N (m + 1)) := by
  intro args vw site h
  unfold f147.ent
  split
  · rename_i o d0 d u ha
    intro y hy hs
    obtain ⟨rest, cs, rfl, ho, hd0, hr, hu⟩ := boxD_some ha
    refine call_box (y := y) (dep := 1000) (v' := (.tv (.st 1) y.1)) (d1 := (y.2.1, y.2.2, ())) (E := (E147 L N m)) (ts := [(.sl (.int .u8)), i64]) (tr := [i64, i64, .bool]) (rs := (.one (.st 1))) (κ := (fun v d => (unR (.one (.st 1)) v).bind fun x => some (x, d.1, d.2.1))) (sound_of hΦ) okP (callI_sound (sound_of hΦ) okP 1 2000) (f := Try.f147) rfl hs ho hd0 hr hu ?_ (fun _ _ h => by obtain ⟨x, h1, h2⟩ := unR_bind h; obtain rfl := Option.some.inj h2; exact ⟨h1, rfl⟩) site
    exact (f147.b_eq L N m (fun v d => (unR (.one (.st 1)) v).bind fun x => some (x, d.1, d.2.1)) d0.1 d0.2.1 d.1 d.2.1 d.2.2.1).trans (Eq.trans (b := f147.b L N (f147 L N m) (fun a0 a1 a2 => some (a0, a1, a2)) d0.1 d0.2.1 d.1 d.2.1 d.2.2.1) (by kernel_rfl) hy)
  · intro y hy
    cases hy
theorem Φ147s_ok (L N : Nat) : ∀ m, TellsOk Try.prog (Φ147s L N m) := by
  intro m
  induction m with
  | zero => exact (addT_ok (Φ134_ok L N) (fun args vw site h => by unfold f147.ent; split <;> (intro y hy; cases hy)))
  | succ m ih => exact (addT_ok (Φ134_ok L N) (f147.ok L N m ih))
def Φ147 (L N : Nat) : Tells := (addT (Φ134 L N) 147 (f147.ent L N N))
theorem Φ147_ok (L N : Nat) : TellsOk Try.prog (Φ147 L N) := Φ147s_ok L N N
def f130.s0' {R : Type} (L N : Nat) (k0_e0 : Int → LI → Int → LT → Option R) (rec0 : Int → Int → LI → Int → LT → Option R) (s1 : Int) (s2 : Int) (s3 : LI) (s4 : Int) (s5 : LT) : Option R :=
  bif (decide (s2 < s1)) then
    (f91 L N s3 s4 (3 : Int)).bind fun y10 =>
    (f147 L N N y10.2.1 y10.2.2 (wi ((1 : Int) + y10.1)) s1 false).bind fun y11 =>
    bif (decide (s5.length + ([y11.1] : LT).length ≤ lim)) then
      rec0 s1 (wi (s2 + (1 : Int))) y11.2.1 y11.2.2 (s5 ++ ([y11.1] : LT))
    else none
  else k0_e0 s1 s3 s4 s5
def f130.s0 {R : Type} (L N : Nat) (k0_e0 : Int → LI → Int → LT → Option R) (rec0 : Int → Int → LI → Int → LT → Option R) (s1 : Int) (s2 : Int) (s3 : LI) (s4 : Int) (s5 : LT) : Option R :=
  f130.s0' L N k0_e0 rec0 s1 s2 s3 s4 s5
def f130.l0 {R : Type} (L N : Nat) (k0_e0 : Int → LI → Int → LT → Option R) : Nat → Int → Int → LI → Int → LT → Option R
  | 0, _, _, _, _, _ => none
  | n + 1, s1, s2, s3, s4, s5 => f130.s0 L N k0_e0 (f130.l0 L N k0_e0 n) s1 s2 s3 s4 s5
def f130.T0 (s1 : Int) (s2 : Int) (s3 : LI) (s4 : Int) (s5 : LT) : T := mkT 41 [(0, (.ptr 0 0)), (3, (.tv i64 s1)), (4, (.row 1008)), (5, (.tv i64 s2))] ++ [.ptr 0 0]
def f130.H0 (s1 : Int) (s2 : Int) (s3 : LI) (s4 : Int) (s5 : LT) : H := [(0, (.box [(.tv (.sl (.int .u8)) s3), (.tv i64 s4)])), (1008, (.row 110 (.st 1) s5))]
def f130.T0_e0 (z6 : Int) (z7 : LI) (z8 : Int) (z9 : LT) : T := mkT 41 [(0, (.ptr 0 0)), (3, (.tv i64 z6)), (4, (.row 1008))] ++ [.ptr 0 0]
def f130.H0_e0 (z6 : Int) (z7 : LI) (z8 : Int) (z9 : LT) : H := [(0, (.box [(.tv (.sl (.int .u8)) z7), (.tv i64 z8)])), (1008, (.row 110 (.st 1) z9))]
def f130.j0' {R : Type} (L N : Nat) (k : LT → LI → Int → Option R) (v13 : Int) (v14 : Bool) (v15 : LI) (v16 : Int) (v17 : LT) : Option R :=
  bif v14 then
    (f91 L N v15 v16 v13).bind fun y18 =>
    (f91 L N y18.2.1 y18.2.2 (wi (v13 + (1 : Int)))).bind fun y19 =>
    bif (decide (0 ≤ y18.1) && decide (y18.1 < (v17.length : Int))) then
      k (v17.set y18.1.toNat (Tree.mk (5 : Int) y19.1 [])) y19.2.1 y19.2.2
    else none
  else k v17 v15 v16
def f130.p0_e0' {R : Type} (L N : Nat) (k : LT → LI → Int → Option R) (z6 : Int) (z7 : LI) (z8 : Int) (z9 : LT) : Option R :=
  bif (decide (z6 > (0 : Int))) then
    (f91 L N z7 z8 (20 : Int)).bind fun y12 =>
    f130.j0' L N k z6 (y12.1 == (0 : Int)) y12.2.1 y12.2.2 z9
  else f130.j0' L N k z6 false z7 z8 z9
def f130.p0_e0 {R : Type} (L N : Nat) (k : LT → LI → Int → Option R) (z6 : Int) (z7 : LI) (z8 : Int) (z9 : LT) : Option R :=
  f130.p0_e0' L N k z6 z7 z8 z9
def f130.b' {R : Type} (L N : Nat) (k : LT → LI → Int → Option R) (w0 : Int → Int → LI → Int → LT → Option R) (c0 : LI) (c1 : Int) : Option R :=
  (f91 L N c0 c1 (4 : Int)).bind fun y0 =>
  w0 y0.1 (0 : Int) y0.2.1 y0.2.2 ([] : LT)
def f130.b {R : Type} (L N : Nat) (k : LT → LI → Int → Option R) (c0 : LI) (c1 : Int) : Option R :=
  f130.b' L N k (fun s1 s2 s3 s4 s5 => f130.l0 L N (fun z6 z7 z8 z9 => f130.p0_e0 L N k z6 z7 z8 z9) L s1 s2 s3 s4 s5) c0 c1
def f130 (L N : Nat) (c0 : LI) (c1 : Int) : Option (LT × LI × Int) := f130.b L N (fun a0 a1 a2 => some (a0, a1, a2)) c0 c1
def f130.ent (L N : Nat) (args : List AV) (vw : View) (site : Nat) : Ans := match boxD [(.sl (.int .u8)), i64] [] vw args with
  | some (o, d0, d, u) => ⟨LT × LI × Int, f130 L N d0.1 d0.2.1, fun y => ((.tv (.sl (.st 1)) y.1), u ++ [(o, some (.box [(.tv (.sl (.int .u8)) y.2.1), (.tv i64 y.2.2)]))], [])⟩
  | none => Ans.no
noncomputable def E130 (L N : Nat) : Env := { P := Try.prog, ty := tyOf, Φ := (Φ147 L N), inl := inlT, live := lives, liveX := livesX, L := L, dp := none, prom := promT, heal := healT, ren := renT }
noncomputable def f130.c0 : Code := loopAt 0 (codeOf Try.f130)
def f130.X0_e0 {R : Type} (κ : KX R) := fun z6 z7 z8 z9 => κ (.exit 0) (f130.T0_e0 z6 z7 z8 z9) (f130.H0_e0 z6 z7 z8 z9)
def f130.R0 {R : Type} (rec : KT R) := fun s1 s2 s3 s4 s5 => rec (f130.T0 s1 s2 s3 s4 s5) (f130.H0 s1 s2 s3 s4 s5)
theorem f130.s0_eq {R : Type} (L N : Nat) (κ : KX R) (rec : KT R) (s1 : Int) (s2 : Int) (s3 : LI) (s4 : Int) (s5 : LT) :
    evRd (E130 L N) (evCallI (E130 L N) 1 2000) 1000 130 41 0 f130.c0 κ rec (f130.T0 s1 s2 s3 s4 s5) (f130.H0 s1 s2 s3 s4 s5)
    = f130.s0 L N (f130.X0_e0 κ) (f130.R0 rec) s1 s2 s3 s4 s5 := by kernel_rfl
theorem f130.l0_eq {R : Type} (L N : Nat) (κ : KX R) : ∀ (n : Nat) (s1 : Int) (s2 : Int) (s3 : LI) (s4 : Int) (s5 : LT),
    evLp (E130 L N) (evCallI (E130 L N) 1 2000) 1000 130 41 0 f130.c0 κ n (f130.T0 s1 s2 s3 s4 s5) (f130.H0 s1 s2 s3 s4 s5)
    = f130.l0 L N (f130.X0_e0 κ) n s1 s2 s3 s4 s5 := by
  intro n
  induction n with
  | zero => intros; rfl
  | succ n ih =>
    intro s1 s2 s3 s4 s5
    rw [evLp_succ, f130.s0_eq]
    delta f130.R0
    simp only [ih]
    rfl
theorem f130.p0_e0_eq {R : Type} (L N : Nat) (κ : AV → Dens [(.sl (.int .u8)), i64] → Option R) (z6 : Int) (z7 : LI) (z8 : Int) (z9 : LT) :
    (contAt (E130 L N) (evCallI (E130 L N) 1 2000) 1000 130 41 0 (codeOf Try.f130) (finK (E130 L N) 1000 Try.f130 (finM (.one (.sl (.st 1))) [(.sl (.int .u8)), i64] κ))) (.exit 0) (f130.T0_e0 z6 z7 z8 z9) (f130.H0_e0 z6 z7 z8 z9)
    = f130.p0_e0 L N (fun a0 a1 a2 => κ (.tv (.sl (.st 1)) a0) (a1, a2, ())) z6 z7 z8 z9 := by kernel_rfl
theorem f130.b_eq {R : Type} (L N : Nat) (κ : AV → Dens [(.sl (.int .u8)), i64] → Option R) (c0 : LI) (c1 : Int) :
    evBody (E130 L N) (evCallI (E130 L N) 1 2000) 1000 130 Try.f130 [(.ptr 0 0)] [.ptr 0 0] [(0, (.box [(.tv (.sl (.int .u8)) c0), (.tv i64 c1)]))] (finM (.one (.sl (.st 1))) [(.sl (.int .u8)), i64] κ)
    = f130.b L N (fun a0 a1 a2 => κ (.tv (.sl (.st 1)) a0) (a1, a2, ())) c0 c1 := by
  refine Eq.trans (b := f130.b' L N (fun a0 a1 a2 => κ (.tv (.sl (.st 1)) a0) (a1, a2, ())) (fun s1 s2 s3 s4 s5 => evLp (E130 L N) (evCallI (E130 L N) 1 2000) 1000 130 41 0 f130.c0 (contAt (E130 L N) (evCallI (E130 L N) 1 2000) 1000 130 41 0 (codeOf Try.f130) (finK (E130 L N) 1000 Try.f130 (finM (.one (.sl (.st 1))) [(.sl (.int .u8)), i64] κ))) L (f130.T0 s1 s2 s3 s4 s5) (f130.H0 s1 s2 s3 s4 s5)) c0 c1) (by kernel_rfl) ?_
  unfold f130.b
  simp only [f130.l0_eq]
  delta f130.X0_e0
  simp only [f130.p0_e0_eq]
theorem f130.ok (L N : Nat) (hΦ : TellsOk Try.prog ((Φ147 L N))) : EntOk Try.prog 130 (f130.ent L N) := by
  intro args vw site h
  unfold f130.ent
  split
  · rename_i o d0 d u ha
    intro y hy hs
    obtain ⟨rest, cs, rfl, ho, hd0, hr, hu⟩ := boxD_some ha
    refine call_box (y := y) (dep := 1000) (v' := (.tv (.sl (.st 1)) y.1)) (d1 := (y.2.1, y.2.2, ())) (E := (E130 L N)) (ts := [(.sl (.int .u8)), i64]) (tr := []) (rs := (.one (.sl (.st 1)))) (κ := (fun v d => (unR (.one (.sl (.st 1))) v).bind fun x => some (x, d.1, d.2.1))) (sound_of hΦ) okP (callI_sound (sound_of hΦ) okP 1 2000) (f := Try.f130) rfl hs ho hd0 hr hu ?_ (fun _ _ h => by obtain ⟨x, h1, h2⟩ := unR_bind h; obtain rfl := Option.some.inj h2; exact ⟨h1, rfl⟩) site
    exact (f130.b_eq L N (fun v d => (unR (.one (.sl (.st 1))) v).bind fun x => some (x, d.1, d.2.1)) d0.1 d0.2.1).trans (Eq.trans (b := f130.b L N (fun a0 a1 a2 => some (a0, a1, a2)) d0.1 d0.2.1) (by kernel_rfl) hy)
  · intro y hy
    cases hy
def Φ130 (L N : Nat) : Tells := (addT (Φ147 L N) 130 (f130.ent L N))
theorem Φ130_ok (L N : Nat) : TellsOk Try.prog (Φ130 L N) := addT_ok (Φ147_ok L N) (f130.ok L N (Φ147_ok L N))
def f131.b' {R : Type} (L N : Nat) (k : Tree → LI → Int → Option R) (c0 : LI) (c1 : Int) (x0 : Int) : Option R :=
  (f91 L N c0 c1 (4 : Int)).bind fun y0 =>
  (f147 L N N y0.2.1 y0.2.2 (wi ((1 : Int) + y0.1)) x0 false).bind fun y1 =>
  (f91 L N y1.2.1 y1.2.2 (24 : Int)).bind fun y2 =>
  bif (y2.1 == (0 : Int)) then
    k (Tree.mk ((Tree.mk y1.1.op (wi (y1.1.n + (7 : Int))) y1.1.parts).op) ((Tree.mk y1.1.op (wi (y1.1.n + (7 : Int))) y1.1.parts).n) ((Tree.mk y1.1.op (wi (y1.1.n + (7 : Int))) y1.1.parts).parts)) y2.2.1 y2.2.2
  else bif (y2.1 == (1 : Int)) then
    (f91 L N y2.2.1 y2.2.2 (8 : Int)).bind fun y3 =>
    k (Tree.mk ((Tree.mk y3.1 y1.1.n y1.1.parts).op) ((Tree.mk y3.1 y1.1.n y1.1.parts).n) ((Tree.mk y3.1 y1.1.n y1.1.parts).parts)) y3.2.1 y3.2.2
  else bif (y2.1 == (2 : Int)) then
    bif (decide (([(Tree.mk (0 : Int) (0 : Int) [])] : LT).length + y1.1.parts.length ≤ lim)) then
      k (Tree.mk y1.1.op y1.1.n (([(Tree.mk (0 : Int) (0 : Int) [])] : LT) ++ y1.1.parts)) y2.2.1 y2.2.2
    else none
  else k (Tree.mk ((Tree.mk y1.1.op y1.1.n y1.1.parts).op) ((Tree.mk y1.1.op y1.1.n y1.1.parts).n) ((Tree.mk y1.1.op y1.1.n y1.1.parts).parts)) y2.2.1 y2.2.2
def f131.b {R : Type} (L N : Nat) (k : Tree → LI → Int → Option R) (c0 : LI) (c1 : Int) (x0 : Int) : Option R :=
  f131.b' L N k c0 c1 x0
def f131 (L N : Nat) (c0 : LI) (c1 : Int) (x0 : Int) : Option (Tree × LI × Int) := f131.b L N (fun a0 a1 a2 => some (a0, a1, a2)) c0 c1 x0
def f131.ent (L N : Nat) (args : List AV) (vw : View) (site : Nat) : Ans := match boxD [(.sl (.int .u8)), i64] [i64] vw args with
  | some (o, d0, d, u) => ⟨Tree × LI × Int, f131 L N d0.1 d0.2.1 d.1, fun y => ((.tv (.st 1) y.1), u ++ [(o, some (.box [(.tv (.sl (.int .u8)) y.2.1), (.tv i64 y.2.2)]))], [])⟩
  | none => Ans.no
noncomputable def E131 (L N : Nat) : Env := { P := Try.prog, ty := tyOf, Φ := (Φ130 L N), inl := inlT, live := lives, liveX := livesX, L := L, dp := none, prom := promT, heal := healT, ren := renT }
theorem f131.b_eq {R : Type} (L N : Nat) (κ : AV → Dens [(.sl (.int .u8)), i64] → Option R) (c0 : LI) (c1 : Int) (x0 : Int) :
    evBody (E131 L N) (evCallI (E131 L N) 1 2000) 1000 131 Try.f131 [(.ptr 0 0), (.tv i64 x0)] [.ptr 0 0] [(0, (.box [(.tv (.sl (.int .u8)) c0), (.tv i64 c1)]))] (finM (.one (.st 1)) [(.sl (.int .u8)), i64] κ)
    = f131.b L N (fun a0 a1 a2 => κ (.tv (.st 1) a0) (a1, a2, ())) c0 c1 x0 := by kernel_rfl
theorem f131.ok (L N : Nat) (hΦ : TellsOk Try.prog ((Φ130 L N))) : EntOk Try.prog 131 (f131.ent L N) := by
  intro args vw site h
  unfold f131.ent
  split
  · rename_i o d0 d u ha
    intro y hy hs
    obtain ⟨rest, cs, rfl, ho, hd0, hr, hu⟩ := boxD_some ha
    refine call_box (y := y) (dep := 1000) (v' := (.tv (.st 1) y.1)) (d1 := (y.2.1, y.2.2, ())) (E := (E131 L N)) (ts := [(.sl (.int .u8)), i64]) (tr := [i64]) (rs := (.one (.st 1))) (κ := (fun v d => (unR (.one (.st 1)) v).bind fun x => some (x, d.1, d.2.1))) (sound_of hΦ) okP (callI_sound (sound_of hΦ) okP 1 2000) (f := Try.f131) rfl hs ho hd0 hr hu ?_ (fun _ _ h => by obtain ⟨x, h1, h2⟩ := unR_bind h; obtain rfl := Option.some.inj h2; exact ⟨h1, rfl⟩) site
    exact (f131.b_eq L N (fun v d => (unR (.one (.st 1)) v).bind fun x => some (x, d.1, d.2.1)) d0.1 d0.2.1 d.1).trans (Eq.trans (b := f131.b L N (fun a0 a1 a2 => some (a0, a1, a2)) d0.1 d0.2.1 d.1) (by kernel_rfl) hy)
  · intro y hy
    cases hy
def Φ131 (L N : Nat) : Tells := (addT (Φ130 L N) 131 (f131.ent L N))
theorem Φ131_ok (L N : Nat) : TellsOk Try.prog (Φ131 L N) := addT_ok (Φ130_ok L N) (f131.ok L N (Φ130_ok L N))
def f103.j0' {R : Type} (L N : Nat) (k : Tree → LT → LI → Int → Option R) (v3 : LT) (v4 : Bool) (v5 : LI) (v6 : Int) (v7 : Int) (v8 : Int) (v9 : Int) (v10 : Int) (v11 : LT) : Option R :=
  bif v4 then
    (f91 L N v5 v6 (v3.length : Int)).bind fun y12 =>
    k (Tree.mk (5 : Int) y12.1 []) v3 y12.2.1 y12.2.2
  else k (Tree.mk ((Tree.mk v9 v10 v11).op) ((Tree.mk v9 v10 v11).n) ((Tree.mk v9 v10 v11).parts)) v3 v5 v6
def f103.b' {R : Type} (L N : Nat) (k : Tree → LT → LI → Int → Option R) (c0 : LI) (c1 : Int) : Option R :=
  (f130 L N c0 c1).bind fun y0 =>
  (f131 L N y0.2.1 y0.2.2 (y0.1.length : Int)).bind fun y1 =>
  bif (decide ((y0.1.length : Int) > (0 : Int))) then
    (f91 L N y1.2.1 y1.2.2 (3 : Int)).bind fun y2 =>
    f103.j0' L N k y0.1 (y2.1 == (0 : Int)) y2.2.1 y2.2.2 (0 : Int) (0 : Int) y1.1.op y1.1.n y1.1.parts
  else f103.j0' L N k y0.1 false y1.2.1 y1.2.2 (0 : Int) (0 : Int) y1.1.op y1.1.n y1.1.parts
def f103.b {R : Type} (L N : Nat) (k : Tree → LT → LI → Int → Option R) (c0 : LI) (c1 : Int) : Option R :=
  f103.b' L N k c0 c1
def f103 (L N : Nat) (c0 : LI) (c1 : Int) : Option (Tree × LT × LI × Int) := f103.b L N (fun a0 a1 a2 a3 => some (a0, a1, a2, a3)) c0 c1
def f103.ent (L N : Nat) (args : List AV) (vw : View) (site : Nat) : Ans := match boxD [(.sl (.int .u8)), i64] [] vw args with
  | some (o, d0, d, u) => ⟨Tree × LT × LI × Int, f103 L N d0.1 d0.2.1, fun y => ((.tup [(.tv (.st 1) y.1), (.tv (.sl (.st 1)) y.2.1)]), u ++ [(o, some (.box [(.tv (.sl (.int .u8)) y.2.2.1), (.tv i64 y.2.2.2)]))], [])⟩
  | none => Ans.no
noncomputable def E103 (L N : Nat) : Env := { P := Try.prog, ty := tyOf, Φ := (Φ131 L N), inl := inlT, live := lives, liveX := livesX, L := L, dp := none, prom := promT, heal := healT, ren := renT }
theorem f103.b_eq {R : Type} (L N : Nat) (κ : AV → Dens [(.sl (.int .u8)), i64] → Option R) (c0 : LI) (c1 : Int) :
    evBody (E103 L N) (evCallI (E103 L N) 1 2000) 1000 103 Try.f103 [(.ptr 0 0)] [.ptr 0 0] [(0, (.box [(.tv (.sl (.int .u8)) c0), (.tv i64 c1)]))] (finM (.many [(.st 1), (.sl (.st 1))]) [(.sl (.int .u8)), i64] κ)
    = f103.b L N (fun a0 a1 a2 a3 => κ (.tup [(.tv (.st 1) a0), (.tv (.sl (.st 1)) a1)]) (a2, a3, ())) c0 c1 := by kernel_rfl
theorem f103.ok (L N : Nat) (hΦ : TellsOk Try.prog ((Φ131 L N))) : EntOk Try.prog 103 (f103.ent L N) := by
  intro args vw site h
  unfold f103.ent
  split
  · rename_i o d0 d u ha
    intro y hy hs
    obtain ⟨rest, cs, rfl, ho, hd0, hr, hu⟩ := boxD_some ha
    refine call_box (y := y) (dep := 1000) (v' := (.tup [(.tv (.st 1) y.1), (.tv (.sl (.st 1)) y.2.1)])) (d1 := (y.2.2.1, y.2.2.2, ())) (E := (E103 L N)) (ts := [(.sl (.int .u8)), i64]) (tr := []) (rs := (.many [(.st 1), (.sl (.st 1))])) (κ := (fun v d => (unR (.many [(.st 1), (.sl (.st 1))]) v).bind fun x => some (x.1, x.2, d.1, d.2.1))) (sound_of hΦ) okP (callI_sound (sound_of hΦ) okP 1 2000) (f := Try.f103) rfl hs ho hd0 hr hu ?_ (fun _ _ h => by obtain ⟨x, h1, h2⟩ := unR_bind h; obtain rfl := Option.some.inj h2; exact ⟨h1, rfl⟩) site
    exact (f103.b_eq L N (fun v d => (unR (.many [(.st 1), (.sl (.st 1))]) v).bind fun x => some (x.1, x.2, d.1, d.2.1)) d0.1 d0.2.1).trans (Eq.trans (b := f103.b L N (fun a0 a1 a2 a3 => some (a0, a1, a2, a3)) d0.1 d0.2.1) (by kernel_rfl) hy)
  · intro y hy
    cases hy
def Φ103 (L N : Nat) : Tells := (addT (Φ131 L N) 103 (f103.ent L N))
theorem Φ103_ok (L N : Nat) : TellsOk Try.prog (Φ103 L N) := addT_ok (Φ131_ok L N) (f103.ok L N (Φ131_ok L N))
def f158.j0' {R : Type} (L N : Nat) (self158 : Tree → Bool → Option (Int)) (k0_e0 : Int → Option R) (rec0 : Bool → Int → Int → Int → Int → LT → Option R) (v14 : Bool) (v15 : Int) (v16 : Int) (v17 : Int) (v18 : Int) (v19 : LT) : Option R :=
  bif (decide (0 ≤ v16) && decide (v16 < (v19.length : Int))) then
    (self158 (listAt v19 (Ty.dflt (.st 1)) v16.toNat) v14).bind fun y20 =>
    rec0 v14 (bif decide (y20 > v15) then y20 else v15) (wi (v16 + (1 : Int))) v17 v18 v19
  else none
def f158.s0' {R : Type} (L N : Nat) (self158 : Tree → Bool → Option (Int)) (k0_e0 : Int → Option R) (rec0 : Bool → Int → Int → Int → Int → LT → Option R) (s0 : Bool) (s1 : Int) (s2 : Int) (s3 : Int) (s4 : Int) (s5 : LT) : Option R :=
  bif (decide (s2 < (s5.length : Int))) then
    bif s0 then
      bif (!(s3 == (1 : Int))) then
        f158.j0' L N self158 k0_e0 rec0 s0 s1 s2 s3 s4 s5
      else k0_e0 s1
    else bif (!false) then
      f158.j0' L N self158 k0_e0 rec0 s0 s1 s2 s3 s4 s5
    else k0_e0 s1
  else k0_e0 s1
def f158.s0 {R : Type} (L N : Nat) (self158 : Tree → Bool → Option (Int)) (k0_e0 : Int → Option R) (rec0 : Bool → Int → Int → Int → Int → LT → Option R) (s0 : Bool) (s1 : Int) (s2 : Int) (s3 : Int) (s4 : Int) (s5 : LT) : Option R :=
  f158.s0' L N self158 k0_e0 rec0 s0 s1 s2 s3 s4 s5
def f158.l0 {R : Type} (L N : Nat) (self158 : Tree → Bool → Option (Int)) (k0_e0 : Int → Option R) : Nat → Bool → Int → Int → Int → Int → LT → Option R
  | 0, _, _, _, _, _, _ => none
  | n + 1, s0, s1, s2, s3, s4, s5 => f158.s0 L N self158 k0_e0 (f158.l0 L N self158 k0_e0 n) s0 s1 s2 s3 s4 s5
def f158.T0 (s0 : Bool) (s1 : Int) (s2 : Int) (s3 : Int) (s4 : Int) (s5 : LT) : T := mkT 38 [(1, (.tv .bool s0)), (2, (.ptr 1002 0)), (5, (.tv i64 s1)), (6, (.tv i64 s2))]
def f158.H0 (s0 : Bool) (s1 : Int) (s2 : Int) (s3 : Int) (s4 : Int) (s5 : LT) : H := [(1002, (.box [(.tv i64 s3), (.tv i64 s4), (.tv (.sl (.st 1)) s5)]))]
def f158.T0_e0 (z13 : Int) : T := mkT 38 [(5, (.tv i64 z13))]
def f158.H0_e0 (z13 : Int) : H := []
def f158.p0_e0' {R : Type} (L N : Nat) (self158 : Tree → Bool → Option (Int)) (k : Int → Option R) (z13 : Int) : Option R :=
  k z13
def f158.p0_e0 {R : Type} (L N : Nat) (self158 : Tree → Bool → Option (Int)) (k : Int → Option R) (z13 : Int) : Option R :=
  f158.p0_e0' L N self158 k z13
def f158.b' {R : Type} (L N : Nat) (self158 : Tree → Bool → Option (Int)) (k : Int → Option R) (w0 : Bool → Int → Int → Int → Int → LT → Option R) (x0 : Tree) (x1 : Bool) : Option R :=
  bif (x0.op == (5 : Int)) then
    k x0.n
  else w0 x1 (-1 : Int) (0 : Int) x0.op x0.n x0.parts
def f158.b {R : Type} (L N : Nat) (self158 : Tree → Bool → Option (Int)) (k : Int → Option R) (x0 : Tree) (x1 : Bool) : Option R :=
  f158.b' L N self158 k (fun s0 s1 s2 s3 s4 s5 => f158.l0 L N self158 (fun z13 => f158.p0_e0 L N self158 k z13) L s0 s1 s2 s3 s4 s5) x0 x1
def f158 (L N : Nat) : Nat → Tree → Bool → Option (Int)
  | 0, _, _ => none
  | n + 1, x0, x1 => f158.b L N (f158 L N n) some x0 x1
def f158.ent (L N m : Nat) := entRo [(.st 1), .bool] (.one i64) fun d => f158 L N m d.1 d.2.1
def Φ158s (L N m : Nat) : Tells := (addT (Φ103 L N) 158 (f158.ent L N m))
noncomputable def E158 (L N m : Nat) : Env := { P := Try.prog, ty := tyOf, Φ := Φ158s L N m, inl := inlT, live := lives, liveX := livesX, L := L, dp := none, prom := promT, heal := healT, ren := renT }
noncomputable def f158.c0 : Code := loopAt 0 (codeOf Try.f158)
def f158.X0_e0 {R : Type} (κ : KX R) := fun z13 => κ (.exit 0) (f158.T0_e0 z13) (f158.H0_e0 z13)
def f158.R0 {R : Type} (rec : KT R) := fun s0 s1 s2 s3 s4 s5 => rec (f158.T0 s0 s1 s2 s3 s4 s5) (f158.H0 s0 s1 s2 s3 s4 s5)
theorem f158.s0_eq {R : Type} (L N m : Nat) (κ : KX R) (rec : KT R) (s0 : Bool) (s1 : Int) (s2 : Int) (s3 : Int) (s4 : Int) (s5 : LT) :
    evRd (E158 L N m) (evCallI (E158 L N m) 1 2000) 1000 158 38 0 f158.c0 κ rec (f158.T0 s0 s1 s2 s3 s4 s5) (f158.H0 s0 s1 s2 s3 s4 s5)
    = f158.s0 L N (f158 L N m) (f158.X0_e0 κ) (f158.R0 rec) s0 s1 s2 s3 s4 s5 := by kernel_rfl
theorem f158.l0_eq {R : Type} (L N m : Nat) (κ : KX R) : ∀ (n : Nat) (s0 : Bool) (s1 : Int) (s2 : Int) (s3 : Int) (s4 : Int) (s5 : LT),
    evLp (E158 L N m) (evCallI (E158 L N m) 1 2000) 1000 158 38 0 f158.c0 κ n (f158.T0 s0 s1 s2 s3 s4 s5) (f158.H0 s0 s1 s2 s3 s4 s5)
    = f158.l0 L N (f158 L N m) (f158.X0_e0 κ) n s0 s1 s2 s3 s4 s5 := by
  intro n
  induction n with
  | zero => intros; rfl
  | succ n ih =>
    intro s0 s1 s2 s3 s4 s5
    rw [evLp_succ, f158.s0_eq]
    delta f158.R0
    simp only [ih]
    rfl
theorem f158.p0_e0_eq {R : Type} (L N m : Nat) (κ : AV → Option R) (z13 : Int) :
    (contAt (E158 L N m) (evCallI (E158 L N m) 1 2000) 1000 158 38 0 (codeOf Try.f158) (finK (E158 L N m) 1000 Try.f158 (finC (.one i64) κ))) (.exit 0) (f158.T0_e0 z13) (f158.H0_e0 z13)
    = f158.p0_e0 L N (f158 L N m) (fun a0 => κ (.tv i64 a0)) z13 := by kernel_rfl
theorem f158.b_eq {R : Type} (L N m : Nat) (κ : AV → Option R) (x0 : Tree) (x1 : Bool) :
    evBody (E158 L N m) (evCallI (E158 L N m) 1 2000) 1000 158 Try.f158 [(.tv (.st 1) x0), (.tv .bool x1)] [] [] (finC (.one i64) κ)
    = f158.b L N (f158 L N m) (fun a0 => κ (.tv i64 a0)) x0 x1 := by
  refine Eq.trans (b := f158.b' L N (f158 L N m) (fun a0 => κ (.tv i64 a0)) (fun s0 s1 s2 s3 s4 s5 => evLp (E158 L N m) (evCallI (E158 L N m) 1 2000) 1000 158 38 0 f158.c0 (contAt (E158 L N m) (evCallI (E158 L N m) 1 2000) 1000 158 38 0 (codeOf Try.f158) (finK (E158 L N m) 1000 Try.f158 (finC (.one i64) κ))) L (f158.T0 s0 s1 s2 s3 s4 s5) (f158.H0 s0 s1 s2 s3 s4 s5)) x0 x1) (by kernel_rfl) ?_
  unfold f158.b
  simp only [f158.l0_eq]
  delta f158.X0_e0
  simp only [f158.p0_e0_eq]
theorem f158.ok (L N m : Nat) (hΦ : TellsOk Try.prog (Φ158s L N m)) : EntOk Try.prog 158 (f158.ent L N (m + 1)) := entRo_ok (E := (E158 L N m)) (dep := 1000) (f := Try.f158) (sound_of hΦ) okP (callI_sound (sound_of hΦ) okP 1 2000) rfl rfl fun d _ hy => (f158.b_eq L N m (unR (.one i64)) d.1 d.2.1).trans (Eq.trans (b := f158.b L N (f158 L N m) some d.1 d.2.1) (by kernel_rfl) hy)
theorem Φ158s_ok (L N : Nat) : ∀ m, TellsOk Try.prog (Φ158s L N m) := by
  intro m
  induction m with
  | zero => exact (addT_ok (Φ103_ok L N) (entRo_no fun _ => rfl))
  | succ m ih => exact (addT_ok (Φ103_ok L N) (f158.ok L N m ih))
def Φ158 (L N : Nat) : Tells := (addT (Φ103 L N) 158 (f158.ent L N N))
theorem Φ158_ok (L N : Nat) : TellsOk Try.prog (Φ158 L N) := Φ158s_ok L N N
def f152.s0' {R : Type} (L N : Nat) (self152 : Tree → Option (Int)) (k0_e1 : Int → Option R) (k0_r : Int → Int → Option R) (rec0 : Int → Int → Int → Int → Int → LT → Option R) (s24 : Int) (s25 : Int) (s26 : Int) (s27 : Int) (s28 : Int) (s29 : LT) : Option R :=
  bif (decide (s26 < s24)) then
    bif (decide (0 ≤ s26) && decide (s26 < (s29.length : Int))) then
      (self152 (listAt s29 (Ty.dflt (.st 1)) s26.toNat)).bind fun y31 =>
      bif (y31 == (0 : Int)) then
        k0_r (0 : Int) s25
      else rec0 s24 (bif decide ((wi (s25 + y31)) < (1000 : Int)) then (wi (s25 + y31)) else (1000 : Int)) (wi (s26 + (1 : Int))) s27 s28 s29
    else none
  else k0_e1 s25
def f152.s0 {R : Type} (L N : Nat) (self152 : Tree → Option (Int)) (k0_e1 : Int → Option R) (k0_r : Int → Int → Option R) (rec0 : Int → Int → Int → Int → Int → LT → Option R) (s24 : Int) (s25 : Int) (s26 : Int) (s27 : Int) (s28 : Int) (s29 : LT) : Option R :=
  f152.s0' L N self152 k0_e1 k0_r rec0 s24 s25 s26 s27 s28 s29
def f152.l0 {R : Type} (L N : Nat) (self152 : Tree → Option (Int)) (k0_e1 : Int → Option R) (k0_r : Int → Int → Option R) : Nat → Int → Int → Int → Int → Int → LT → Option R
  | 0, _, _, _, _, _, _ => none
  | n + 1, s24, s25, s26, s27, s28, s29 => f152.s0 L N self152 k0_e1 k0_r (f152.l0 L N self152 k0_e1 k0_r n) s24 s25 s26 s27 s28 s29
def f152.T0 (s24 : Int) (s25 : Int) (s26 : Int) (s27 : Int) (s28 : Int) (s29 : LT) : T := mkT 60 [(1, (.ptr 1001 0)), (3, (.tv i64 s24)), (5, (.tv i64 s25)), (6, (.tv i64 s26))]
def f152.H0 (s24 : Int) (s25 : Int) (s26 : Int) (s27 : Int) (s28 : Int) (s29 : LT) : H := [(1001, (.box [(.tv i64 s27), (.tv i64 s28), (.tv (.sl (.st 1)) s29)]))]
def f152.T0_e1 (z30 : Int) : T := mkT 60 [(5, (.tv i64 z30))]
def f152.H0_e1 (z30 : Int) : H := []
def f152.T0_r (z32 : Int) (z33 : Int) : T := mkT 60 [(2, (.tv i64 z32)), (5, (.tv i64 z33))]
def f152.H0_r (z32 : Int) (z33 : Int) : H := []
def f152.p0_e1' {R : Type} (L N : Nat) (self152 : Tree → Option (Int)) (k : Int → Option R) (z30 : Int) : Option R :=
  k z30
def f152.p0_e1 {R : Type} (L N : Nat) (self152 : Tree → Option (Int)) (k : Int → Option R) (z30 : Int) : Option R :=
  f152.p0_e1' L N self152 k z30
def f152.p0_r' {R : Type} (L N : Nat) (self152 : Tree → Option (Int)) (k : Int → Option R) (z32 : Int) (z33 : Int) : Option R :=
  k z32
def f152.p0_r {R : Type} (L N : Nat) (self152 : Tree → Option (Int)) (k : Int → Option R) (z32 : Int) (z33 : Int) : Option R :=
  f152.p0_r' L N self152 k z32 z33
def f152.j1' {R : Type} (L N : Nat) (self152 : Tree → Option (Int)) (k : Int → Option R) (w0 : Int → Int → Int → Int → Int → LT → Option R) (v20 : Int) (v21 : Int) (v22 : Int) (v23 : LT) : Option R :=
  w0 v20 (1 : Int) (0 : Int) v21 v22 v23
def f152.j2' {R : Type} (L N : Nat) (self152 : Tree → Option (Int)) (k : Int → Option R) (w0 : Int → Int → Int → Int → Int → LT → Option R) (v10 : Int) (v11 : Bool) (v12 : Int) (v13 : Int) (v14 : LT) : Option R :=
  bif (!v11) then
    k (0 : Int)
  else bif ((v14.length : Int) != v10) then
    k (0 : Int)
  else f152.j1' L N self152 k w0 v10 v12 v13 v14
def f152.j0' {R : Type} (L N : Nat) (self152 : Tree → Option (Int)) (k : Int → Option R) (w0 : Int → Int → Int → Int → Int → LT → Option R) (v1 : Int) (v2 : Bool) (v3 : Int) (v4 : Bool) (v5 : Int) (v6 : Int) (v7 : LT) : Option R :=
  bif v4 then
    f152.j2' L N self152 k w0 (2 : Int) v2 v5 v6 v7
  else bif (v3 == (4 : Int)) then
    (f96 L N v6 (0 : Int) (3 : Int)).bind fun y8 =>
    f152.j2' L N self152 k w0 (1 : Int) y8 v5 v6 v7
  else bif (v3 == (5 : Int)) then
    (f96 L N v6 (0 : Int) (2 : Int)).bind fun y9 =>
    f152.j2' L N self152 k w0 v1 y9 v5 v6 v7
  else f152.j2' L N self152 k w0 v1 false v5 v6 v7
def f152.b' {R : Type} (L N : Nat) (self152 : Tree → Option (Int)) (k : Int → Option R) (w0 : Int → Int → Int → Int → Int → LT → Option R) (x0 : Tree) : Option R :=
  bif (x0.op == (0 : Int)) then
    f152.j2' L N self152 k w0 (0 : Int) (x0.n == (0 : Int)) x0.op x0.n x0.parts
  else bif (x0.op == (1 : Int)) then
    (f97 L N x0.n).bind fun y0 =>
    f152.j2' L N self152 k w0 (1 : Int) y0 x0.op x0.n x0.parts
  else bif (x0.op == (2 : Int)) then
    f152.j0' L N self152 k w0 (0 : Int) (x0.n == (0 : Int)) x0.op (x0.op == (2 : Int)) x0.op x0.n x0.parts
  else f152.j0' L N self152 k w0 (0 : Int) (x0.n == (0 : Int)) x0.op (x0.op == (3 : Int)) x0.op x0.n x0.parts
def f152.b {R : Type} (L N : Nat) (self152 : Tree → Option (Int)) (k : Int → Option R) (x0 : Tree) : Option R :=
  f152.b' L N self152 k (fun s24 s25 s26 s27 s28 s29 => f152.l0 L N self152 (fun z30 => f152.p0_e1 L N self152 k z30) (fun z32 z33 => f152.p0_r L N self152 k z32 z33) L s24 s25 s26 s27 s28 s29) x0
def f152 (L N : Nat) : Nat → Tree → Option (Int)
  | 0, _ => none
  | n + 1, x0 => f152.b L N (f152 L N n) some x0
def f152.ent (L N m : Nat) := entRo [(.st 1)] (.one i64) fun d => f152 L N m d.1
def Φ152s (L N m : Nat) : Tells := (addT (Φ158 L N) 152 (f152.ent L N m))
noncomputable def E152 (L N m : Nat) : Env := { P := Try.prog, ty := tyOf, Φ := Φ152s L N m, inl := inlT, live := lives, liveX := livesX, L := L, dp := none, prom := promT, heal := healT, ren := renT }
noncomputable def f152.c0 : Code := loopAt 1 (codeOf Try.f152)
def f152.X0_e1 {R : Type} (κ : KX R) := fun z30 => κ (.exit 1) (f152.T0_e1 z30) (f152.H0_e1 z30)
def f152.X0_r {R : Type} (κ : KX R) := fun z32 z33 => κ .ret (f152.T0_r z32 z33) (f152.H0_r z32 z33)
def f152.R0 {R : Type} (rec : KT R) := fun s24 s25 s26 s27 s28 s29 => rec (f152.T0 s24 s25 s26 s27 s28 s29) (f152.H0 s24 s25 s26 s27 s28 s29)
theorem f152.s0_eq {R : Type} (L N m : Nat) (κ : KX R) (rec : KT R) (s24 : Int) (s25 : Int) (s26 : Int) (s27 : Int) (s28 : Int) (s29 : LT) :
    evRd (E152 L N m) (evCallI (E152 L N m) 1 2000) 1000 152 60 1 f152.c0 κ rec (f152.T0 s24 s25 s26 s27 s28 s29) (f152.H0 s24 s25 s26 s27 s28 s29)
    = f152.s0 L N (f152 L N m) (f152.X0_e1 κ) (f152.X0_r κ) (f152.R0 rec) s24 s25 s26 s27 s28 s29 := by kernel_rfl
theorem f152.l0_eq {R : Type} (L N m : Nat) (κ : KX R) : ∀ (n : Nat) (s24 : Int) (s25 : Int) (s26 : Int) (s27 : Int) (s28 : Int) (s29 : LT),
    evLp (E152 L N m) (evCallI (E152 L N m) 1 2000) 1000 152 60 1 f152.c0 κ n (f152.T0 s24 s25 s26 s27 s28 s29) (f152.H0 s24 s25 s26 s27 s28 s29)
    = f152.l0 L N (f152 L N m) (f152.X0_e1 κ) (f152.X0_r κ) n s24 s25 s26 s27 s28 s29 := by
  intro n
  induction n with
  | zero => intros; rfl
  | succ n ih =>
    intro s24 s25 s26 s27 s28 s29
    rw [evLp_succ, f152.s0_eq]
    delta f152.R0
    simp only [ih]
    rfl
theorem f152.p0_e1_eq {R : Type} (L N m : Nat) (κ : AV → Option R) (z30 : Int) :
    (contAt (E152 L N m) (evCallI (E152 L N m) 1 2000) 1000 152 60 1 (codeOf Try.f152) (finK (E152 L N m) 1000 Try.f152 (finC (.one i64) κ))) (.exit 1) (f152.T0_e1 z30) (f152.H0_e1 z30)
    = f152.p0_e1 L N (f152 L N m) (fun a0 => κ (.tv i64 a0)) z30 := by kernel_rfl
theorem f152.p0_r_eq {R : Type} (L N m : Nat) (κ : AV → Option R) (z32 : Int) (z33 : Int) :
    (contAt (E152 L N m) (evCallI (E152 L N m) 1 2000) 1000 152 60 1 (codeOf Try.f152) (finK (E152 L N m) 1000 Try.f152 (finC (.one i64) κ))) .ret (f152.T0_r z32 z33) (f152.H0_r z32 z33)
    = f152.p0_r L N (f152 L N m) (fun a0 => κ (.tv i64 a0)) z32 z33 := by kernel_rfl
theorem f152.b_eq {R : Type} (L N m : Nat) (κ : AV → Option R) (x0 : Tree) :
    evBody (E152 L N m) (evCallI (E152 L N m) 1 2000) 1000 152 Try.f152 [(.tv (.st 1) x0)] [] [] (finC (.one i64) κ)
    = f152.b L N (f152 L N m) (fun a0 => κ (.tv i64 a0)) x0 := by
  refine Eq.trans (b := f152.b' L N (f152 L N m) (fun a0 => κ (.tv i64 a0)) (fun s24 s25 s26 s27 s28 s29 => evLp (E152 L N m) (evCallI (E152 L N m) 1 2000) 1000 152 60 1 f152.c0 (contAt (E152 L N m) (evCallI (E152 L N m) 1 2000) 1000 152 60 1 (codeOf Try.f152) (finK (E152 L N m) 1000 Try.f152 (finC (.one i64) κ))) L (f152.T0 s24 s25 s26 s27 s28 s29) (f152.H0 s24 s25 s26 s27 s28 s29)) x0) (by kernel_rfl) ?_
  unfold f152.b
  simp only [f152.l0_eq]
  delta f152.X0_e1 f152.X0_r
  simp only [f152.p0_e1_eq, f152.p0_r_eq]
theorem f152.ok (L N m : Nat) (hΦ : TellsOk Try.prog (Φ152s L N m)) : EntOk Try.prog 152 (f152.ent L N (m + 1)) := entRo_ok (E := (E152 L N m)) (dep := 1000) (f := Try.f152) (sound_of hΦ) okP (callI_sound (sound_of hΦ) okP 1 2000) rfl rfl fun d _ hy => (f152.b_eq L N m (unR (.one i64)) d.1).trans (Eq.trans (b := f152.b L N (f152 L N m) some d.1) (by kernel_rfl) hy)
theorem Φ152s_ok (L N : Nat) : ∀ m, TellsOk Try.prog (Φ152s L N m) := by
  intro m
  induction m with
  | zero => exact (addT_ok (Φ158_ok L N) (entRo_no fun _ => rfl))
  | succ m ih => exact (addT_ok (Φ158_ok L N) (f152.ok L N m ih))
def Φ152 (L N : Nat) : Tells := (addT (Φ158 L N) 152 (f152.ent L N N))
theorem Φ152_ok (L N : Nat) : TellsOk Try.prog (Φ152 L N) := Φ152s_ok L N N
def f159.b' {R : Type} (L N : Nat) (k : Bool → Option R) (x0 : Tree) : Option R :=
  (f152 L N N (Tree.mk x0.op x0.n x0.parts)).bind fun y0 =>
  (f96 L N y0 (1 : Int) (24 : Int)).bind fun y1 =>
  k y1
def f159.b {R : Type} (L N : Nat) (k : Bool → Option R) (x0 : Tree) : Option R :=
  f159.b' L N k x0
def f159 (L N : Nat) (x0 : Tree) : Option (Bool) := f159.b L N some x0
def f159.ent (L N : Nat) := entRo [(.st 1)] (.one .bool) fun d => f159 L N d.1
noncomputable def E159 (L N : Nat) : Env := { P := Try.prog, ty := tyOf, Φ := (Φ152 L N), inl := inlT, live := lives, liveX := livesX, L := L, dp := none, prom := promT, heal := healT, ren := renT }
theorem f159.b_eq {R : Type} (L N : Nat) (κ : AV → Option R) (x0 : Tree) :
    evBody (E159 L N) (evCallI (E159 L N) 1 2000) 1000 159 Try.f159 [(.tv (.st 1) x0)] [] [] (finC (.one .bool) κ)
    = f159.b L N (fun a0 => κ (.tv .bool a0)) x0 := by kernel_rfl
theorem f159.ok (L N : Nat) (hΦ : TellsOk Try.prog ((Φ152 L N))) : EntOk Try.prog 159 (f159.ent L N) := entRo_ok (E := (E159 L N)) (dep := 1000) (f := Try.f159) (sound_of hΦ) okP (callI_sound (sound_of hΦ) okP 1 2000) rfl rfl fun d _ hy => (f159.b_eq L N (unR (.one .bool)) d.1).trans (Eq.trans (b := f159.b L N some d.1) (by kernel_rfl) hy)
def Φ159 (L N : Nat) : Tells := (addT (Φ152 L N) 159 (f159.ent L N))
theorem Φ159_ok (L N : Nat) : TellsOk Try.prog (Φ159 L N) := addT_ok (Φ152_ok L N) (f159.ok L N (Φ152_ok L N))
def f149.b' {R : Type} (L N : Nat) (k : Bool → Option R) (x0 : Tree) (x1 : Int) : Option R :=
  (f159 L N (Tree.mk x0.op x0.n x0.parts)).bind fun y0 =>
  bif y0 then
    (f96 L N x1 (0 : Int) (3 : Int)).bind fun y1 =>
    bif y1 then
      (f158 L N N (Tree.mk x0.op x0.n x0.parts) false).bind fun y2 =>
      k (decide (y2 < x1))
    else k false
  else k false
def f149.b {R : Type} (L N : Nat) (k : Bool → Option R) (x0 : Tree) (x1 : Int) : Option R :=
  f149.b' L N k x0 x1
def f149 (L N : Nat) (x0 : Tree) (x1 : Int) : Option (Bool) := f149.b L N some x0 x1
def f149.ent (L N : Nat) := entRo [(.st 1), i64] (.one .bool) fun d => f149 L N d.1 d.2.1
noncomputable def E149 (L N : Nat) : Env := { P := Try.prog, ty := tyOf, Φ := (Φ159 L N), inl := inlT, live := lives, liveX := livesX, L := L, dp := none, prom := promT, heal := healT, ren := renT }
theorem f149.b_eq {R : Type} (L N : Nat) (κ : AV → Option R) (x0 : Tree) (x1 : Int) :
    evBody (E149 L N) (evCallI (E149 L N) 1 2000) 1000 149 Try.f149 [(.tv (.st 1) x0), (.tv i64 x1)] [] [] (finC (.one .bool) κ)
    = f149.b L N (fun a0 => κ (.tv .bool a0)) x0 x1 := by kernel_rfl
theorem f149.ok (L N : Nat) (hΦ : TellsOk Try.prog ((Φ159 L N))) : EntOk Try.prog 149 (f149.ent L N) := entRo_ok (E := (E149 L N)) (dep := 1000) (f := Try.f149) (sound_of hΦ) okP (callI_sound (sound_of hΦ) okP 1 2000) rfl rfl fun d _ hy => (f149.b_eq L N (unR (.one .bool)) d.1 d.2.1).trans (Eq.trans (b := f149.b L N some d.1 d.2.1) (by kernel_rfl) hy)
def Φ149 (L N : Nat) : Tells := (addT (Φ159 L N) 149 (f149.ent L N))
theorem Φ149_ok (L N : Nat) : TellsOk Try.prog (Φ149 L N) := addT_ok (Φ159_ok L N) (f149.ok L N (Φ159_ok L N))
def f148.s0' {R : Type} (L N : Nat) (k0_e0 : LT → Option R) (k0_r : LT → Bool → Option R) (rec0 : LT → Int → Option R) (s0 : LT) (s1 : Int) : Option R :=
  bif (decide (s1 < (s0.length : Int))) then
    bif (decide (0 ≤ s1) && decide (s1 < (s0.length : Int))) then
      (f149 L N (listAt s0 (Ty.dflt (.st 1)) s1.toNat) (s0.length : Int)).bind fun y3 =>
      bif (!y3) then
        k0_r s0 false
      else bif (decide (0 ≤ s1) && decide (s1 < (s0.length : Int))) then
        (f158 L N N (listAt s0 (Ty.dflt (.st 1)) s1.toNat) true).bind fun y4 =>
        bif (decide (y4 ≥ (0 : Int))) then
          k0_r s0 false
        else rec0 s0 (wi (s1 + (1 : Int)))
      else none
    else none
  else k0_e0 s0
def f148.s0 {R : Type} (L N : Nat) (k0_e0 : LT → Option R) (k0_r : LT → Bool → Option R) (rec0 : LT → Int → Option R) (s0 : LT) (s1 : Int) : Option R :=
  f148.s0' L N k0_e0 k0_r rec0 s0 s1
def f148.l0 {R : Type} (L N : Nat) (k0_e0 : LT → Option R) (k0_r : LT → Bool → Option R) : Nat → LT → Int → Option R
  | 0, _, _ => none
  | n + 1, s0, s1 => f148.s0 L N k0_e0 k0_r (f148.l0 L N k0_e0 k0_r n) s0 s1
def f148.T0 (s0 : LT) (s1 : Int) : T := mkT 29 [(0, (.tv (.sl (.st 1)) s0)), (3, (.tv i64 s1))]
def f148.H0 (s0 : LT) (s1 : Int) : H := []
def f148.T0_e0 (z2 : LT) : T := mkT 29 [(0, (.tv (.sl (.st 1)) z2))]
def f148.H0_e0 (z2 : LT) : H := []
def f148.T0_r (z8 : LT) (z9 : Bool) : T := mkT 29 [(0, (.tv (.sl (.st 1)) z8)), (2, (.tv .bool z9))]
def f148.H0_r (z8 : LT) (z9 : Bool) : H := []
def f148.p0_e0' {R : Type} (L N : Nat) (k : Bool → Option R) (z2 : LT) : Option R :=
  k (decide ((z2.length : Int) ≤ (3 : Int)))
def f148.p0_e0 {R : Type} (L N : Nat) (k : Bool → Option R) (z2 : LT) : Option R :=
  f148.p0_e0' L N k z2
def f148.p0_r' {R : Type} (L N : Nat) (k : Bool → Option R) (z8 : LT) (z9 : Bool) : Option R :=
  k z9
def f148.p0_r {R : Type} (L N : Nat) (k : Bool → Option R) (z8 : LT) (z9 : Bool) : Option R :=
  f148.p0_r' L N k z8 z9
def f148.b' {R : Type} (L N : Nat) (k : Bool → Option R) (w0 : LT → Int → Option R) (x0 : LT) : Option R :=
  w0 x0 (0 : Int)
def f148.b {R : Type} (L N : Nat) (k : Bool → Option R) (x0 : LT) : Option R :=
  f148.b' L N k (fun s0 s1 => f148.l0 L N (fun z2 => f148.p0_e0 L N k z2) (fun z8 z9 => f148.p0_r L N k z8 z9) L s0 s1) x0
def f148 (L N : Nat) (x0 : LT) : Option (Bool) := f148.b L N some x0
def f148.ent (L N : Nat) := entRo [(.sl (.st 1))] (.one .bool) fun d => f148 L N d.1
noncomputable def E148 (L N : Nat) : Env := { P := Try.prog, ty := tyOf, Φ := (Φ149 L N), inl := inlT, live := lives, liveX := livesX, L := L, dp := none, prom := promT, heal := healT, ren := renT }
noncomputable def f148.c0 : Code := loopAt 0 (codeOf Try.f148)
def f148.X0_e0 {R : Type} (κ : KX R) := fun z2 => κ (.exit 0) (f148.T0_e0 z2) (f148.H0_e0 z2)
def f148.X0_r {R : Type} (κ : KX R) := fun z8 z9 => κ .ret (f148.T0_r z8 z9) (f148.H0_r z8 z9)
def f148.R0 {R : Type} (rec : KT R) := fun s0 s1 => rec (f148.T0 s0 s1) (f148.H0 s0 s1)
theorem f148.s0_eq {R : Type} (L N : Nat) (κ : KX R) (rec : KT R) (s0 : LT) (s1 : Int) :
    evRd (E148 L N) (evCallI (E148 L N) 1 2000) 1000 148 29 0 f148.c0 κ rec (f148.T0 s0 s1) (f148.H0 s0 s1)
    = f148.s0 L N (f148.X0_e0 κ) (f148.X0_r κ) (f148.R0 rec) s0 s1 := by kernel_rfl
theorem f148.l0_eq {R : Type} (L N : Nat) (κ : KX R) : ∀ (n : Nat) (s0 : LT) (s1 : Int),
    evLp (E148 L N) (evCallI (E148 L N) 1 2000) 1000 148 29 0 f148.c0 κ n (f148.T0 s0 s1) (f148.H0 s0 s1)
    = f148.l0 L N (f148.X0_e0 κ) (f148.X0_r κ) n s0 s1 := by
  intro n
  induction n with
  | zero => intros; rfl
  | succ n ih =>
    intro s0 s1
    rw [evLp_succ, f148.s0_eq]
    delta f148.R0
    simp only [ih]
    rfl
theorem f148.p0_e0_eq {R : Type} (L N : Nat) (κ : AV → Option R) (z2 : LT) :
    (contAt (E148 L N) (evCallI (E148 L N) 1 2000) 1000 148 29 0 (codeOf Try.f148) (finK (E148 L N) 1000 Try.f148 (finC (.one .bool) κ))) (.exit 0) (f148.T0_e0 z2) (f148.H0_e0 z2)
    = f148.p0_e0 L N (fun a0 => κ (.tv .bool a0)) z2 := by kernel_rfl
theorem f148.p0_r_eq {R : Type} (L N : Nat) (κ : AV → Option R) (z8 : LT) (z9 : Bool) :
    (contAt (E148 L N) (evCallI (E148 L N) 1 2000) 1000 148 29 0 (codeOf Try.f148) (finK (E148 L N) 1000 Try.f148 (finC (.one .bool) κ))) .ret (f148.T0_r z8 z9) (f148.H0_r z8 z9)
    = f148.p0_r L N (fun a0 => κ (.tv .bool a0)) z8 z9 := by kernel_rfl
theorem f148.b_eq {R : Type} (L N : Nat) (κ : AV → Option R) (x0 : LT) :
    evBody (E148 L N) (evCallI (E148 L N) 1 2000) 1000 148 Try.f148 [(.tv (.sl (.st 1)) x0)] [] [] (finC (.one .bool) κ)
    = f148.b L N (fun a0 => κ (.tv .bool a0)) x0 := by
  refine Eq.trans (b := f148.b' L N (fun a0 => κ (.tv .bool a0)) (fun s0 s1 => evLp (E148 L N) (evCallI (E148 L N) 1 2000) 1000 148 29 0 f148.c0 (contAt (E148 L N) (evCallI (E148 L N) 1 2000) 1000 148 29 0 (codeOf Try.f148) (finK (E148 L N) 1000 Try.f148 (finC (.one .bool) κ))) L (f148.T0 s0 s1) (f148.H0 s0 s1)) x0) (by kernel_rfl) ?_
  unfold f148.b
  simp only [f148.l0_eq]
  delta f148.X0_e0 f148.X0_r
  simp only [f148.p0_e0_eq, f148.p0_r_eq]
theorem f148.ok (L N : Nat) (hΦ : TellsOk Try.prog ((Φ149 L N))) : EntOk Try.prog 148 (f148.ent L N) := entRo_ok (E := (E148 L N)) (dep := 1000) (f := Try.f148) (sound_of hΦ) okP (callI_sound (sound_of hΦ) okP 1 2000) rfl rfl fun d _ hy => (f148.b_eq L N (unR (.one .bool)) d.1).trans (Eq.trans (b := f148.b L N some d.1) (by kernel_rfl) hy)
def Φ148 (L N : Nat) : Tells := (addT (Φ149 L N) 148 (f148.ent L N))
theorem Φ148_ok (L N : Nat) : TellsOk Try.prog (Φ148 L N) := addT_ok (Φ149_ok L N) (f148.ok L N (Φ149_ok L N))
def f132.b' {R : Type} (L N : Nat) (k : Bool → Option R) (x0 : Tree) (x1 : LT) : Option R :=
  (f148 L N x1).bind fun y0 =>
  bif y0 then
    (f149 L N (Tree.mk x0.op x0.n x0.parts) (x1.length : Int)).bind fun y1 =>
    k y1
  else k false
def f132.b {R : Type} (L N : Nat) (k : Bool → Option R) (x0 : Tree) (x1 : LT) : Option R :=
  f132.b' L N k x0 x1
def f132 (L N : Nat) (x0 : Tree) (x1 : LT) : Option (Bool) := f132.b L N some x0 x1
def f132.ent (L N : Nat) := entRo [(.st 1), (.sl (.st 1))] (.one .bool) fun d => f132 L N d.1 d.2.1
noncomputable def E132 (L N : Nat) : Env := { P := Try.prog, ty := tyOf, Φ := (Φ148 L N), inl := inlT, live := lives, liveX := livesX, L := L, dp := none, prom := promT, heal := healT, ren := renT }
theorem f132.b_eq {R : Type} (L N : Nat) (κ : AV → Option R) (x0 : Tree) (x1 : LT) :
    evBody (E132 L N) (evCallI (E132 L N) 1 2000) 1000 132 Try.f132 [(.tv (.st 1) x0), (.tv (.sl (.st 1)) x1)] [] [] (finC (.one .bool) κ)
    = f132.b L N (fun a0 => κ (.tv .bool a0)) x0 x1 := by kernel_rfl
theorem f132.ok (L N : Nat) (hΦ : TellsOk Try.prog ((Φ148 L N))) : EntOk Try.prog 132 (f132.ent L N) := entRo_ok (E := (E132 L N)) (dep := 1000) (f := Try.f132) (sound_of hΦ) okP (callI_sound (sound_of hΦ) okP 1 2000) rfl rfl fun d _ hy => (f132.b_eq L N (unR (.one .bool)) d.1 d.2.1).trans (Eq.trans (b := f132.b L N some d.1 d.2.1) (by kernel_rfl) hy)
def Φ132 (L N : Nat) : Tells := (addT (Φ148 L N) 132 (f132.ent L N))
theorem Φ132_ok (L N : Nat) : TellsOk Try.prog (Φ132 L N) := addT_ok (Φ148_ok L N) (f132.ok L N (Φ148_ok L N))
def f160.b' {R : Type} (L N : Nat) (self160 : Int → Option (ByteArray)) (k : ByteArray → Option R) (x0 : Int) : Option R :=
  bif (decide (x0 < (-9223372036854775807 : Int))) then
    k (ByteArray.mk #[45, 57, 50, 50, 51, 51, 55, 50, 48, 51, 54, 56, 53, 52, 55, 55, 53, 56, 48, 56])
  else bif (decide (x0 < (0 : Int))) then
    (self160 (wi (0 - x0))).bind fun y0 =>
    bif (decide ((ByteArray.mk #[45]).size + y0.size ≤ 4611686018427387904)) then
      k ((ByteArray.mk #[45]) ++ y0)
    else none
  else bif (decide (x0 < (10 : Int))) then
    k (strOfNums ([(IntKind.wrap .u8 ((wi ((48 : Int) + x0))))] : LI))
  else bif (decide ((10 : Int) = 0)) then
    none
  else (self160 (wi (Int.tdiv x0 (10 : Int)))).bind fun y1 =>
  bif (decide ((10 : Int) = 0)) then
    none
  else bif (decide (y1.size + (strOfNums ([(IntKind.wrap .u8 ((wi ((48 : Int) + (Int.tmod x0 (10 : Int))))))] : LI)).size ≤ 4611686018427387904)) then
    k (y1 ++ (strOfNums ([(IntKind.wrap .u8 ((wi ((48 : Int) + (Int.tmod x0 (10 : Int))))))] : LI)))
  else none
def f160.b {R : Type} (L N : Nat) (self160 : Int → Option (ByteArray)) (k : ByteArray → Option R) (x0 : Int) : Option R :=
  f160.b' L N self160 k x0
def f160 (L N : Nat) : Nat → Int → Option (ByteArray)
  | 0, _ => none
  | n + 1, x0 => f160.b L N (f160 L N n) some x0
def f160.ent (L N m : Nat) := entRo [i64] (.one .str) fun d => f160 L N m d.1
def Φ160s (L N m : Nat) : Tells := (addT (Φ132 L N) 160 (f160.ent L N m))
noncomputable def E160 (L N m : Nat) : Env := { P := Try.prog, ty := tyOf, Φ := Φ160s L N m, inl := inlT, live := lives, liveX := livesX, L := L, dp := none, prom := promT, heal := healT, ren := renT }
theorem f160.b_eq {R : Type} (L N m : Nat) (κ : AV → Option R) (x0 : Int) :
    evBody (E160 L N m) (evCallI (E160 L N m) 1 2000) 1000 160 Try.f160 [(.tv i64 x0)] [] [] (finC (.one .str) κ)
    = f160.b L N (f160 L N m) (fun a0 => κ (.tv .str a0)) x0 := by kernel_rfl
theorem f160.ok (L N m : Nat) (hΦ : TellsOk Try.prog (Φ160s L N m)) : EntOk Try.prog 160 (f160.ent L N (m + 1)) := entRo_ok (E := (E160 L N m)) (dep := 1000) (f := Try.f160) (sound_of hΦ) okP (callI_sound (sound_of hΦ) okP 1 2000) rfl rfl fun d _ hy => (f160.b_eq L N m (unR (.one .str)) d.1).trans (Eq.trans (b := f160.b L N (f160 L N m) some d.1) (by kernel_rfl) hy)
theorem Φ160s_ok (L N : Nat) : ∀ m, TellsOk Try.prog (Φ160s L N m) := by
  intro m
  induction m with
  | zero => exact (addT_ok (Φ132_ok L N) (entRo_no fun _ => rfl))
  | succ m ih => exact (addT_ok (Φ132_ok L N) (f160.ok L N m ih))
def Φ160 (L N : Nat) : Tells := (addT (Φ132 L N) 160 (f160.ent L N N))
theorem Φ160_ok (L N : Nat) : TellsOk Try.prog (Φ160 L N) := Φ160s_ok L N N
def f161.b' {R : Type} (L N : Nat) (k : LY → Option R) : Option R :=
  k ([(ByteArray.mk #[]), (ByteArray.mk #[97, 99, 116]), (ByteArray.mk #[115, 117, 109]), (ByteArray.mk #[112, 97, 114]), (ByteArray.mk #[104, 105, 100, 101])] : LY)
def f161.b {R : Type} (L N : Nat) (k : LY → Option R) : Option R :=
  f161.b' L N k
def f161 (L N : Nat) : Option (LY) := f161.b L N some
def f161.ent (L N : Nat) := entDa [] (.one (.sl .str)) fun d => f161 L N
noncomputable def E161 (L N : Nat) : Env := { P := Try.prog, ty := tyOf, Φ := (Φ160 L N), inl := inlT, live := lives, liveX := livesX, L := L, dp := none, prom := promT, heal := healT, ren := renT }
theorem f161.b_eq {R : Type} (L N : Nat) (κ : AV → Option R) :
    evBody (E161 L N) (evCallI (E161 L N) 1 2000) 1000 161 Try.f161 [] [] [] (finC (.one (.sl .str)) κ)
    = f161.b L N (fun a0 => κ (.tv (.sl .str) a0)) := by kernel_rfl
theorem f161.ok (L N : Nat) (hΦ : TellsOk Try.prog ((Φ160 L N))) : EntOk Try.prog 161 (f161.ent L N) := entDa_ok (E := (E161 L N)) (dep := 1000) (f := Try.f161) (sound_of hΦ) okP (callI_sound (sound_of hΦ) okP 1 2000) rfl fun _ _ hy => (f161.b_eq L N (unR (.one (.sl .str)))).trans (Eq.trans (b := f161.b L N some) (by kernel_rfl) hy)
def Φ161 (L N : Nat) : Tells := (addT (Φ160 L N) 161 (f161.ent L N))
theorem Φ161_ok (L N : Nat) : TellsOk Try.prog (Φ161 L N) := addT_ok (Φ160_ok L N) (f161.ok L N (Φ160_ok L N))
def f163.b' {R : Type} (L N : Nat) (k : Int → Option R) (x0 : Int) : Option R :=
  k (wi ((bif decide ((wi (0 - x0)) > x0) then (wi (0 - x0)) else x0) - (1 : Int)))
def f163.b {R : Type} (L N : Nat) (k : Int → Option R) (x0 : Int) : Option R :=
  f163.b' L N k x0
def f163 (L N : Nat) (x0 : Int) : Option (Int) := f163.b L N some x0
def f163.ent (L N : Nat) := entRo [i64] (.one i64) fun d => f163 L N d.1
noncomputable def E163 (L N : Nat) : Env := { P := Try.prog, ty := tyOf, Φ := (Φ161 L N), inl := inlT, live := lives, liveX := livesX, L := L, dp := none, prom := promT, heal := healT, ren := renT }
theorem f163.b_eq {R : Type} (L N : Nat) (κ : AV → Option R) (x0 : Int) :
    evBody (E163 L N) (evCallI (E163 L N) 1 2000) 1000 163 Try.f163 [(.tv i64 x0)] [] [] (finC (.one i64) κ)
    = f163.b L N (fun a0 => κ (.tv i64 a0)) x0 := by kernel_rfl
theorem f163.ok (L N : Nat) (hΦ : TellsOk Try.prog ((Φ161 L N))) : EntOk Try.prog 163 (f163.ent L N) := entRo_ok (E := (E163 L N)) (dep := 1000) (f := Try.f163) (sound_of hΦ) okP (callI_sound (sound_of hΦ) okP 1 2000) rfl rfl fun d _ hy => (f163.b_eq L N (unR (.one i64)) d.1).trans (Eq.trans (b := f163.b L N some d.1) (by kernel_rfl) hy)
def Φ163 (L N : Nat) : Tells := (addT (Φ161 L N) 163 (f163.ent L N))
theorem Φ163_ok (L N : Nat) : TellsOk Try.prog (Φ163 L N) := addT_ok (Φ161_ok L N) (f163.ok L N (Φ161_ok L N))
def f162.b' {R : Type} (L N : Nat) (k : ByteArray → Option R) (x0 : Int) : Option R :=
  bif (x0 == (0 : Int)) then
    k (ByteArray.mk #[116, 97, 117])
  else bif (decide (x0 < (0 : Int))) then
    (f163 L N x0).bind fun y0 =>
    (f163 L N x0).bind fun y1 =>
    bif (slB y0 (wi (y1 + (1 : Int))) (ByteArray.mk #[97, 98, 99, 100]).size) then
      bif (decide ((ByteArray.mk #[33]).size + ((ByteArray.mk #[97, 98, 99, 100]).extract y0.toNat (wi (y1 + (1 : Int))).toNat).size ≤ 4611686018427387904)) then
        k ((ByteArray.mk #[33]) ++ ((ByteArray.mk #[97, 98, 99, 100]).extract y0.toNat (wi (y1 + (1 : Int))).toNat))
      else none
    else none
  else (f163 L N x0).bind fun y2 =>
  (f163 L N x0).bind fun y3 =>
  bif (slB y2 (wi (y3 + (1 : Int))) (ByteArray.mk #[97, 98, 99, 100]).size) then
    k ((ByteArray.mk #[97, 98, 99, 100]).extract y2.toNat (wi (y3 + (1 : Int))).toNat)
  else none
def f162.b {R : Type} (L N : Nat) (k : ByteArray → Option R) (x0 : Int) : Option R :=
  f162.b' L N k x0
def f162 (L N : Nat) (x0 : Int) : Option (ByteArray) := f162.b L N some x0
def f162.ent (L N : Nat) := entRo [i64] (.one .str) fun d => f162 L N d.1
noncomputable def E162 (L N : Nat) : Env := { P := Try.prog, ty := tyOf, Φ := (Φ163 L N), inl := inlT, live := lives, liveX := livesX, L := L, dp := none, prom := promT, heal := healT, ren := renT }
theorem f162.b_eq {R : Type} (L N : Nat) (κ : AV → Option R) (x0 : Int) :
    evBody (E162 L N) (evCallI (E162 L N) 1 2000) 1000 162 Try.f162 [(.tv i64 x0)] [] [] (finC (.one .str) κ)
    = f162.b L N (fun a0 => κ (.tv .str a0)) x0 := by kernel_rfl
theorem f162.ok (L N : Nat) (hΦ : TellsOk Try.prog ((Φ163 L N))) : EntOk Try.prog 162 (f162.ent L N) := entRo_ok (E := (E162 L N)) (dep := 1000) (f := Try.f162) (sound_of hΦ) okP (callI_sound (sound_of hΦ) okP 1 2000) rfl rfl fun d _ hy => (f162.b_eq L N (unR (.one .str)) d.1).trans (Eq.trans (b := f162.b L N some d.1) (by kernel_rfl) hy)
def Φ162 (L N : Nat) : Tells := (addT (Φ163 L N) 162 (f162.ent L N))
theorem Φ162_ok (L N : Nat) : TellsOk Try.prog (Φ162 L N) := addT_ok (Φ163_ok L N) (f162.ok L N (Φ163_ok L N))
def f150.s0' {R : Type} (L N : Nat) (self150 : Tree → Option (ByteArray)) (k0_e1 : ByteArray → Option R) (rec0 : ByteArray → Int → Int → Int → LT → Option R) (s12 : ByteArray) (s13 : Int) (s14 : Int) (s15 : Int) (s16 : LT) : Option R :=
  bif (decide (s13 < (s16.length : Int))) then
    bif (decide (s12.size + (ByteArray.mk #[32]).size ≤ 4611686018427387904)) then
      bif (decide (0 ≤ s13) && decide (s13 < (s16.length : Int))) then
        (self150 (listAt s16 (Ty.dflt (.st 1)) s13.toNat)).bind fun y18 =>
        bif (decide ((s12 ++ (ByteArray.mk #[32])).size + y18.size ≤ 4611686018427387904)) then
          rec0 ((s12 ++ (ByteArray.mk #[32])) ++ y18) (wi (s13 + (1 : Int))) s14 s15 s16
        else none
      else none
    else none
  else k0_e1 s12
def f150.s0 {R : Type} (L N : Nat) (self150 : Tree → Option (ByteArray)) (k0_e1 : ByteArray → Option R) (rec0 : ByteArray → Int → Int → Int → LT → Option R) (s12 : ByteArray) (s13 : Int) (s14 : Int) (s15 : Int) (s16 : LT) : Option R :=
  f150.s0' L N self150 k0_e1 rec0 s12 s13 s14 s15 s16
def f150.l0 {R : Type} (L N : Nat) (self150 : Tree → Option (ByteArray)) (k0_e1 : ByteArray → Option R) : Nat → ByteArray → Int → Int → Int → LT → Option R
  | 0, _, _, _, _, _ => none
  | n + 1, s12, s13, s14, s15, s16 => f150.s0 L N self150 k0_e1 (f150.l0 L N self150 k0_e1 n) s12 s13 s14 s15 s16
def f150.T0 (s12 : ByteArray) (s13 : Int) (s14 : Int) (s15 : Int) (s16 : LT) : T := mkT 58 [(1, (.ptr 1001 0)), (3, (.tv .str s12)), (4, (.tv i64 s13))]
def f150.H0 (s12 : ByteArray) (s13 : Int) (s14 : Int) (s15 : Int) (s16 : LT) : H := [(1001, (.box [(.tv i64 s14), (.tv i64 s15), (.tv (.sl (.st 1)) s16)]))]
def f150.T0_e1 (z17 : ByteArray) : T := mkT 58 [(3, (.tv .str z17))]
def f150.H0_e1 (z17 : ByteArray) : H := []
def f150.p0_e1' {R : Type} (L N : Nat) (self150 : Tree → Option (ByteArray)) (k : ByteArray → Option R) (z17 : ByteArray) : Option R :=
  bif (decide (z17.size + (ByteArray.mk #[41]).size ≤ 4611686018427387904)) then
    k (z17 ++ (ByteArray.mk #[41]))
  else none
def f150.p0_e1 {R : Type} (L N : Nat) (self150 : Tree → Option (ByteArray)) (k : ByteArray → Option R) (z17 : ByteArray) : Option R :=
  f150.p0_e1' L N self150 k z17
def f150.j0' {R : Type} (L N : Nat) (self150 : Tree → Option (ByteArray)) (k : ByteArray → Option R) (w0 : ByteArray → Int → Int → Int → LT → Option R) (v8 : ByteArray) (v9 : Int) (v10 : Int) (v11 : LT) : Option R :=
  w0 v8 (0 : Int) v9 v10 v11
def f150.j1' {R : Type} (L N : Nat) (self150 : Tree → Option (ByteArray)) (k : ByteArray → Option R) (w0 : ByteArray → Int → Int → Int → LT → Option R) (v3 : ByteArray) (v4 : Int) (v5 : Int) (v6 : LT) : Option R :=
  bif (v4 == (4 : Int)) then
    bif (decide (v3.size + (ByteArray.mk #[32]).size ≤ 4611686018427387904)) then
      (f162 L N (wi (v5 + (1 : Int)))).bind fun y7 =>
      bif (decide ((v3 ++ (ByteArray.mk #[32])).size + y7.size ≤ 4611686018427387904)) then
        f150.j0' L N self150 k w0 ((v3 ++ (ByteArray.mk #[32])) ++ y7) v4 v5 v6
      else none
    else none
  else f150.j0' L N self150 k w0 v3 v4 v5 v6
def f150.b' {R : Type} (L N : Nat) (self150 : Tree → Option (ByteArray)) (k : ByteArray → Option R) (w0 : ByteArray → Int → Int → Int → LT → Option R) (x0 : Tree) : Option R :=
  bif (x0.op == (0 : Int)) then
    k (ByteArray.mk #[48])
  else bif (x0.op == (5 : Int)) then
    (f160 L N N x0.n).bind fun y0 =>
    bif (decide ((ByteArray.mk #[88]).size + y0.size ≤ 4611686018427387904)) then
      k ((ByteArray.mk #[88]) ++ y0)
    else none
  else (f161 L N).bind fun y1 =>
  bif (decide (0 ≤ x0.op) && decide (x0.op < (y1.length : Int))) then
    bif (decide ((ByteArray.mk #[40]).size + (listAt y1 ByteArray.empty x0.op.toNat).size ≤ 4611686018427387904)) then
      bif (x0.op == (1 : Int)) then
        bif (decide (((ByteArray.mk #[40]) ++ (listAt y1 ByteArray.empty x0.op.toNat)).size + (ByteArray.mk #[32]).size ≤ 4611686018427387904)) then
          (f162 L N x0.n).bind fun y2 =>
          bif (decide ((((ByteArray.mk #[40]) ++ (listAt y1 ByteArray.empty x0.op.toNat)) ++ (ByteArray.mk #[32])).size + y2.size ≤ 4611686018427387904)) then
            f150.j1' L N self150 k w0 ((((ByteArray.mk #[40]) ++ (listAt y1 ByteArray.empty x0.op.toNat)) ++ (ByteArray.mk #[32])) ++ y2) x0.op x0.n x0.parts
          else none
        else none
      else f150.j1' L N self150 k w0 ((ByteArray.mk #[40]) ++ (listAt y1 ByteArray.empty x0.op.toNat)) x0.op x0.n x0.parts
    else none
  else none
def f150.b {R : Type} (L N : Nat) (self150 : Tree → Option (ByteArray)) (k : ByteArray → Option R) (x0 : Tree) : Option R :=
  f150.b' L N self150 k (fun s12 s13 s14 s15 s16 => f150.l0 L N self150 (fun z17 => f150.p0_e1 L N self150 k z17) L s12 s13 s14 s15 s16) x0
def f150 (L N : Nat) : Nat → Tree → Option (ByteArray)
  | 0, _ => none
  | n + 1, x0 => f150.b L N (f150 L N n) some x0
def f150.ent (L N m : Nat) := entRo [(.st 1)] (.one .str) fun d => f150 L N m d.1
def Φ150s (L N m : Nat) : Tells := (addT (Φ162 L N) 150 (f150.ent L N m))
noncomputable def E150 (L N m : Nat) : Env := { P := Try.prog, ty := tyOf, Φ := Φ150s L N m, inl := inlT, live := lives, liveX := livesX, L := L, dp := none, prom := promT, heal := healT, ren := renT }
noncomputable def f150.c0 : Code := loopAt 1 (codeOf Try.f150)
def f150.X0_e1 {R : Type} (κ : KX R) := fun z17 => κ (.exit 1) (f150.T0_e1 z17) (f150.H0_e1 z17)
def f150.R0 {R : Type} (rec : KT R) := fun s12 s13 s14 s15 s16 => rec (f150.T0 s12 s13 s14 s15 s16) (f150.H0 s12 s13 s14 s15 s16)
theorem f150.s0_eq {R : Type} (L N m : Nat) (κ : KX R) (rec : KT R) (s12 : ByteArray) (s13 : Int) (s14 : Int) (s15 : Int) (s16 : LT) :
    evRd (E150 L N m) (evCallI (E150 L N m) 1 2000) 1000 150 58 1 f150.c0 κ rec (f150.T0 s12 s13 s14 s15 s16) (f150.H0 s12 s13 s14 s15 s16)
    = f150.s0 L N (f150 L N m) (f150.X0_e1 κ) (f150.R0 rec) s12 s13 s14 s15 s16 := by kernel_rfl
theorem f150.l0_eq {R : Type} (L N m : Nat) (κ : KX R) : ∀ (n : Nat) (s12 : ByteArray) (s13 : Int) (s14 : Int) (s15 : Int) (s16 : LT),
    evLp (E150 L N m) (evCallI (E150 L N m) 1 2000) 1000 150 58 1 f150.c0 κ n (f150.T0 s12 s13 s14 s15 s16) (f150.H0 s12 s13 s14 s15 s16)
    = f150.l0 L N (f150 L N m) (f150.X0_e1 κ) n s12 s13 s14 s15 s16 := by
  intro n
  induction n with
  | zero => intros; rfl
  | succ n ih =>
    intro s12 s13 s14 s15 s16
    rw [evLp_succ, f150.s0_eq]
    delta f150.R0
    simp only [ih]
    rfl
theorem f150.p0_e1_eq {R : Type} (L N m : Nat) (κ : AV → Option R) (z17 : ByteArray) :
    (contAt (E150 L N m) (evCallI (E150 L N m) 1 2000) 1000 150 58 1 (codeOf Try.f150) (finK (E150 L N m) 1000 Try.f150 (finC (.one .str) κ))) (.exit 1) (f150.T0_e1 z17) (f150.H0_e1 z17)
    = f150.p0_e1 L N (f150 L N m) (fun a0 => κ (.tv .str a0)) z17 := by kernel_rfl
theorem f150.b_eq {R : Type} (L N m : Nat) (κ : AV → Option R) (x0 : Tree) :
    evBody (E150 L N m) (evCallI (E150 L N m) 1 2000) 1000 150 Try.f150 [(.tv (.st 1) x0)] [] [] (finC (.one .str) κ)
    = f150.b L N (f150 L N m) (fun a0 => κ (.tv .str a0)) x0 := by
  refine Eq.trans (b := f150.b' L N (f150 L N m) (fun a0 => κ (.tv .str a0)) (fun s12 s13 s14 s15 s16 => evLp (E150 L N m) (evCallI (E150 L N m) 1 2000) 1000 150 58 1 f150.c0 (contAt (E150 L N m) (evCallI (E150 L N m) 1 2000) 1000 150 58 1 (codeOf Try.f150) (finK (E150 L N m) 1000 Try.f150 (finC (.one .str) κ))) L (f150.T0 s12 s13 s14 s15 s16) (f150.H0 s12 s13 s14 s15 s16)) x0) (by kernel_rfl) ?_
  unfold f150.b
  simp only [f150.l0_eq]
  delta f150.X0_e1
  simp only [f150.p0_e1_eq]
theorem f150.ok (L N m : Nat) (hΦ : TellsOk Try.prog (Φ150s L N m)) : EntOk Try.prog 150 (f150.ent L N (m + 1)) := entRo_ok (E := (E150 L N m)) (dep := 1000) (f := Try.f150) (sound_of hΦ) okP (callI_sound (sound_of hΦ) okP 1 2000) rfl rfl fun d _ hy => (f150.b_eq L N m (unR (.one .str)) d.1).trans (Eq.trans (b := f150.b L N (f150 L N m) some d.1) (by kernel_rfl) hy)
theorem Φ150s_ok (L N : Nat) : ∀ m, TellsOk Try.prog (Φ150s L N m) := by
  intro m
  induction m with
  | zero => exact (addT_ok (Φ162_ok L N) (entRo_no fun _ => rfl))
  | succ m ih => exact (addT_ok (Φ162_ok L N) (f150.ok L N m ih))
def Φ150 (L N : Nat) : Tells := (addT (Φ162 L N) 150 (f150.ent L N N))
theorem Φ150_ok (L N : Nat) : TellsOk Try.prog (Φ150 L N) := Φ150s_ok L N N
def f151.s0' {R : Type} (L N : Nat) (self151 : Tree → LT → Option (LS)) (k0_e1 : Int → Int → LT → LS → LS → LS → Option R) (rec0 : Int → Int → Int → LT → LS → LS → LS → Option R) (s4 : Int) (s5 : Int) (s6 : Int) (s7 : LT) (s8 : LS) (s9 : LS) (s10 : LS) : Option R :=
  bif (decide (s4 < (s9.length : Int))) then
    bif (decide (0 ≤ s4) && decide (s4 < (s9.length : Int))) then
      bif (decide (0 ≤ s4) && decide (s4 < (s9.length : Int))) then
        bif (decide (0 ≤ (1 : Int)) && decide ((1 : Int) < (s7.length : Int))) then
          bif (decide (s8.length + ([(Step.mk ((listAt s9 (Ty.dflt (.st 3)) s4.toNat).act) (Tree.mk (3 : Int) (0 : Int) ([(Tree.mk ((listAt s9 (Ty.dflt (.st 3)) s4.toNat).thn.op) ((listAt s9 (Ty.dflt (.st 3)) s4.toNat).thn.n) ((listAt s9 (Ty.dflt (.st 3)) s4.toNat).thn.parts)), (listAt s7 (Ty.dflt (.st 1)) (1 : Int).toNat)] : LT)))] : LS).length ≤ lim)) then
            rec0 (wi (s4 + (1 : Int))) s5 s6 s7 (s8 ++ ([(Step.mk ((listAt s9 (Ty.dflt (.st 3)) s4.toNat).act) (Tree.mk (3 : Int) (0 : Int) ([(Tree.mk ((listAt s9 (Ty.dflt (.st 3)) s4.toNat).thn.op) ((listAt s9 (Ty.dflt (.st 3)) s4.toNat).thn.n) ((listAt s9 (Ty.dflt (.st 3)) s4.toNat).thn.parts)), (listAt s7 (Ty.dflt (.st 1)) (1 : Int).toNat)] : LT)))] : LS)) s9 s10
          else none
        else none
      else none
    else none
  else k0_e1 s5 s6 s7 s8 s9 s10
def f151.s0 {R : Type} (L N : Nat) (self151 : Tree → LT → Option (LS)) (k0_e1 : Int → Int → LT → LS → LS → LS → Option R) (rec0 : Int → Int → Int → LT → LS → LS → LS → Option R) (s4 : Int) (s5 : Int) (s6 : Int) (s7 : LT) (s8 : LS) (s9 : LS) (s10 : LS) : Option R :=
  f151.s0' L N self151 k0_e1 rec0 s4 s5 s6 s7 s8 s9 s10
def f151.l0 {R : Type} (L N : Nat) (self151 : Tree → LT → Option (LS)) (k0_e1 : Int → Int → LT → LS → LS → LS → Option R) : Nat → Int → Int → Int → LT → LS → LS → LS → Option R
  | 0, _, _, _, _, _, _, _ => none
  | n + 1, s4, s5, s6, s7, s8, s9, s10 => f151.s0 L N self151 k0_e1 (f151.l0 L N self151 k0_e1 n) s4 s5 s6 s7 s8 s9 s10
def f151.T0 (s4 : Int) (s5 : Int) (s6 : Int) (s7 : LT) (s8 : LS) (s9 : LS) (s10 : LS) : T := mkT 217 [(2, (.ptr 1002 0)), (5, (.row 1014)), (6, (.row 1051)), (7, (.row 1057)), (8, (.tv i64 s4))]
def f151.H0 (s4 : Int) (s5 : Int) (s6 : Int) (s7 : LT) (s8 : LS) (s9 : LS) (s10 : LS) : H := [(1002, (.box [(.tv i64 s5), (.tv i64 s6), (.tv (.sl (.st 1)) s7)])), (1014, (.row 146 (.st 3) s8)), (1051, (.row 146 (.st 3) s9)), (1057, (.row 146 (.st 3) s10))]
def f151.T0_e1 (z11 : Int) (z12 : Int) (z13 : LT) (z14 : LS) (z15 : LS) (z16 : LS) : T := mkT 217 [(2, (.ptr 1002 0)), (5, (.row 1014)), (6, (.row 1051)), (7, (.row 1057))]
def f151.H0_e1 (z11 : Int) (z12 : Int) (z13 : LT) (z14 : LS) (z15 : LS) (z16 : LS) : H := [(1002, (.box [(.tv i64 z11), (.tv i64 z12), (.tv (.sl (.st 1)) z13)])), (1014, (.row 146 (.st 3) z14)), (1051, (.row 146 (.st 3) z15)), (1057, (.row 146 (.st 3) z16))]
def f151.s1' {R : Type} (L N : Nat) (self151 : Tree → LT → Option (LS)) (k1_e3 : LS → LS → LS → Option R) (rec1 : Int → Int → Int → LT → LS → LS → LS → Option R) (s17 : Int) (s18 : Int) (s19 : Int) (s20 : LT) (s21 : LS) (s22 : LS) (s23 : LS) : Option R :=
  bif (decide (s17 < (s23.length : Int))) then
    bif (decide (0 ≤ s17) && decide (s17 < (s23.length : Int))) then
      bif (decide (0 ≤ (0 : Int)) && decide ((0 : Int) < (s20.length : Int))) then
        bif (decide (0 ≤ s17) && decide (s17 < (s23.length : Int))) then
          bif (decide (s21.length + ([(Step.mk ((listAt s23 (Ty.dflt (.st 3)) s17.toNat).act) (Tree.mk (3 : Int) (0 : Int) ([(listAt s20 (Ty.dflt (.st 1)) (0 : Int).toNat), (Tree.mk ((listAt s23 (Ty.dflt (.st 3)) s17.toNat).thn.op) ((listAt s23 (Ty.dflt (.st 3)) s17.toNat).thn.n) ((listAt s23 (Ty.dflt (.st 3)) s17.toNat).thn.parts))] : LT)))] : LS).length ≤ lim)) then
            rec1 (wi (s17 + (1 : Int))) s18 s19 s20 (s21 ++ ([(Step.mk ((listAt s23 (Ty.dflt (.st 3)) s17.toNat).act) (Tree.mk (3 : Int) (0 : Int) ([(listAt s20 (Ty.dflt (.st 1)) (0 : Int).toNat), (Tree.mk ((listAt s23 (Ty.dflt (.st 3)) s17.toNat).thn.op) ((listAt s23 (Ty.dflt (.st 3)) s17.toNat).thn.n) ((listAt s23 (Ty.dflt (.st 3)) s17.toNat).thn.parts))] : LT)))] : LS)) s22 s23
          else none
        else none
      else none
    else none
  else k1_e3 s21 s22 s23
end Go.Proofs.Ytdfjdbpklbehoaa.Ev
