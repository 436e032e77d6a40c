/- The seat's functions as plain functions: made by program (wip/gen/gen.py). -/
import Derived.Test.YtffkhhblppfbfaaGreatDoorEvYa
import Derived.Test.YtffkhhblppfbfaaGreatDoorShelf
import Derived.Test.YtffkhhblppfbfaaGreatDoorEvMut
import Derived.Test.YtffkhhblppfbfaaGreatDoorEvMut2
namespace Go.Proofs.YtffkhhblppfbfaaGreatDoor.Ev
open Go
set_option linter.unusedVariables false
set_option maxRecDepth 20000
def tyTab : List (Nat × Ty) := [(2, i64), (3, i64), (4, .bool), (5, (.int .u8)), (6, (.int .u8)), (9, .str), (10, .str), (11, .str), (12, (.int .u64)), (21, (.int .i32)), (22, (.sl i64)), (23, (.sl (.sl (.st 0)))), (24, (.st 2)), (25, (.st 2)), (31, (.sl (.st 1))), (32, (.st 1)), (33, (.st 1)), (43, (.sl (.int .u8))), (46, (.sl (.st 0))), (47, (.st 0)), (48, (.st 0)), (58, (.sl (.sl i64))), (68, (.sl .bool)), (77, (.st 4)), (83, (.sl (.sl .bool))), (101, (.sl (.st 4))), (105, (.sl (.st 1))), (106, (.st 1)), (107, (.st 1)), (121, (.int .u64)), (131, i64), (138, (.int .u32)), (140, (.int .u64)), (152, (.sl .str)), (153, (.sl (.st 3))), (156, (.st 3)), (161, (.int .u64)), (192, (.int .u8)), (193, (.int .u8)), (196, (.int .i32)), (197, (.int .i32))]
def tyOf (t : Nat) : Option Ty := tyFind t tyTab
def lives (f i : Nat) : List Nat × List Nat :=
  bif Nat.beq f 4 && Nat.beq i 0 then ([3, 4, 8], [3, 4]) else
  bif Nat.beq f 4 && Nat.beq i 2 then ([3, 4, 8, 9], [3, 4]) else
  bif Nat.beq f 8 && Nat.beq i 0 then ([1, 18, 19, 20], [1]) else
  bif Nat.beq f 8 && Nat.beq i 2 then ([1, 4, 18, 19, 20, 24, 25, 26], [1]) else
  bif Nat.beq f 9 && Nat.beq i 0 then ([1, 3], [1]) else
  bif Nat.beq f 9 && Nat.beq i 2 then ([1, 3, 4], [1]) else
  bif Nat.beq f 23 && Nat.beq i 0 then ([1, 2, 4, 5, 6], [1, 2, 5, 17, 900]) else
  bif Nat.beq f 23 && Nat.beq i 2 then ([1, 2, 4, 5, 6, 7, 8], [1, 2, 5, 17, 25, 900]) else
  bif Nat.beq f 24 && Nat.beq i 0 then ([2, 3, 5], [2, 3]) else
  bif Nat.beq f 24 && Nat.beq i 2 then ([2, 3, 5, 6], [2, 3]) else
  bif Nat.beq f 28 && Nat.beq i 0 then ([0, 3, 4], [7]) else
  bif Nat.beq f 28 && Nat.beq i 2 then ([0, 3, 4, 5], [7]) else
  bif Nat.beq f 28 && Nat.beq i 4 then ([0, 3, 4, 5, 6], [7]) else
  bif Nat.beq f 49 && Nat.beq i 0 then ([1, 2, 6, 8, 9, 10, 11], [6, 10, 22, 23, 900, 901]) else
  bif Nat.beq f 49 && Nat.beq i 2 then ([1, 2, 6, 8, 9, 10, 11, 12, 15, 49, 50, 51], [6, 10, 22, 23, 48, 900, 901]) else
  bif Nat.beq f 50 && Nat.beq i 0 then ([2, 5, 11, 12, 13], [2, 10]) else
  bif Nat.beq f 51 && Nat.beq i 0 then ([3, 6, 7, 8], []) else
  bif Nat.beq f 52 && Nat.beq i 0 then ([0, 1, 6, 7, 14, 15, 16], [13]) else
  bif Nat.beq f 53 && Nat.beq i 0 then ([2, 5, 11, 12, 13], [2, 10]) else
  bif Nat.beq f 53 && Nat.beq i 2 then ([2, 5, 11, 12, 13, 21, 22, 23], [2, 10]) else
  bif Nat.beq f 54 && Nat.beq i 0 then ([2, 3, 7, 13, 14, 15], [3, 12]) else
  bif Nat.beq f 54 && Nat.beq i 2 then ([2, 3, 7, 13, 14, 15, 23, 24, 25], [3, 12]) else
  bif Nat.beq f 55 && Nat.beq i 0 then ([2, 3, 4, 5, 9, 10, 11], [4, 5, 22, 23]) else
  bif Nat.beq f 55 && Nat.beq i 2 then ([2, 3, 4, 5, 9, 10, 11, 12, 60, 61, 62], [4, 5, 12, 22, 23]) else
  bif Nat.beq f 60 && Nat.beq i 0 then ([1, 2, 3, 7, 8], [3, 12]) else
  bif Nat.beq f 60 && Nat.beq i 2 then ([1, 2, 3, 7, 8, 9], [3, 12]) else
  bif Nat.beq f 61 && Nat.beq i 0 then ([0, 3], []) else
  bif Nat.beq f 62 && Nat.beq i 0 then ([0, 1, 5], []) else
  bif Nat.beq f 81 && Nat.beq i 0 then ([2, 5, 6, 17, 18, 19], [2, 15, 16]) else
  bif Nat.beq f 81 && Nat.beq i 2 then ([2, 5, 6, 9], [2, 15, 16]) else
  bif Nat.beq f 81 && Nat.beq i 4 then ([2, 5, 6, 9, 49, 50, 51], [2, 15, 16]) else
  bif Nat.beq f 88 && Nat.beq i 0 then ([0, 4, 5, 6, 7, 8], [4, 5, 900, 901]) else
  bif Nat.beq f 88 && Nat.beq i 2 then ([0, 4, 5, 6, 7, 8, 9, 10], [4, 5, 25, 900, 901]) else
  bif Nat.beq f 89 && Nat.beq i 0 then ([2, 5, 6], [2, 10]) else
  bif Nat.beq f 89 && Nat.beq i 2 then ([2, 5, 6, 7], [2, 10]) else
  bif Nat.beq f 89 && Nat.beq i 4 then ([2, 5, 6, 7, 8], [2, 10]) else
  bif Nat.beq f 90 && Nat.beq i 0 then ([0, 1, 5], []) else
  bif Nat.beq f 91 && Nat.beq i 0 then ([0, 3, 4], [5]) else
  bif Nat.beq f 109 && Nat.beq i 0 then ([0, 3, 4, 5], [8]) else
  bif Nat.beq f 112 && Nat.beq i 0 then ([1, 4, 6, 7, 8, 9], [4, 8, 16, 19, 900]) else
  bif Nat.beq f 112 && Nat.beq i 2 then ([1, 4, 6, 7, 8, 9, 10, 11, 12], [4, 8, 16, 19, 32, 33, 900]) else
  bif Nat.beq f 112 && Nat.beq i 4 then ([1, 4, 6, 7, 8, 9, 10, 11, 12, 13, 14], [4, 8, 16, 19, 32, 33, 900]) else
  bif Nat.beq f 139 && Nat.beq i 0 then ([0, 3], []) else
  bif Nat.beq f 141 && Nat.beq i 1 then ([1, 3, 4], [1]) else
  bif Nat.beq f 142 && Nat.beq i 1 then ([2, 5, 6, 7, 8], [2, 14, 51, 57]) else
  bif Nat.beq f 142 && Nat.beq i 3 then ([2, 5, 6, 7, 9], [2, 14, 51, 57]) else
  bif Nat.beq f 142 && Nat.beq i 5 then ([5, 6, 7, 10], [14, 51, 57]) else
  bif Nat.beq f 142 && Nat.beq i 7 then ([5, 6, 7, 10, 11], [14, 51, 57]) else
  bif Nat.beq f 142 && Nat.beq i 9 then ([2, 5, 12, 13], [2, 14, 165]) else
  bif Nat.beq f 143 && Nat.beq i 1 then ([1, 3, 5, 6], [1]) else
  bif Nat.beq f 158 && Nat.beq i 0 then ([1, 2, 5, 6], [2]) else
  ([], [])
def livesX (f i : Nat) : List Nat × List Nat :=
  bif Nat.beq f 4 && Nat.beq i 0 then ([2, 3, 4], [3, 4]) else
  bif Nat.beq f 4 && Nat.beq i 2 then ([2, 3, 4, 8], [3, 4]) else
  bif Nat.beq f 8 && Nat.beq i 0 then ([2], []) else
  bif Nat.beq f 8 && Nat.beq i 2 then ([1, 2, 18, 19, 20], [1]) else
  bif Nat.beq f 9 && Nat.beq i 0 then ([2], []) else
  bif Nat.beq f 9 && Nat.beq i 2 then ([1, 2, 3], [1]) else
  bif Nat.beq f 23 && Nat.beq i 0 then ([2, 3, 5], [2, 5, 900]) else
  bif Nat.beq f 23 && Nat.beq i 2 then ([1, 2, 3, 4, 5, 6, 7], [1, 2, 5, 17, 25, 900]) else
  bif Nat.beq f 24 && Nat.beq i 0 then ([4], []) else
  bif Nat.beq f 24 && Nat.beq i 2 then ([2, 3, 4, 5], [2, 3]) else
  bif Nat.beq f 28 && Nat.beq i 0 then ([3], [7]) else
  bif Nat.beq f 28 && Nat.beq i 2 then ([0, 3, 4, 5], [7]) else
  bif Nat.beq f 28 && Nat.beq i 4 then ([0, 3, 4, 5], [7]) else
  bif Nat.beq f 49 && Nat.beq i 0 then ([6, 7, 10], [6, 10, 900, 901]) else
  bif Nat.beq f 49 && Nat.beq i 2 then ([1, 2, 6, 7, 8, 9, 10, 11, 15], [6, 10, 22, 23, 48, 900, 901]) else
  bif Nat.beq f 50 && Nat.beq i 0 then ([5], [10]) else
  bif Nat.beq f 51 && Nat.beq i 0 then ([3], []) else
  bif Nat.beq f 52 && Nat.beq i 0 then ([6, 7], [13]) else
  bif Nat.beq f 53 && Nat.beq i 0 then ([5], [10]) else
  bif Nat.beq f 53 && Nat.beq i 2 then ([2, 5, 11, 12, 13], [2, 10]) else
  bif Nat.beq f 54 && Nat.beq i 0 then ([3, 7], [3, 12]) else
  bif Nat.beq f 54 && Nat.beq i 2 then ([2, 3, 7, 13, 14, 15], [3, 12]) else
  bif Nat.beq f 55 && Nat.beq i 0 then ([8], []) else
  bif Nat.beq f 55 && Nat.beq i 2 then ([2, 3, 4, 5, 8, 9, 10, 11], [4, 5, 22, 23, 81]) else
  bif Nat.beq f 60 && Nat.beq i 0 then ([3, 7], [3, 12]) else
  bif Nat.beq f 60 && Nat.beq i 2 then ([1, 2, 3, 7, 8], [3, 12]) else
  bif Nat.beq f 61 && Nat.beq i 0 then ([2], []) else
  bif Nat.beq f 62 && Nat.beq i 0 then ([0, 4], []) else
  bif Nat.beq f 81 && Nat.beq i 0 then ([2, 5, 6], [2, 15, 16]) else
  bif Nat.beq f 81 && Nat.beq i 2 then ([6], [16]) else
  bif Nat.beq f 81 && Nat.beq i 4 then ([2, 5, 6, 9], [2, 15, 16]) else
  bif Nat.beq f 88 && Nat.beq i 0 then ([0, 4, 5, 6], [4, 5, 900, 901]) else
  bif Nat.beq f 88 && Nat.beq i 2 then ([0, 4, 5, 6, 7, 8, 9], [4, 5, 25, 900, 901]) else
  bif Nat.beq f 89 && Nat.beq i 0 then ([5], [10]) else
  bif Nat.beq f 89 && Nat.beq i 2 then ([2, 5, 6], [2, 10]) else
  bif Nat.beq f 89 && Nat.beq i 4 then ([2, 5, 6, 7], [2, 10]) else
  bif Nat.beq f 90 && Nat.beq i 0 then ([4], []) else
  bif Nat.beq f 91 && Nat.beq i 0 then ([3], [5]) else
  bif Nat.beq f 109 && Nat.beq i 0 then ([0, 3, 4], [8]) else
  bif Nat.beq f 112 && Nat.beq i 0 then ([4, 5, 8], [4, 8, 900]) else
  bif Nat.beq f 112 && Nat.beq i 2 then ([1, 4, 5, 6, 7, 8, 9, 11], [4, 8, 16, 19, 33, 900]) else
  bif Nat.beq f 112 && Nat.beq i 4 then ([1, 4, 6, 7, 8, 9, 10, 11, 12, 13, 14], [4, 8, 16, 19, 32, 33, 900]) else
  bif Nat.beq f 139 && Nat.beq i 0 then ([0, 2], []) else
  bif Nat.beq f 141 && Nat.beq i 1 then ([3], []) else
  bif Nat.beq f 142 && Nat.beq i 1 then ([2, 5, 6, 7], [2, 14, 51, 57]) else
  bif Nat.beq f 142 && Nat.beq i 3 then ([5, 6, 7], [14, 51, 57]) else
  bif Nat.beq f 142 && Nat.beq i 5 then ([5], [14]) else
  bif Nat.beq f 142 && Nat.beq i 7 then ([5, 6, 7, 10], [14, 51, 57]) else
  bif Nat.beq f 142 && Nat.beq i 9 then ([5], [14]) else
  bif Nat.beq f 143 && Nat.beq i 1 then ([2, 5], []) else
  bif Nat.beq f 158 && Nat.beq i 0 then ([5], []) else
  ([], [])
def promT (f i : Nat) : List (Nat × Nat × Nat × Option Nat × Nat × Ty) :=
  bif Nat.beq f 23 && Nat.beq i 0 then [(5, 0, 900, none, 46, (.sl (.st 0)))] else
  bif Nat.beq f 49 && Nat.beq i 0 then [(6, 0, 900, (some 0), 0, (.sl (.st 0))), (10, 0, 901, (some 0), 0, (.sl (.st 0)))] else
  bif Nat.beq f 88 && Nat.beq i 0 then [(4, 0, 900, (some 0), 0, (.sl (.st 0))), (5, 0, 901, (some 0), 0, (.sl (.st 0)))] else
  bif Nat.beq f 112 && Nat.beq i 0 then [(8, 0, 900, none, 46, (.sl (.st 0)))] else
  []
def healT (f i : Nat) : List Nat :=
  []
def renT (f i : Nat) : List (Nat × Nat) :=
  bif Nat.beq f 50 && Nat.beq i 0 then [(10, 20)] else
  []
def inlT (f : Nat) : Bool := memN f [56]
theorem okP : OkP Tryz.prog := OkP.mk' (by kernel_rfl) (by kernel_rfl)
def Φx (L N : Nat) : Tells := addT (addT (addT (addT (addT noTells 83 sortEnt) 46 tidyEnt) 43 (cloneEnt 3)) 84 compactEnt) 82 itoaEnt
theorem Φx_ok (L N : Nat) : TellsOk Tryz.prog (Φx L N) := addT_ok (addT_ok (addT_ok (addT_ok (addT_ok (no_ok _) (sort_ok ⟨Tryz.f83, rfl, by kernel_rfl, by kernel_rfl⟩ sortC sortNone)) (tidy_ok ⟨Tryz.f46, rfl, by kernel_rfl, by kernel_rfl⟩ tidyC tidyNone)) (clone_ok ⟨Tryz.f43, rfl, by kernel_rfl, by kernel_rfl⟩ cloneC cloneZero cloneNil)) (compact_ok ⟨Tryz.f84, rfl, by kernel_rfl, by kernel_rfl⟩ compactC compactNone)) (itoa_ok ⟨Tryz.f82, rfl, by kernel_rfl, by kernel_rfl⟩ itoaC)
def f30.b' {R : Type} (L N : Nat) (k : Bool → Option R) (x0 : Int) : Option R :=
  bif (decide (x0 ≥ (-4 : Int))) then
    k (decide (x0 ≤ (4 : Int)))
  else k false
def f30.b {R : Type} (L N : Nat) (k : Bool → Option R) (x0 : Int) : Option R :=
  f30.b' L N k x0
def f30 (L N : Nat) (x0 : Int) : Option (Bool) := f30.b L N some x0
def f30.ent (L N : Nat) := entRo [i64] (.one .bool) fun d => f30 L N d.1
noncomputable def E30 (L N : Nat) : Env := { P := Tryz.prog, ty := tyOf, Φ := (Φx L N), inl := inlT, live := lives, liveX := livesX, L := L, dp := none, prom := promT, heal := healT, ren := renT }
theorem f30.b_eq {R : Type} (L N : Nat) (κ : AV → Option R) (x0 : Int) :
    evBody (E30 L N) (evCallI (E30 L N) 1 2000) 1000 30 Tryz.f30 [(.tv i64 x0)] [] [] (finC (.one .bool) κ)
    = f30.b L N (fun a0 => κ (.tv .bool a0)) x0 := by kernel_rfl
theorem f30.ok (L N : Nat) (hΦ : TellsOk Tryz.prog ((Φx L N))) : EntOk Tryz.prog 30 (f30.ent L N) := entRo_ok (E := (E30 L N)) (dep := 1000) (f := Tryz.f30) (sound_of hΦ) okP (callI_sound (sound_of hΦ) okP 1 2000) rfl rfl fun d _ hy => (f30.b_eq L N (unR (.one .bool)) d.1).trans (Eq.trans (b := f30.b L N some d.1) (by kernel_rfl) hy)
def Φ30 (L N : Nat) : Tells := (addT (Φx L N) 30 (f30.ent L N))
theorem Φ30_ok (L N : Nat) : TellsOk Tryz.prog (Φ30 L N) := addT_ok (Φx_ok L N) (f30.ok L N (Φx_ok L N))
def f102.b' {R : Type} (L N : Nat) (k : Bool → Option R) (x0 : Int) : Option R :=
  k (x0 != x0)
def f102.b {R : Type} (L N : Nat) (k : Bool → Option R) (x0 : Int) : Option R :=
  f102.b' L N k x0
def f102 (L N : Nat) (x0 : Int) : Option (Bool) := f102.b L N some x0
def f102.ent (L N : Nat) := entRo [i64] (.one .bool) fun d => f102 L N d.1
noncomputable def E102 (L N : Nat) : Env := { P := Tryz.prog, ty := tyOf, Φ := (Φ30 L N), inl := inlT, live := lives, liveX := livesX, L := L, dp := none, prom := promT, heal := healT, ren := renT }
theorem f102.b_eq {R : Type} (L N : Nat) (κ : AV → Option R) (x0 : Int) :
    evBody (E102 L N) (evCallI (E102 L N) 1 2000) 1000 102 Tryz.f102 [(.tv i64 x0)] [] [] (finC (.one .bool) κ)
    = f102.b L N (fun a0 => κ (.tv .bool a0)) x0 := by kernel_rfl
theorem f102.ok (L N : Nat) (hΦ : TellsOk Tryz.prog ((Φ30 L N))) : EntOk Tryz.prog 102 (f102.ent L N) := entRo_ok (E := (E102 L N)) (dep := 1000) (f := Tryz.f102) (sound_of hΦ) okP (callI_sound (sound_of hΦ) okP 1 2000) rfl rfl fun d _ hy => (f102.b_eq L N (unR (.one .bool)) d.1).trans (Eq.trans (b := f102.b L N some d.1) (by kernel_rfl) hy)
def Φ102 (L N : Nat) : Tells := (addT (Φ30 L N) 102 (f102.ent L N))
theorem Φ102_ok (L N : Nat) : TellsOk Tryz.prog (Φ102 L N) := addT_ok (Φ30_ok L N) (f102.ok L N (Φ30_ok L N))
def f70.b' {R : Type} (L N : Nat) (k : Int → Option R) (x0 : Int) (x1 : Int) : Option R :=
  (f102 L N x0).bind fun y0 =>
  (f102 L N x1).bind fun y1 =>
  bif y0 then
    bif y1 then
      k (0 : Int)
    else k (-1 : Int)
  else bif y1 then
    k (1 : Int)
  else bif (decide (x0 < x1)) then
    k (-1 : Int)
  else bif (decide (x0 > x1)) then
    k (1 : Int)
  else k (0 : Int)
def f70.b {R : Type} (L N : Nat) (k : Int → Option R) (x0 : Int) (x1 : Int) : Option R :=
  f70.b' L N k x0 x1
def f70 (L N : Nat) (x0 : Int) (x1 : Int) : Option (Int) := f70.b L N some x0 x1
def f70.ent (L N : Nat) := entRo [i64, i64] (.one i64) fun d => f70 L N d.1 d.2.1
noncomputable def E70 (L N : Nat) : Env := { P := Tryz.prog, ty := tyOf, Φ := (Φ102 L N), inl := inlT, live := lives, liveX := livesX, L := L, dp := none, prom := promT, heal := healT, ren := renT }
theorem f70.b_eq {R : Type} (L N : Nat) (κ : AV → Option R) (x0 : Int) (x1 : Int) :
    evBody (E70 L N) (evCallI (E70 L N) 1 2000) 1000 70 Tryz.f70 [(.tv i64 x0), (.tv i64 x1)] [] [] (finC (.one i64) κ)
    = f70.b L N (fun a0 => κ (.tv i64 a0)) x0 x1 := by kernel_rfl
theorem f70.ok (L N : Nat) (hΦ : TellsOk Tryz.prog ((Φ102 L N))) : EntOk Tryz.prog 70 (f70.ent L N) := entRo_ok (E := (E70 L N)) (dep := 1000) (f := Tryz.f70) (sound_of hΦ) okP (callI_sound (sound_of hΦ) okP 1 2000) rfl rfl fun d _ hy => (f70.b_eq L N (unR (.one i64)) d.1 d.2.1).trans (Eq.trans (b := f70.b L N some d.1 d.2.1) (by kernel_rfl) hy)
def Φ70 (L N : Nat) : Tells := (addT (Φ102 L N) 70 (f70.ent L N))
theorem Φ70_ok (L N : Nat) : TellsOk Tryz.prog (Φ70 L N) := addT_ok (Φ102_ok L N) (f70.ok L N (Φ102_ok L N))
def f31.b' {R : Type} (L N : Nat) (k : Int → Option R) (x0 : Move) (x1 : Move) : Option R :=
  (f70 L N x0.act x1.act).bind fun y0 =>
  bif (y0 != (0 : Int)) then
    k y0
  else (f70 L N x0.to x1.to).bind fun y1 =>
  k y1
def f31.b {R : Type} (L N : Nat) (k : Int → Option R) (x0 : Move) (x1 : Move) : Option R :=
  f31.b' L N k x0 x1
def f31 (L N : Nat) (x0 : Move) (x1 : Move) : Option (Int) := f31.b L N some x0 x1
def f31.ent (L N : Nat) := entRo [(.st 0), (.st 0)] (.one i64) fun d => f31 L N d.1 d.2.1
noncomputable def E31 (L N : Nat) : Env := { P := Tryz.prog, ty := tyOf, Φ := (Φ70 L N), inl := inlT, live := lives, liveX := livesX, L := L, dp := none, prom := promT, heal := healT, ren := renT }
theorem f31.b_eq {R : Type} (L N : Nat) (κ : AV → Option R) (x0 : Move) (x1 : Move) :
    evBody (E31 L N) (evCallI (E31 L N) 1 2000) 1000 31 Tryz.f31 [(.tv (.st 0) x0), (.tv (.st 0) x1)] [] [] (finC (.one i64) κ)
    = f31.b L N (fun a0 => κ (.tv i64 a0)) x0 x1 := by kernel_rfl
theorem f31.ok (L N : Nat) (hΦ : TellsOk Tryz.prog ((Φ70 L N))) : EntOk Tryz.prog 31 (f31.ent L N) := entRo_ok (E := (E31 L N)) (dep := 1000) (f := Tryz.f31) (sound_of hΦ) okP (callI_sound (sound_of hΦ) okP 1 2000) rfl rfl fun d _ hy => (f31.b_eq L N (unR (.one i64)) d.1 d.2.1).trans (Eq.trans (b := f31.b L N some d.1 d.2.1) (by kernel_rfl) hy)
def Φ31 (L N : Nat) : Tells := (addT (Φ70 L N) 31 (f31.ent L N))
theorem Φ31_ok (L N : Nat) : TellsOk Tryz.prog (Φ31 L N) := addT_ok (Φ70_ok L N) (f31.ok L N (Φ70_ok L N))
def f8.s1' {R : Type} (L N : Nat) (k1_e2 : LLM → Int → Int → LLM → Option R) (k1_r : Bool → LLM → Int → Int → LLM → Option R) (rec1 : LM → LLM → Int → Int → LM → Int → Int → LLM → Option R) (s7 : LM) (s8 : LLM) (s9 : Int) (s10 : Int) (s11 : LM) (s12 : Int) (s13 : Int) (s14 : LLM) : Option R :=
  bif (decide (s13 < s12)) then
    bif (decide (0 ≤ s13) && decide (s13 < (s11.length : Int))) then
      (f30 L N ((listAt s11 (Ty.dflt (.st 0)) s13.toNat).act)).bind fun y19 =>
      bif (!y19) then
        k1_r false s8 s9 s10 s14
      else bif (decide ((listAt s11 (Ty.dflt (.st 0)) s13.toNat).to < (0 : Int))) then
        k1_r false s8 s9 s10 s14
      else bif (decide ((listAt s11 (Ty.dflt (.st 0)) s13.toNat).to ≥ (s14.length : Int))) then
        k1_r false s8 s9 s10 s14
      else bif (decide (s13 > (0 : Int))) then
        bif (decide (0 ≤ (wi (s13 - (1 : Int)))) && decide ((wi (s13 - (1 : Int))) < (s7.length : Int))) then
          (f31 L N (listAt s7 (Ty.dflt (.st 0)) (wi (s13 - (1 : Int))).toNat) (Move.mk ((listAt s11 (Ty.dflt (.st 0)) s13.toNat).act) ((listAt s11 (Ty.dflt (.st 0)) s13.toNat).to))).bind fun y20 =>
          bif (decide (y20 ≥ (0 : Int))) then
            k1_r false s8 s9 s10 s14
          else rec1 s7 s8 s9 s10 s11 s12 (wi (s13 + (1 : Int))) s14
        else none
      else rec1 s7 s8 s9 s10 s11 s12 (wi (s13 + (1 : Int))) s14
    else none
  else k1_e2 s8 s9 s10 s14
def f8.s1 {R : Type} (L N : Nat) (k1_e2 : LLM → Int → Int → LLM → Option R) (k1_r : Bool → LLM → Int → Int → LLM → Option R) (rec1 : LM → LLM → Int → Int → LM → Int → Int → LLM → Option R) (s7 : LM) (s8 : LLM) (s9 : Int) (s10 : Int) (s11 : LM) (s12 : Int) (s13 : Int) (s14 : LLM) : Option R :=
  f8.s1' L N k1_e2 k1_r rec1 s7 s8 s9 s10 s11 s12 s13 s14
def f8.l1 {R : Type} (L N : Nat) (k1_e2 : LLM → Int → Int → LLM → Option R) (k1_r : Bool → LLM → Int → Int → LLM → Option R) : Nat → LM → LLM → Int → Int → LM → Int → Int → LLM → Option R
  | 0, _, _, _, _, _, _, _, _ => none
  | n + 1, s7, s8, s9, s10, s11, s12, s13, s14 => f8.s1 L N k1_e2 k1_r (f8.l1 L N k1_e2 k1_r n) s7 s8 s9 s10 s11 s12 s13 s14
def f8.T1 (s7 : LM) (s8 : LLM) (s9 : Int) (s10 : Int) (s11 : LM) (s12 : Int) (s13 : Int) (s14 : LLM) : T := mkT 64 [(1, (.ptr 1001 0)), (4, (.tv (.sl (.st 0)) s7)), (18, (.tv (.sl (.sl (.st 0))) s8)), (19, (.tv i64 s9)), (20, (.tv i64 s10)), (24, (.tv (.sl (.st 0)) s11)), (25, (.tv i64 s12)), (26, (.tv i64 s13))]
def f8.H1 (s7 : LM) (s8 : LLM) (s9 : Int) (s10 : Int) (s11 : LM) (s12 : Int) (s13 : Int) (s14 : LLM) : H := [(1001, (.box [(.tv (.sl (.sl (.st 0))) s14)]))]
def f8.T1_e2 (z15 : LLM) (z16 : Int) (z17 : Int) (z18 : LLM) : T := mkT 64 [(1, (.ptr 1001 0)), (18, (.tv (.sl (.sl (.st 0))) z15)), (19, (.tv i64 z16)), (20, (.tv i64 z17))]
def f8.H1_e2 (z15 : LLM) (z16 : Int) (z17 : Int) (z18 : LLM) : H := [(1001, (.box [(.tv (.sl (.sl (.st 0))) z18)]))]
def f8.T1_r (z30 : Bool) (z31 : LLM) (z32 : Int) (z33 : Int) (z34 : LLM) : T := mkT 64 [(1, (.ptr 1001 0)), (2, (.tv .bool z30)), (18, (.tv (.sl (.sl (.st 0))) z31)), (19, (.tv i64 z32)), (20, (.tv i64 z33))]
def f8.H1_r (z30 : Bool) (z31 : LLM) (z32 : Int) (z33 : Int) (z34 : LLM) : H := [(1001, (.box [(.tv (.sl (.sl (.st 0))) z34)]))]
def f8.p1_e2' {R : Type} (L N : Nat) (k0_e0 : Option R) (k0_r : Bool → Option R) (rec0 : LLM → Int → Int → LLM → Option R) (z15 : LLM) (z16 : Int) (z17 : Int) (z18 : LLM) : Option R :=
  rec0 z15 z16 (wi (z17 + (1 : Int))) z18
def f8.p1_e2 {R : Type} (L N : Nat) (k0_e0 : Option R) (k0_r : Bool → Option R) (rec0 : LLM → Int → Int → LLM → Option R) (z15 : LLM) (z16 : Int) (z17 : Int) (z18 : LLM) : Option R :=
  f8.p1_e2' L N k0_e0 k0_r rec0 z15 z16 z17 z18
def f8.p1_r' {R : Type} (L N : Nat) (k0_e0 : Option R) (k0_r : Bool → Option R) (rec0 : LLM → Int → Int → LLM → Option R) (z30 : Bool) (z31 : LLM) (z32 : Int) (z33 : Int) (z34 : LLM) : Option R :=
  k0_r z30
def f8.p1_r {R : Type} (L N : Nat) (k0_e0 : Option R) (k0_r : Bool → Option R) (rec0 : LLM → Int → Int → LLM → Option R) (z30 : Bool) (z31 : LLM) (z32 : Int) (z33 : Int) (z34 : LLM) : Option R :=
  f8.p1_r' L N k0_e0 k0_r rec0 z30 z31 z32 z33 z34
def f8.s0' {R : Type} (L N : Nat) (k0_e0 : Option R) (k0_r : Bool → Option R) (rec0 : LLM → Int → Int → LLM → Option R) (w1 : LM → LLM → Int → Int → LM → Int → Int → LLM → Option R) (s3 : LLM) (s4 : Int) (s5 : Int) (s6 : LLM) : Option R :=
  bif (decide (s5 < s4)) then
    bif (decide (0 ≤ s5) && decide (s5 < (s3.length : Int))) then
      w1 (listAt s3 [] s5.toNat) s3 s4 s5 (listAt s3 [] s5.toNat) ((listAt s3 [] s5.toNat).length : Int) (0 : Int) s6
    else none
  else k0_e0
def f8.s0 {R : Type} (L N : Nat) (k0_e0 : Option R) (k0_r : Bool → Option R) (rec0 : LLM → Int → Int → LLM → Option R) (s3 : LLM) (s4 : Int) (s5 : Int) (s6 : LLM) : Option R :=
  f8.s0' L N k0_e0 k0_r rec0 (fun s7 s8 s9 s10 s11 s12 s13 s14 => f8.l1 L N (fun z15 z16 z17 z18 => f8.p1_e2 L N k0_e0 k0_r rec0 z15 z16 z17 z18) (fun z30 z31 z32 z33 z34 => f8.p1_r L N k0_e0 k0_r rec0 z30 z31 z32 z33 z34) L s7 s8 s9 s10 s11 s12 s13 s14) s3 s4 s5 s6
def f8.l0 {R : Type} (L N : Nat) (k0_e0 : Option R) (k0_r : Bool → Option R) : Nat → LLM → Int → Int → LLM → Option R
  | 0, _, _, _, _ => none
  | n + 1, s3, s4, s5, s6 => f8.s0 L N k0_e0 k0_r (f8.l0 L N k0_e0 k0_r n) s3 s4 s5 s6
def f8.T0 (s3 : LLM) (s4 : Int) (s5 : Int) (s6 : LLM) : T := mkT 64 [(1, (.ptr 1001 0)), (18, (.tv (.sl (.sl (.st 0))) s3)), (19, (.tv i64 s4)), (20, (.tv i64 s5))]
def f8.H0 (s3 : LLM) (s4 : Int) (s5 : Int) (s6 : LLM) : H := [(1001, (.box [(.tv (.sl (.sl (.st 0))) s6)]))]
def f8.T0_e0 : T := mkT 64 []
def f8.H0_e0 : H := []
def f8.T0_r (z43 : Bool) : T := mkT 64 [(2, (.tv .bool z43))]
def f8.H0_r (z43 : Bool) : H := []
def f8.p0_e0' {R : Type} (L N : Nat) (k : Bool → Option R) : Option R :=
  k true
def f8.p0_e0 {R : Type} (L N : Nat) (k : Bool → Option R) : Option R :=
  f8.p0_e0' L N k
def f8.p0_r' {R : Type} (L N : Nat) (k : Bool → Option R) (z43 : Bool) : Option R :=
  k z43
def f8.p0_r {R : Type} (L N : Nat) (k : Bool → Option R) (z43 : Bool) : Option R :=
  f8.p0_r' L N k z43
def f8.j0' {R : Type} (L N : Nat) (k : Bool → Option R) (w0 : LLM → Int → Int → LLM → Option R) (v2 : LLM) : Option R :=
  w0 v2 (v2.length : Int) (0 : Int) v2
def f8.b' {R : Type} (L N : Nat) (k : Bool → Option R) (w0 : LLM → Int → Int → LLM → Option R) (x0 : Graph) : Option R :=
  bif (decide ((x0.moves.length : Int) < (1 : Int))) then
    k false
  else bif (decide ((x0.moves.length : Int) > (60 : Int))) then
    k false
  else f8.j0' L N k w0 x0.moves
def f8.b {R : Type} (L N : Nat) (k : Bool → Option R) (x0 : Graph) : Option R :=
  f8.b' L N k (fun s3 s4 s5 s6 => f8.l0 L N (f8.p0_e0 L N k) (fun z43 => f8.p0_r L N k z43) L s3 s4 s5 s6) x0
def f8 (L N : Nat) (x0 : Graph) : Option (Bool) := f8.b L N some x0
def f8.ent (L N : Nat) := entRo [(.st 2)] (.one .bool) fun d => f8 L N d.1
noncomputable def E8 (L N : Nat) : Env := { P := Tryz.prog, ty := tyOf, Φ := (Φ31 L N), inl := inlT, live := lives, liveX := livesX, L := L, dp := none, prom := promT, heal := healT, ren := renT }
noncomputable def f8.c0 : Code := loopAt 0 (codeOf Tryz.f8)
noncomputable def f8.c1 : Code := loopAt 2 f8.c0
def f8.X1_e2 {R : Type} (κ : KX R) := fun z15 z16 z17 z18 => κ (.exit 2) (f8.T1_e2 z15 z16 z17 z18) (f8.H1_e2 z15 z16 z17 z18)
def f8.X1_r {R : Type} (κ : KX R) := fun z30 z31 z32 z33 z34 => κ .ret (f8.T1_r z30 z31 z32 z33 z34) (f8.H1_r z30 z31 z32 z33 z34)
def f8.R1 {R : Type} (rec : KT R) := fun s7 s8 s9 s10 s11 s12 s13 s14 => rec (f8.T1 s7 s8 s9 s10 s11 s12 s13 s14) (f8.H1 s7 s8 s9 s10 s11 s12 s13 s14)
theorem f8.s1_eq {R : Type} (L N : Nat) (κ : KX R) (rec : KT R) (s7 : LM) (s8 : LLM) (s9 : Int) (s10 : Int) (s11 : LM) (s12 : Int) (s13 : Int) (s14 : LLM) :
    evRd (E8 L N) (evCallI (E8 L N) 1 2000) 1000 8 64 2 f8.c1 κ rec (f8.T1 s7 s8 s9 s10 s11 s12 s13 s14) (f8.H1 s7 s8 s9 s10 s11 s12 s13 s14)
    = f8.s1 L N (f8.X1_e2 κ) (f8.X1_r κ) (f8.R1 rec) s7 s8 s9 s10 s11 s12 s13 s14 := by kernel_rfl
theorem f8.l1_eq {R : Type} (L N : Nat) (κ : KX R) : ∀ (n : Nat) (s7 : LM) (s8 : LLM) (s9 : Int) (s10 : Int) (s11 : LM) (s12 : Int) (s13 : Int) (s14 : LLM),
    evLp (E8 L N) (evCallI (E8 L N) 1 2000) 1000 8 64 2 f8.c1 κ n (f8.T1 s7 s8 s9 s10 s11 s12 s13 s14) (f8.H1 s7 s8 s9 s10 s11 s12 s13 s14)
    = f8.l1 L N (f8.X1_e2 κ) (f8.X1_r κ) n s7 s8 s9 s10 s11 s12 s13 s14 := by
  intro n
  induction n with
  | zero => intros; rfl
  | succ n ih =>
    intro s7 s8 s9 s10 s11 s12 s13 s14
    rw [evLp_succ, f8.s1_eq]
    delta f8.R1
    simp only [ih]
    rfl
def f8.X0_e0 {R : Type} (κ : KX R) := κ (.exit 0) f8.T0_e0 f8.H0_e0
def f8.X0_r {R : Type} (κ : KX R) := fun z43 => κ .ret (f8.T0_r z43) (f8.H0_r z43)
def f8.R0 {R : Type} (rec : KT R) := fun s3 s4 s5 s6 => rec (f8.T0 s3 s4 s5 s6) (f8.H0 s3 s4 s5 s6)
theorem f8.p1_e2_eq {R : Type} (L N : Nat) (κ : KX R) (rec : KT R) (z15 : LLM) (z16 : Int) (z17 : Int) (z18 : LLM) :
    (contAt (E8 L N) (evCallI (E8 L N) 1 2000) 1000 8 64 2 f8.c0 (rdK (E8 L N) 1000 8 64 0 κ rec)) (.exit 2) (f8.T1_e2 z15 z16 z17 z18) (f8.H1_e2 z15 z16 z17 z18)
    = f8.p1_e2 L N (f8.X0_e0 κ) (f8.X0_r κ) (f8.R0 rec) z15 z16 z17 z18 := by kernel_rfl
theorem f8.p1_r_eq {R : Type} (L N : Nat) (κ : KX R) (rec : KT R) (z30 : Bool) (z31 : LLM) (z32 : Int) (z33 : Int) (z34 : LLM) :
    (contAt (E8 L N) (evCallI (E8 L N) 1 2000) 1000 8 64 2 f8.c0 (rdK (E8 L N) 1000 8 64 0 κ rec)) .ret (f8.T1_r z30 z31 z32 z33 z34) (f8.H1_r z30 z31 z32 z33 z34)
    = f8.p1_r L N (f8.X0_e0 κ) (f8.X0_r κ) (f8.R0 rec) z30 z31 z32 z33 z34 := by kernel_rfl
theorem f8.s0_eq {R : Type} (L N : Nat) (κ : KX R) (rec : KT R) (s3 : LLM) (s4 : Int) (s5 : Int) (s6 : LLM) :
    evRd (E8 L N) (evCallI (E8 L N) 1 2000) 1000 8 64 0 f8.c0 κ rec (f8.T0 s3 s4 s5 s6) (f8.H0 s3 s4 s5 s6)
    = f8.s0 L N (f8.X0_e0 κ) (f8.X0_r κ) (f8.R0 rec) s3 s4 s5 s6 := by
  refine Eq.trans (b := f8.s0' L N (f8.X0_e0 κ) (f8.X0_r κ) (f8.R0 rec) (fun s7 s8 s9 s10 s11 s12 s13 s14 => evLp (E8 L N) (evCallI (E8 L N) 1 2000) 1000 8 64 2 f8.c1 (contAt (E8 L N) (evCallI (E8 L N) 1 2000) 1000 8 64 2 f8.c0 (rdK (E8 L N) 1000 8 64 0 κ rec)) L (f8.T1 s7 s8 s9 s10 s11 s12 s13 s14) (f8.H1 s7 s8 s9 s10 s11 s12 s13 s14)) s3 s4 s5 s6) (by kernel_rfl) ?_
  unfold f8.s0
  simp only [f8.l1_eq]
  delta f8.X1_e2 f8.X1_r
  simp only [f8.p1_e2_eq, f8.p1_r_eq]
theorem f8.l0_eq {R : Type} (L N : Nat) (κ : KX R) : ∀ (n : Nat) (s3 : LLM) (s4 : Int) (s5 : Int) (s6 : LLM),
    evLp (E8 L N) (evCallI (E8 L N) 1 2000) 1000 8 64 0 f8.c0 κ n (f8.T0 s3 s4 s5 s6) (f8.H0 s3 s4 s5 s6)
    = f8.l0 L N (f8.X0_e0 κ) (f8.X0_r κ) n s3 s4 s5 s6 := by
  intro n
  induction n with
  | zero => intros; rfl
  | succ n ih =>
    intro s3 s4 s5 s6
    rw [evLp_succ, f8.s0_eq]
    delta f8.R0
    simp only [ih]
    rfl
theorem f8.p0_e0_eq {R : Type} (L N : Nat) (κ : AV → Option R) :
    (contAt (E8 L N) (evCallI (E8 L N) 1 2000) 1000 8 64 0 (codeOf Tryz.f8) (finK (E8 L N) 1000 Tryz.f8 (finC (.one .bool) κ))) (.exit 0) f8.T0_e0 f8.H0_e0
    = f8.p0_e0 L N (fun a0 => κ (.tv .bool a0)) := by kernel_rfl
theorem f8.p0_r_eq {R : Type} (L N : Nat) (κ : AV → Option R) (z43 : Bool) :
    (contAt (E8 L N) (evCallI (E8 L N) 1 2000) 1000 8 64 0 (codeOf Tryz.f8) (finK (E8 L N) 1000 Tryz.f8 (finC (.one .bool) κ))) .ret (f8.T0_r z43) (f8.H0_r z43)
    = f8.p0_r L N (fun a0 => κ (.tv .bool a0)) z43 := by kernel_rfl
theorem f8.b_eq {R : Type} (L N : Nat) (κ : AV → Option R) (x0 : Graph) :
    evBody (E8 L N) (evCallI (E8 L N) 1 2000) 1000 8 Tryz.f8 [(.tv (.st 2) x0)] [] [] (finC (.one .bool) κ)
    = f8.b L N (fun a0 => κ (.tv .bool a0)) x0 := by
  refine Eq.trans (b := f8.b' L N (fun a0 => κ (.tv .bool a0)) (fun s3 s4 s5 s6 => evLp (E8 L N) (evCallI (E8 L N) 1 2000) 1000 8 64 0 f8.c0 (contAt (E8 L N) (evCallI (E8 L N) 1 2000) 1000 8 64 0 (codeOf Tryz.f8) (finK (E8 L N) 1000 Tryz.f8 (finC (.one .bool) κ))) L (f8.T0 s3 s4 s5 s6) (f8.H0 s3 s4 s5 s6)) x0) (by kernel_rfl) ?_
  unfold f8.b
  simp only [f8.l0_eq]
  delta f8.X0_e0 f8.X0_r
  simp only [f8.p0_e0_eq, f8.p0_r_eq]
theorem f8.ok (L N : Nat) (hΦ : TellsOk Tryz.prog ((Φ31 L N))) : EntOk Tryz.prog 8 (f8.ent L N) := entRo_ok (E := (E8 L N)) (dep := 1000) (f := Tryz.f8) (sound_of hΦ) okP (callI_sound (sound_of hΦ) okP 1 2000) rfl rfl fun d _ hy => (f8.b_eq L N (unR (.one .bool)) d.1).trans (Eq.trans (b := f8.b L N some d.1) (by kernel_rfl) hy)
def Φ8 (L N : Nat) : Tells := (addT (Φ31 L N) 8 (f8.ent L N))
theorem Φ8_ok (L N : Nat) : TellsOk Tryz.prog (Φ8 L N) := addT_ok (Φ31_ok L N) (f8.ok L N (Φ31_ok L N))
def f81.s0' {R : Type} (L N : Nat) (k0_e0 : LLM → LB → LI → Option R) (rec0 : LI → Int → Int → LLM → LB → LI → Option R) (s0 : LI) (s1 : Int) (s2 : Int) (s3 : LLM) (s4 : LB) (s5 : LI) : Option R :=
  bif (decide (s2 < s1)) then
    bif (decide (0 ≤ s2) && decide (s2 < (s0.length : Int))) then
      bif (decide (0 ≤ (listAt s0 (0 : Int) s2.toNat)) && decide ((listAt s0 (0 : Int) s2.toNat) < (s4.length : Int))) then
        bif (!(listAt s4 false (listAt s0 (0 : Int) s2.toNat).toNat)) then
          bif (decide (0 ≤ (listAt s0 (0 : Int) s2.toNat)) && decide ((listAt s0 (0 : Int) s2.toNat) < (s4.length : Int))) then
            bif (decide (s5.length + ([(listAt s0 (0 : Int) s2.toNat)] : LI).length ≤ lim)) then
              rec0 s0 s1 (wi (s2 + (1 : Int))) s3 (s4.set ((listAt s0 (0 : Int) s2.toNat).toNat) true) (s5 ++ ([(listAt s0 (0 : Int) s2.toNat)] : LI))
            else none
          else none
        else rec0 s0 s1 (wi (s2 + (1 : Int))) s3 s4 s5
      else none
    else none
  else k0_e0 s3 s4 s5
def f81.s0 {R : Type} (L N : Nat) (k0_e0 : LLM → LB → LI → Option R) (rec0 : LI → Int → Int → LLM → LB → LI → Option R) (s0 : LI) (s1 : Int) (s2 : Int) (s3 : LLM) (s4 : LB) (s5 : LI) : Option R :=
  f81.s0' L N k0_e0 rec0 s0 s1 s2 s3 s4 s5
def f81.l0 {R : Type} (L N : Nat) (k0_e0 : LLM → LB → LI → Option R) : Nat → LI → Int → Int → LLM → LB → LI → Option R
  | 0, _, _, _, _, _, _ => none
  | n + 1, s0, s1, s2, s3, s4, s5 => f81.s0 L N k0_e0 (f81.l0 L N k0_e0 n) s0 s1 s2 s3 s4 s5
def f81.T0 (s0 : LI) (s1 : Int) (s2 : Int) (s3 : LLM) (s4 : LB) (s5 : LI) : T := mkT 79 [(2, (.ptr 1002 0)), (5, (.row 1015)), (6, (.row 1016)), (17, (.tv (.sl i64) s0)), (18, (.tv i64 s1)), (19, (.tv i64 s2))]
def f81.H0 (s0 : LI) (s1 : Int) (s2 : Int) (s3 : LLM) (s4 : LB) (s5 : LI) : H := [(1002, (.box [(.tv (.sl (.sl (.st 0))) s3)])), (1015, (.row 4 .bool s4)), (1016, (.row 3 i64 s5))]
def f81.T0_e0 (z6 : LLM) (z7 : LB) (z8 : LI) : T := mkT 79 [(2, (.ptr 1002 0)), (5, (.row 1015)), (6, (.row 1016))]
def f81.H0_e0 (z6 : LLM) (z7 : LB) (z8 : LI) : H := [(1002, (.box [(.tv (.sl (.sl (.st 0))) z6)])), (1015, (.row 4 .bool z7)), (1016, (.row 3 i64 z8))]
def f81.j0' {R : Type} (L N : Nat) (k2_e4 : Int → LLM → LB → LI → Option R) (rec2 : Int → LM → Int → Int → LLM → LB → LI → Option R) (v31 : Int) (v32 : LM) (v33 : Int) (v34 : Int) (v35 : Bool) (v36 : LLM) (v37 : Int) (v38 : Int) (v39 : LB) (v40 : LI) : Option R :=
  bif v35 then
    bif (decide (0 ≤ v38) && decide (v38 < (v39.length : Int))) then
      bif (decide (v40.length + ([v38] : LI).length ≤ lim)) then
        rec2 v31 v32 v33 (wi (v34 + (1 : Int))) v36 (v39.set v38.toNat true) (v40 ++ ([v38] : LI))
      else none
    else none
  else rec2 v31 v32 v33 (wi (v34 + (1 : Int))) v36 v39 v40
def f81.s2' {R : Type} (L N : Nat) (k2_e4 : Int → LLM → LB → LI → Option R) (rec2 : Int → LM → Int → Int → LLM → LB → LI → Option R) (s20 : Int) (s21 : LM) (s22 : Int) (s23 : Int) (s24 : LLM) (s25 : LB) (s26 : LI) : Option R :=
  bif (decide (s23 < s22)) then
    bif (decide (0 ≤ s23) && decide (s23 < (s21.length : Int))) then
      bif ((listAt s21 (Ty.dflt (.st 0)) s23.toNat).act == (0 : Int)) then
        bif (decide (0 ≤ (listAt s21 (Ty.dflt (.st 0)) s23.toNat).to) && decide ((listAt s21 (Ty.dflt (.st 0)) s23.toNat).to < (s25.length : Int))) then
          f81.j0' L N k2_e4 rec2 s20 s21 s22 s23 (!(listAt s25 false ((listAt s21 (Ty.dflt (.st 0)) s23.toNat).to).toNat)) s24 ((listAt s21 (Ty.dflt (.st 0)) s23.toNat).act) ((listAt s21 (Ty.dflt (.st 0)) s23.toNat).to) s25 s26
        else none
      else f81.j0' L N k2_e4 rec2 s20 s21 s22 s23 false s24 ((listAt s21 (Ty.dflt (.st 0)) s23.toNat).act) ((listAt s21 (Ty.dflt (.st 0)) s23.toNat).to) s25 s26
    else none
  else k2_e4 s20 s24 s25 s26
def f81.s2 {R : Type} (L N : Nat) (k2_e4 : Int → LLM → LB → LI → Option R) (rec2 : Int → LM → Int → Int → LLM → LB → LI → Option R) (s20 : Int) (s21 : LM) (s22 : Int) (s23 : Int) (s24 : LLM) (s25 : LB) (s26 : LI) : Option R :=
  f81.s2' L N k2_e4 rec2 s20 s21 s22 s23 s24 s25 s26
def f81.l2 {R : Type} (L N : Nat) (k2_e4 : Int → LLM → LB → LI → Option R) : Nat → Int → LM → Int → Int → LLM → LB → LI → Option R
  | 0, _, _, _, _, _, _, _ => none
  | n + 1, s20, s21, s22, s23, s24, s25, s26 => f81.s2 L N k2_e4 (f81.l2 L N k2_e4 n) s20 s21 s22 s23 s24 s25 s26
def f81.T2 (s20 : Int) (s21 : LM) (s22 : Int) (s23 : Int) (s24 : LLM) (s25 : LB) (s26 : LI) : T := mkT 79 [(2, (.ptr 1002 0)), (5, (.row 1015)), (6, (.row 1016)), (9, (.tv i64 s20)), (49, (.tv (.sl (.st 0)) s21)), (50, (.tv i64 s22)), (51, (.tv i64 s23))]
def f81.H2 (s20 : Int) (s21 : LM) (s22 : Int) (s23 : Int) (s24 : LLM) (s25 : LB) (s26 : LI) : H := [(1002, (.box [(.tv (.sl (.sl (.st 0))) s24)])), (1015, (.row 4 .bool s25)), (1016, (.row 3 i64 s26))]
def f81.T2_e4 (z27 : Int) (z28 : LLM) (z29 : LB) (z30 : LI) : T := mkT 79 [(2, (.ptr 1002 0)), (5, (.row 1015)), (6, (.row 1016)), (9, (.tv i64 z27))]
def f81.H2_e4 (z27 : Int) (z28 : LLM) (z29 : LB) (z30 : LI) : H := [(1002, (.box [(.tv (.sl (.sl (.st 0))) z28)])), (1015, (.row 4 .bool z29)), (1016, (.row 3 i64 z30))]
def f81.p2_e4' {R : Type} (L N : Nat) (k1_e2 : LI → Option R) (rec1 : Int → LLM → LB → LI → Option R) (z27 : Int) (z28 : LLM) (z29 : LB) (z30 : LI) : Option R :=
  rec1 (wi (z27 + (1 : Int))) z28 z29 z30
def f81.p2_e4 {R : Type} (L N : Nat) (k1_e2 : LI → Option R) (rec1 : Int → LLM → LB → LI → Option R) (z27 : Int) (z28 : LLM) (z29 : LB) (z30 : LI) : Option R :=
  f81.p2_e4' L N k1_e2 rec1 z27 z28 z29 z30
def f81.s1' {R : Type} (L N : Nat) (k1_e2 : LI → Option R) (rec1 : Int → LLM → LB → LI → Option R) (w2 : Int → LM → Int → Int → LLM → LB → LI → Option R) (s15 : Int) (s16 : LLM) (s17 : LB) (s18 : LI) : Option R :=
  bif (decide (s15 < (s18.length : Int))) then
    bif (decide (0 ≤ s15) && decide (s15 < (s18.length : Int))) then
      bif (decide (0 ≤ (listAt s18 (0 : Int) s15.toNat)) && decide ((listAt s18 (0 : Int) s15.toNat) < (s16.length : Int))) then
        w2 s15 (listAt s16 [] (listAt s18 (0 : Int) s15.toNat).toNat) ((listAt s16 [] (listAt s18 (0 : Int) s15.toNat).toNat).length : Int) (0 : Int) s16 s17 s18
      else none
    else none
  else k1_e2 s18
def f81.s1 {R : Type} (L N : Nat) (k1_e2 : LI → Option R) (rec1 : Int → LLM → LB → LI → Option R) (s15 : Int) (s16 : LLM) (s17 : LB) (s18 : LI) : Option R :=
  f81.s1' L N k1_e2 rec1 (fun s20 s21 s22 s23 s24 s25 s26 => f81.l2 L N (fun z27 z28 z29 z30 => f81.p2_e4 L N k1_e2 rec1 z27 z28 z29 z30) L s20 s21 s22 s23 s24 s25 s26) s15 s16 s17 s18
def f81.l1 {R : Type} (L N : Nat) (k1_e2 : LI → Option R) : Nat → Int → LLM → LB → LI → Option R
  | 0, _, _, _, _ => none
  | n + 1, s15, s16, s17, s18 => f81.s1 L N k1_e2 (f81.l1 L N k1_e2 n) s15 s16 s17 s18
def f81.T1 (s15 : Int) (s16 : LLM) (s17 : LB) (s18 : LI) : T := mkT 79 [(2, (.ptr 1002 0)), (5, (.row 1015)), (6, (.row 1016)), (9, (.tv i64 s15))]
def f81.H1 (s15 : Int) (s16 : LLM) (s17 : LB) (s18 : LI) : H := [(1002, (.box [(.tv (.sl (.sl (.st 0))) s16)])), (1015, (.row 4 .bool s17)), (1016, (.row 3 i64 s18))]
def f81.T1_e2 (z19 : LI) : T := mkT 79 [(6, (.row 1016))]
def f81.H1_e2 (z19 : LI) : H := [(1016, (.row 3 i64 z19))]
def f81.p1_e2' {R : Type} (L N : Nat) (k : LI → Option R) (z19 : LI) : Option R :=
  ((fsort z19)).bind fun y48 =>
  k (sortI z19)
def f81.p1_e2 {R : Type} (L N : Nat) (k : LI → Option R) (z19 : LI) : Option R :=
  f81.p1_e2' L N k z19
def f81.p0_e0' {R : Type} (L N : Nat) (k : LI → Option R) (w1 : Int → LLM → LB → LI → Option R) (z6 : LLM) (z7 : LB) (z8 : LI) : Option R :=
  w1 (0 : Int) z6 z7 z8
def f81.p0_e0 {R : Type} (L N : Nat) (k : LI → Option R) (z6 : LLM) (z7 : LB) (z8 : LI) : Option R :=
  f81.p0_e0' L N k (fun s15 s16 s17 s18 => f81.l1 L N (fun z19 => f81.p1_e2 L N k z19) L s15 s16 s17 s18) z6 z7 z8
def f81.b' {R : Type} (L N : Nat) (k : LI → Option R) (w0 : LI → Int → Int → LLM → LB → LI → Option R) (x0 : Graph) (x1 : LI) : Option R :=
  bif (decide (0 ≤ (x0.moves.length : Int)) && decide ((x0.moves.length : Int) ≤ (lim : Int))) then
    w0 x1 (x1.length : Int) (0 : Int) x0.moves (List.replicate (x0.moves.length : Int).toNat false) ([] : LI)
  else none
def f81.b {R : Type} (L N : Nat) (k : LI → Option R) (x0 : Graph) (x1 : LI) : Option R :=
  f81.b' L N k (fun s0 s1 s2 s3 s4 s5 => f81.l0 L N (fun z6 z7 z8 => f81.p0_e0 L N k z6 z7 z8) L s0 s1 s2 s3 s4 s5) x0 x1
def f81 (L N : Nat) (x0 : Graph) (x1 : LI) : Option (LI) := f81.b L N some x0 x1
def f81.ent (L N : Nat) (args : List AV) (vw : View) (site : Nat) : Ans := match roD [(.st 2), (.sl i64)] vw args with
  | some d => ⟨LI, f81 L N d.1 d.2.1, fun y => (RN.av site .row (), [(site, some (mkO none 3 i64 y))], [])⟩
  | none => Ans.no
noncomputable def E81 (L N : Nat) : Env := { P := Tryz.prog, ty := tyOf, Φ := (Φ8 L N), inl := inlT, live := lives, liveX := livesX, L := L, dp := none, prom := promT, heal := healT, ren := renT }
noncomputable def f81.c0 : Code := loopAt 0 (codeOf Tryz.f81)
def f81.X0_e0 {R : Type} (κ : KX R) := fun z6 z7 z8 => κ (.exit 0) (f81.T0_e0 z6 z7 z8) (f81.H0_e0 z6 z7 z8)
def f81.R0 {R : Type} (rec : KT R) := fun s0 s1 s2 s3 s4 s5 => rec (f81.T0 s0 s1 s2 s3 s4 s5) (f81.H0 s0 s1 s2 s3 s4 s5)
theorem f81.s0_eq {R : Type} (L N : Nat) (κ : KX R) (rec : KT R) (s0 : LI) (s1 : Int) (s2 : Int) (s3 : LLM) (s4 : LB) (s5 : LI) :
    evRd (E81 L N) (evCallI (E81 L N) 1 2000) 1000 81 79 0 f81.c0 κ rec (f81.T0 s0 s1 s2 s3 s4 s5) (f81.H0 s0 s1 s2 s3 s4 s5)
    = f81.s0 L N (f81.X0_e0 κ) (f81.R0 rec) s0 s1 s2 s3 s4 s5 := by kernel_rfl
theorem f81.l0_eq {R : Type} (L N : Nat) (κ : KX R) : ∀ (n : Nat) (s0 : LI) (s1 : Int) (s2 : Int) (s3 : LLM) (s4 : LB) (s5 : LI),
    evLp (E81 L N) (evCallI (E81 L N) 1 2000) 1000 81 79 0 f81.c0 κ n (f81.T0 s0 s1 s2 s3 s4 s5) (f81.H0 s0 s1 s2 s3 s4 s5)
    = f81.l0 L N (f81.X0_e0 κ) n s0 s1 s2 s3 s4 s5 := by
  intro n
  induction n with
  | zero => intros; rfl
  | succ n ih =>
    intro s0 s1 s2 s3 s4 s5
    rw [evLp_succ, f81.s0_eq]
    delta f81.R0
    simp only [ih]
    rfl
noncomputable def f81.c1 : Code := loopAt 2 (codeOf Tryz.f81)
noncomputable def f81.c2 : Code := loopAt 4 f81.c1
def f81.X2_e4 {R : Type} (κ : KX R) := fun z27 z28 z29 z30 => κ (.exit 4) (f81.T2_e4 z27 z28 z29 z30) (f81.H2_e4 z27 z28 z29 z30)
def f81.R2 {R : Type} (rec : KT R) := fun s20 s21 s22 s23 s24 s25 s26 => rec (f81.T2 s20 s21 s22 s23 s24 s25 s26) (f81.H2 s20 s21 s22 s23 s24 s25 s26)
theorem f81.s2_eq {R : Type} (L N : Nat) (κ : KX R) (rec : KT R) (s20 : Int) (s21 : LM) (s22 : Int) (s23 : Int) (s24 : LLM) (s25 : LB) (s26 : LI) :
    evRd (E81 L N) (evCallI (E81 L N) 1 2000) 1000 81 79 4 f81.c2 κ rec (f81.T2 s20 s21 s22 s23 s24 s25 s26) (f81.H2 s20 s21 s22 s23 s24 s25 s26)
    = f81.s2 L N (f81.X2_e4 κ) (f81.R2 rec) s20 s21 s22 s23 s24 s25 s26 := by kernel_rfl
theorem f81.l2_eq {R : Type} (L N : Nat) (κ : KX R) : ∀ (n : Nat) (s20 : Int) (s21 : LM) (s22 : Int) (s23 : Int) (s24 : LLM) (s25 : LB) (s26 : LI),
    evLp (E81 L N) (evCallI (E81 L N) 1 2000) 1000 81 79 4 f81.c2 κ n (f81.T2 s20 s21 s22 s23 s24 s25 s26) (f81.H2 s20 s21 s22 s23 s24 s25 s26)
    = f81.l2 L N (f81.X2_e4 κ) n s20 s21 s22 s23 s24 s25 s26 := by
  intro n
  induction n with
  | zero => intros; rfl
  | succ n ih =>
    intro s20 s21 s22 s23 s24 s25 s26
    rw [evLp_succ, f81.s2_eq]
    delta f81.R2
    simp only [ih]
    rfl
def f81.X1_e2 {R : Type} (κ : KX R) := fun z19 => κ (.exit 2) (f81.T1_e2 z19) (f81.H1_e2 z19)
def f81.R1 {R : Type} (rec : KT R) := fun s15 s16 s17 s18 => rec (f81.T1 s15 s16 s17 s18) (f81.H1 s15 s16 s17 s18)
theorem f81.p2_e4_eq {R : Type} (L N : Nat) (κ : KX R) (rec : KT R) (z27 : Int) (z28 : LLM) (z29 : LB) (z30 : LI) :
    (contAt (E81 L N) (evCallI (E81 L N) 1 2000) 1000 81 79 4 f81.c1 (rdK (E81 L N) 1000 81 79 2 κ rec)) (.exit 4) (f81.T2_e4 z27 z28 z29 z30) (f81.H2_e4 z27 z28 z29 z30)
    = f81.p2_e4 L N (f81.X1_e2 κ) (f81.R1 rec) z27 z28 z29 z30 := by kernel_rfl
theorem f81.s1_eq {R : Type} (L N : Nat) (κ : KX R) (rec : KT R) (s15 : Int) (s16 : LLM) (s17 : LB) (s18 : LI) :
    evRd (E81 L N) (evCallI (E81 L N) 1 2000) 1000 81 79 2 f81.c1 κ rec (f81.T1 s15 s16 s17 s18) (f81.H1 s15 s16 s17 s18)
    = f81.s1 L N (f81.X1_e2 κ) (f81.R1 rec) s15 s16 s17 s18 := by
  refine Eq.trans (b := f81.s1' L N (f81.X1_e2 κ) (f81.R1 rec) (fun s20 s21 s22 s23 s24 s25 s26 => evLp (E81 L N) (evCallI (E81 L N) 1 2000) 1000 81 79 4 f81.c2 (contAt (E81 L N) (evCallI (E81 L N) 1 2000) 1000 81 79 4 f81.c1 (rdK (E81 L N) 1000 81 79 2 κ rec)) L (f81.T2 s20 s21 s22 s23 s24 s25 s26) (f81.H2 s20 s21 s22 s23 s24 s25 s26)) s15 s16 s17 s18) (by kernel_rfl) ?_
  unfold f81.s1
  simp only [f81.l2_eq]
  delta f81.X2_e4
  simp only [f81.p2_e4_eq]
theorem f81.l1_eq {R : Type} (L N : Nat) (κ : KX R) : ∀ (n : Nat) (s15 : Int) (s16 : LLM) (s17 : LB) (s18 : LI),
    evLp (E81 L N) (evCallI (E81 L N) 1 2000) 1000 81 79 2 f81.c1 κ n (f81.T1 s15 s16 s17 s18) (f81.H1 s15 s16 s17 s18)
    = f81.l1 L N (f81.X1_e2 κ) n s15 s16 s17 s18 := by
  intro n
  induction n with
  | zero => intros; rfl
  | succ n ih =>
    intro s15 s16 s17 s18
    rw [evLp_succ, f81.s1_eq]
    delta f81.R1
    simp only [ih]
    rfl
theorem f81.p1_e2_eq {R : Type} (L N : Nat) (κ : RN.Den .row → List Int → Option R) (z19 : LI) :
    (contAt (E81 L N) (evCallI (E81 L N) 1 2000) 1000 81 79 2 (codeOf Tryz.f81) (finK (E81 L N) 1000 Tryz.f81 (finN .row none 3 i64 κ))) (.exit 2) (f81.T1_e2 z19) (f81.H1_e2 z19)
    = f81.p1_e2 L N (fun a0 => κ () a0) z19 := by kernel_rfl
theorem f81.p0_e0_eq {R : Type} (L N : Nat) (κ : RN.Den .row → List Int → Option R) (z6 : LLM) (z7 : LB) (z8 : LI) :
    (contAt (E81 L N) (evCallI (E81 L N) 1 2000) 1000 81 79 0 (codeOf Tryz.f81) (finK (E81 L N) 1000 Tryz.f81 (finN .row none 3 i64 κ))) (.exit 0) (f81.T0_e0 z6 z7 z8) (f81.H0_e0 z6 z7 z8)
    = f81.p0_e0 L N (fun a0 => κ () a0) z6 z7 z8 := by
  refine Eq.trans (b := f81.p0_e0' L N (fun a0 => κ () a0) (fun s15 s16 s17 s18 => evLp (E81 L N) (evCallI (E81 L N) 1 2000) 1000 81 79 2 f81.c1 (contAt (E81 L N) (evCallI (E81 L N) 1 2000) 1000 81 79 2 (codeOf Tryz.f81) (finK (E81 L N) 1000 Tryz.f81 (finN .row none 3 i64 κ))) L (f81.T1 s15 s16 s17 s18) (f81.H1 s15 s16 s17 s18)) z6 z7 z8) (by kernel_rfl) ?_
  unfold f81.p0_e0
  simp only [f81.l1_eq]
  delta f81.X1_e2
  simp only [f81.p1_e2_eq]
theorem f81.b_eq {R : Type} (L N : Nat) (κ : RN.Den .row → List Int → Option R) (x0 : Graph) (x1 : LI) :
    evBody (E81 L N) (evCallI (E81 L N) 1 2000) 1000 81 Tryz.f81 [(.tv (.st 2) x0), (.tv (.sl i64) x1)] [] [] (finN .row none 3 i64 κ)
    = f81.b L N (fun a0 => κ () a0) x0 x1 := by
  refine Eq.trans (b := f81.b' L N (fun a0 => κ () a0) (fun s0 s1 s2 s3 s4 s5 => evLp (E81 L N) (evCallI (E81 L N) 1 2000) 1000 81 79 0 f81.c0 (contAt (E81 L N) (evCallI (E81 L N) 1 2000) 1000 81 79 0 (codeOf Tryz.f81) (finK (E81 L N) 1000 Tryz.f81 (finN .row none 3 i64 κ))) L (f81.T0 s0 s1 s2 s3 s4 s5) (f81.H0 s0 s1 s2 s3 s4 s5)) x0 x1) (by kernel_rfl) ?_
  unfold f81.b
  simp only [f81.l0_eq]
  delta f81.X0_e0
  simp only [f81.p0_e0_eq]
theorem f81.ok (L N : Nat) (hΦ : TellsOk Tryz.prog ((Φ8 L N))) : EntOk Tryz.prog 81 (f81.ent L N) := by
  intro args vw site h
  unfold f81.ent
  split
  · rename_i d ha
    intro y hy hs
    refine call_ron (y := y) (dep := 1000) (E := (E81 L N)) (ts := [(.st 2), (.sl i64)]) (rn := .row) (q := none) (el := 3) (ty := i64) (d1 := ()) (xs := y) (κ := (fun d xs => some xs)) (sound_of hΦ) okP (callI_sound (sound_of hΦ) okP 1 2000) (f := Tryz.f81) rfl hs ha ?_ (fun _ _ h => by obtain rfl := Option.some.inj h; exact ⟨rfl, rfl⟩) rfl site
    exact (f81.b_eq L N (fun d xs => some xs) d.1 d.2.1).trans (Eq.trans (b := f81.b L N some d.1 d.2.1) (by kernel_rfl) hy)
  · intro y hy
    cases hy
def Φ81 (L N : Nat) : Tells := (addT (Φ8 L N) 81 (f81.ent L N))
theorem Φ81_ok (L N : Nat) : TellsOk Tryz.prog (Φ81 L N) := addT_ok (Φ8_ok L N) (f81.ok L N (Φ8_ok L N))
def f54.s1' {R : Type} (L N : Nat) (k1_e2 : Int → LI → Int → Int → LLM → LI → Option R) (rec1 : Int → LI → Int → Int → LM → Int → Int → LLM → LI → Option R) (s8 : Int) (s9 : LI) (s10 : Int) (s11 : Int) (s12 : LM) (s13 : Int) (s14 : Int) (s15 : LLM) (s16 : LI) : Option R :=
  bif (decide (s14 < s13)) then
    bif (decide (0 ≤ s14) && decide (s14 < (s12.length : Int))) then
      bif ((listAt s12 (Ty.dflt (.st 0)) s14.toNat).act == s8) then
        bif (decide (s16.length + ([(listAt s12 (Ty.dflt (.st 0)) s14.toNat).to] : LI).length ≤ lim)) then
          rec1 s8 s9 s10 s11 s12 s13 (wi (s14 + (1 : Int))) s15 (s16 ++ ([(listAt s12 (Ty.dflt (.st 0)) s14.toNat).to] : LI))
        else none
      else rec1 s8 s9 s10 s11 s12 s13 (wi (s14 + (1 : Int))) s15 s16
    else none
  else k1_e2 s8 s9 s10 s11 s15 s16
def f54.s1 {R : Type} (L N : Nat) (k1_e2 : Int → LI → Int → Int → LLM → LI → Option R) (rec1 : Int → LI → Int → Int → LM → Int → Int → LLM → LI → Option R) (s8 : Int) (s9 : LI) (s10 : Int) (s11 : Int) (s12 : LM) (s13 : Int) (s14 : Int) (s15 : LLM) (s16 : LI) : Option R :=
  f54.s1' L N k1_e2 rec1 s8 s9 s10 s11 s12 s13 s14 s15 s16
def f54.l1 {R : Type} (L N : Nat) (k1_e2 : Int → LI → Int → Int → LLM → LI → Option R) : Nat → Int → LI → Int → Int → LM → Int → Int → LLM → LI → Option R
  | 0, _, _, _, _, _, _, _, _, _ => none
  | n + 1, s8, s9, s10, s11, s12, s13, s14, s15, s16 => f54.s1 L N k1_e2 (f54.l1 L N k1_e2 n) s8 s9 s10 s11 s12 s13 s14 s15 s16
def f54.T1 (s8 : Int) (s9 : LI) (s10 : Int) (s11 : Int) (s12 : LM) (s13 : Int) (s14 : Int) (s15 : LLM) (s16 : LI) : T := mkT 43 [(2, (.tv i64 s8)), (3, (.ptr 1003 0)), (7, (.row 1012)), (13, (.tv (.sl i64) s9)), (14, (.tv i64 s10)), (15, (.tv i64 s11)), (23, (.tv (.sl (.st 0)) s12)), (24, (.tv i64 s13)), (25, (.tv i64 s14))]
def f54.H1 (s8 : Int) (s9 : LI) (s10 : Int) (s11 : Int) (s12 : LM) (s13 : Int) (s14 : Int) (s15 : LLM) (s16 : LI) : H := [(1003, (.box [(.tv (.sl (.sl (.st 0))) s15)])), (1012, (.row 3 i64 s16))]
def f54.T1_e2 (z17 : Int) (z18 : LI) (z19 : Int) (z20 : Int) (z21 : LLM) (z22 : LI) : T := mkT 43 [(2, (.tv i64 z17)), (3, (.ptr 1003 0)), (7, (.row 1012)), (13, (.tv (.sl i64) z18)), (14, (.tv i64 z19)), (15, (.tv i64 z20))]
def f54.H1_e2 (z17 : Int) (z18 : LI) (z19 : Int) (z20 : Int) (z21 : LLM) (z22 : LI) : H := [(1003, (.box [(.tv (.sl (.sl (.st 0))) z21)])), (1012, (.row 3 i64 z22))]
def f54.p1_e2' {R : Type} (L N : Nat) (k0_e0 : LLM → LI → Option R) (rec0 : Int → LI → Int → Int → LLM → LI → Option R) (z17 : Int) (z18 : LI) (z19 : Int) (z20 : Int) (z21 : LLM) (z22 : LI) : Option R :=
  rec0 z17 z18 z19 (wi (z20 + (1 : Int))) z21 z22
def f54.p1_e2 {R : Type} (L N : Nat) (k0_e0 : LLM → LI → Option R) (rec0 : Int → LI → Int → Int → LLM → LI → Option R) (z17 : Int) (z18 : LI) (z19 : Int) (z20 : Int) (z21 : LLM) (z22 : LI) : Option R :=
  f54.p1_e2' L N k0_e0 rec0 z17 z18 z19 z20 z21 z22
def f54.s0' {R : Type} (L N : Nat) (k0_e0 : LLM → LI → Option R) (rec0 : Int → LI → Int → Int → LLM → LI → Option R) (w1 : Int → LI → Int → Int → LM → Int → Int → LLM → LI → Option R) (s0 : Int) (s1 : LI) (s2 : Int) (s3 : Int) (s4 : LLM) (s5 : LI) : Option R :=
  bif (decide (s3 < s2)) then
    bif (decide (0 ≤ s3) && decide (s3 < (s1.length : Int))) then
      bif (decide (0 ≤ (listAt s1 (0 : Int) s3.toNat)) && decide ((listAt s1 (0 : Int) s3.toNat) < (s4.length : Int))) then
        w1 s0 s1 s2 s3 (listAt s4 [] (listAt s1 (0 : Int) s3.toNat).toNat) ((listAt s4 [] (listAt s1 (0 : Int) s3.toNat).toNat).length : Int) (0 : Int) s4 s5
      else none
    else none
  else k0_e0 s4 s5
def f54.s0 {R : Type} (L N : Nat) (k0_e0 : LLM → LI → Option R) (rec0 : Int → LI → Int → Int → LLM → LI → Option R) (s0 : Int) (s1 : LI) (s2 : Int) (s3 : Int) (s4 : LLM) (s5 : LI) : Option R :=
  f54.s0' L N k0_e0 rec0 (fun s8 s9 s10 s11 s12 s13 s14 s15 s16 => f54.l1 L N (fun z17 z18 z19 z20 z21 z22 => f54.p1_e2 L N k0_e0 rec0 z17 z18 z19 z20 z21 z22) L s8 s9 s10 s11 s12 s13 s14 s15 s16) s0 s1 s2 s3 s4 s5
def f54.l0 {R : Type} (L N : Nat) (k0_e0 : LLM → LI → Option R) : Nat → Int → LI → Int → Int → LLM → LI → Option R
  | 0, _, _, _, _, _, _ => none
  | n + 1, s0, s1, s2, s3, s4, s5 => f54.s0 L N k0_e0 (f54.l0 L N k0_e0 n) s0 s1 s2 s3 s4 s5
def f54.T0 (s0 : Int) (s1 : LI) (s2 : Int) (s3 : Int) (s4 : LLM) (s5 : LI) : T := mkT 43 [(2, (.tv i64 s0)), (3, (.ptr 1003 0)), (7, (.row 1012)), (13, (.tv (.sl i64) s1)), (14, (.tv i64 s2)), (15, (.tv i64 s3))]
def f54.H0 (s0 : Int) (s1 : LI) (s2 : Int) (s3 : Int) (s4 : LLM) (s5 : LI) : H := [(1003, (.box [(.tv (.sl (.sl (.st 0))) s4)])), (1012, (.row 3 i64 s5))]
def f54.T0_e0 (z6 : LLM) (z7 : LI) : T := mkT 43 [(3, (.ptr 1003 0)), (7, (.row 1012))]
def f54.H0_e0 (z6 : LLM) (z7 : LI) : H := [(1003, (.box [(.tv (.sl (.sl (.st 0))) z6)])), (1012, (.row 3 i64 z7))]
def f54.p0_e0' {R : Type} (L N : Nat) (k : LI → Option R) (z6 : LLM) (z7 : LI) : Option R :=
  (f81 L N (Graph.mk z6) z7).bind fun y32 =>
  k y32
def f54.p0_e0 {R : Type} (L N : Nat) (k : LI → Option R) (z6 : LLM) (z7 : LI) : Option R :=
  f54.p0_e0' L N k z6 z7
def f54.b' {R : Type} (L N : Nat) (k : LI → Option R) (w0 : Int → LI → Int → Int → LLM → LI → Option R) (x0 : Graph) (x1 : LI) (x2 : Int) : Option R :=
  w0 x2 x1 (x1.length : Int) (0 : Int) x0.moves ([] : LI)
def f54.b {R : Type} (L N : Nat) (k : LI → Option R) (x0 : Graph) (x1 : LI) (x2 : Int) : Option R :=
  f54.b' L N k (fun s0 s1 s2 s3 s4 s5 => f54.l0 L N (fun z6 z7 => f54.p0_e0 L N k z6 z7) L s0 s1 s2 s3 s4 s5) x0 x1 x2
def f54 (L N : Nat) (x0 : Graph) (x1 : LI) (x2 : Int) : Option (LI) := f54.b L N some x0 x1 x2
def f54.ent (L N : Nat) (args : List AV) (vw : View) (site : Nat) : Ans := match roD [(.st 2), (.sl i64), i64] vw args with
  | some d => ⟨LI, f54 L N d.1 d.2.1 d.2.2.1, fun y => (RN.av site .row (), [(site, some (mkO none 3 i64 y))], [])⟩
  | none => Ans.no
noncomputable def E54 (L N : Nat) : Env := { P := Tryz.prog, ty := tyOf, Φ := (Φ81 L N), inl := inlT, live := lives, liveX := livesX, L := L, dp := none, prom := promT, heal := healT, ren := renT }
noncomputable def f54.c0 : Code := loopAt 0 (codeOf Tryz.f54)
noncomputable def f54.c1 : Code := loopAt 2 f54.c0
def f54.X1_e2 {R : Type} (κ : KX R) := fun z17 z18 z19 z20 z21 z22 => κ (.exit 2) (f54.T1_e2 z17 z18 z19 z20 z21 z22) (f54.H1_e2 z17 z18 z19 z20 z21 z22)
def f54.R1 {R : Type} (rec : KT R) := fun s8 s9 s10 s11 s12 s13 s14 s15 s16 => rec (f54.T1 s8 s9 s10 s11 s12 s13 s14 s15 s16) (f54.H1 s8 s9 s10 s11 s12 s13 s14 s15 s16)
theorem f54.s1_eq {R : Type} (L N : Nat) (κ : KX R) (rec : KT R) (s8 : Int) (s9 : LI) (s10 : Int) (s11 : Int) (s12 : LM) (s13 : Int) (s14 : Int) (s15 : LLM) (s16 : LI) :
    evRd (E54 L N) (evCallI (E54 L N) 1 2000) 1000 54 43 2 f54.c1 κ rec (f54.T1 s8 s9 s10 s11 s12 s13 s14 s15 s16) (f54.H1 s8 s9 s10 s11 s12 s13 s14 s15 s16)
    = f54.s1 L N (f54.X1_e2 κ) (f54.R1 rec) s8 s9 s10 s11 s12 s13 s14 s15 s16 := by kernel_rfl
theorem f54.l1_eq {R : Type} (L N : Nat) (κ : KX R) : ∀ (n : Nat) (s8 : Int) (s9 : LI) (s10 : Int) (s11 : Int) (s12 : LM) (s13 : Int) (s14 : Int) (s15 : LLM) (s16 : LI),
    evLp (E54 L N) (evCallI (E54 L N) 1 2000) 1000 54 43 2 f54.c1 κ n (f54.T1 s8 s9 s10 s11 s12 s13 s14 s15 s16) (f54.H1 s8 s9 s10 s11 s12 s13 s14 s15 s16)
    = f54.l1 L N (f54.X1_e2 κ) n s8 s9 s10 s11 s12 s13 s14 s15 s16 := by
  intro n
  induction n with
  | zero => intros; rfl
  | succ n ih =>
    intro s8 s9 s10 s11 s12 s13 s14 s15 s16
    rw [evLp_succ, f54.s1_eq]
    delta f54.R1
    simp only [ih]
    rfl
def f54.X0_e0 {R : Type} (κ : KX R) := fun z6 z7 => κ (.exit 0) (f54.T0_e0 z6 z7) (f54.H0_e0 z6 z7)
def f54.R0 {R : Type} (rec : KT R) := fun s0 s1 s2 s3 s4 s5 => rec (f54.T0 s0 s1 s2 s3 s4 s5) (f54.H0 s0 s1 s2 s3 s4 s5)
theorem f54.p1_e2_eq {R : Type} (L N : Nat) (κ : KX R) (rec : KT R) (z17 : Int) (z18 : LI) (z19 : Int) (z20 : Int) (z21 : LLM) (z22 : LI) :
    (contAt (E54 L N) (evCallI (E54 L N) 1 2000) 1000 54 43 2 f54.c0 (rdK (E54 L N) 1000 54 43 0 κ rec)) (.exit 2) (f54.T1_e2 z17 z18 z19 z20 z21 z22) (f54.H1_e2 z17 z18 z19 z20 z21 z22)
    = f54.p1_e2 L N (f54.X0_e0 κ) (f54.R0 rec) z17 z18 z19 z20 z21 z22 := by kernel_rfl
theorem f54.s0_eq {R : Type} (L N : Nat) (κ : KX R) (rec : KT R) (s0 : Int) (s1 : LI) (s2 : Int) (s3 : Int) (s4 : LLM) (s5 : LI) :
    evRd (E54 L N) (evCallI (E54 L N) 1 2000) 1000 54 43 0 f54.c0 κ rec (f54.T0 s0 s1 s2 s3 s4 s5) (f54.H0 s0 s1 s2 s3 s4 s5)
    = f54.s0 L N (f54.X0_e0 κ) (f54.R0 rec) s0 s1 s2 s3 s4 s5 := by
  refine Eq.trans (b := f54.s0' L N (f54.X0_e0 κ) (f54.R0 rec) (fun s8 s9 s10 s11 s12 s13 s14 s15 s16 => evLp (E54 L N) (evCallI (E54 L N) 1 2000) 1000 54 43 2 f54.c1 (contAt (E54 L N) (evCallI (E54 L N) 1 2000) 1000 54 43 2 f54.c0 (rdK (E54 L N) 1000 54 43 0 κ rec)) L (f54.T1 s8 s9 s10 s11 s12 s13 s14 s15 s16) (f54.H1 s8 s9 s10 s11 s12 s13 s14 s15 s16)) s0 s1 s2 s3 s4 s5) (by kernel_rfl) ?_
  unfold f54.s0
  simp only [f54.l1_eq]
  delta f54.X1_e2
  simp only [f54.p1_e2_eq]
theorem f54.l0_eq {R : Type} (L N : Nat) (κ : KX R) : ∀ (n : Nat) (s0 : Int) (s1 : LI) (s2 : Int) (s3 : Int) (s4 : LLM) (s5 : LI),
    evLp (E54 L N) (evCallI (E54 L N) 1 2000) 1000 54 43 0 f54.c0 κ n (f54.T0 s0 s1 s2 s3 s4 s5) (f54.H0 s0 s1 s2 s3 s4 s5)
    = f54.l0 L N (f54.X0_e0 κ) n s0 s1 s2 s3 s4 s5 := by
  intro n
  induction n with
  | zero => intros; rfl
  | succ n ih =>
    intro s0 s1 s2 s3 s4 s5
    rw [evLp_succ, f54.s0_eq]
    delta f54.R0
    simp only [ih]
    rfl
theorem f54.p0_e0_eq {R : Type} (L N : Nat) (κ : RN.Den .row → List Int → Option R) (z6 : LLM) (z7 : LI) :
    (contAt (E54 L N) (evCallI (E54 L N) 1 2000) 1000 54 43 0 (codeOf Tryz.f54) (finK (E54 L N) 1000 Tryz.f54 (finN .row none 3 i64 κ))) (.exit 0) (f54.T0_e0 z6 z7) (f54.H0_e0 z6 z7)
    = f54.p0_e0 L N (fun a0 => κ () a0) z6 z7 := by kernel_rfl
theorem f54.b_eq {R : Type} (L N : Nat) (κ : RN.Den .row → List Int → Option R) (x0 : Graph) (x1 : LI) (x2 : Int) :
    evBody (E54 L N) (evCallI (E54 L N) 1 2000) 1000 54 Tryz.f54 [(.tv (.st 2) x0), (.tv (.sl i64) x1), (.tv i64 x2)] [] [] (finN .row none 3 i64 κ)
    = f54.b L N (fun a0 => κ () a0) x0 x1 x2 := by
  refine Eq.trans (b := f54.b' L N (fun a0 => κ () a0) (fun s0 s1 s2 s3 s4 s5 => evLp (E54 L N) (evCallI (E54 L N) 1 2000) 1000 54 43 0 f54.c0 (contAt (E54 L N) (evCallI (E54 L N) 1 2000) 1000 54 43 0 (codeOf Tryz.f54) (finK (E54 L N) 1000 Tryz.f54 (finN .row none 3 i64 κ))) L (f54.T0 s0 s1 s2 s3 s4 s5) (f54.H0 s0 s1 s2 s3 s4 s5)) x0 x1 x2) (by kernel_rfl) ?_
  unfold f54.b
  simp only [f54.l0_eq]
  delta f54.X0_e0
  simp only [f54.p0_e0_eq]
theorem f54.ok (L N : Nat) (hΦ : TellsOk Tryz.prog ((Φ81 L N))) : EntOk Tryz.prog 54 (f54.ent L N) := by
  intro args vw site h
  unfold f54.ent
  split
  · rename_i d ha
    intro y hy hs
    refine call_ron (y := y) (dep := 1000) (E := (E54 L N)) (ts := [(.st 2), (.sl i64), i64]) (rn := .row) (q := none) (el := 3) (ty := i64) (d1 := ()) (xs := y) (κ := (fun d xs => some xs)) (sound_of hΦ) okP (callI_sound (sound_of hΦ) okP 1 2000) (f := Tryz.f54) rfl hs ha ?_ (fun _ _ h => by obtain rfl := Option.some.inj h; exact ⟨rfl, rfl⟩) rfl site
    exact (f54.b_eq L N (fun d xs => some xs) d.1 d.2.1 d.2.2.1).trans (Eq.trans (b := f54.b L N some d.1 d.2.1 d.2.2.1) (by kernel_rfl) hy)
  · intro y hy
    cases hy
def Φ54 (L N : Nat) : Tells := (addT (Φ81 L N) 54 (f54.ent L N))
theorem Φ54_ok (L N : Nat) : TellsOk Tryz.prog (Φ54 L N) := addT_ok (Φ81_ok L N) (f54.ok L N (Φ81_ok L N))
def f50.s0' {R : Type} (L N : Nat) (k0_e0 : LI → Option R) (rec0 : LI → Int → Int → LLM → LI → Option R) (s1 : LI) (s2 : Int) (s3 : Int) (s4 : LLM) (s5 : LI) : Option R :=
  bif (decide (s3 < s2)) then
    bif (decide (0 ≤ s3) && decide (s3 < (s1.length : Int))) then
      (f54 L N (Graph.mk s4) s5 (listAt s1 (0 : Int) s3.toNat)).bind fun y7 =>
      rec0 s1 s2 (wi (s3 + (1 : Int))) s4 y7
    else none
  else k0_e0 s5
def f50.s0 {R : Type} (L N : Nat) (k0_e0 : LI → Option R) (rec0 : LI → Int → Int → LLM → LI → Option R) (s1 : LI) (s2 : Int) (s3 : Int) (s4 : LLM) (s5 : LI) : Option R :=
  f50.s0' L N k0_e0 rec0 s1 s2 s3 s4 s5
def f50.l0 {R : Type} (L N : Nat) (k0_e0 : LI → Option R) : Nat → LI → Int → Int → LLM → LI → Option R
  | 0, _, _, _, _, _ => none
  | n + 1, s1, s2, s3, s4, s5 => f50.s0 L N k0_e0 (f50.l0 L N k0_e0 n) s1 s2 s3 s4 s5
def f50.T0 (s1 : LI) (s2 : Int) (s3 : Int) (s4 : LLM) (s5 : LI) : T := mkT 23 [(2, (.ptr 1002 0)), (5, (.row 1010)), (11, (.tv (.sl i64) s1)), (12, (.tv i64 s2)), (13, (.tv i64 s3))]
def f50.H0 (s1 : LI) (s2 : Int) (s3 : Int) (s4 : LLM) (s5 : LI) : H := [(1002, (.box [(.tv (.sl (.sl (.st 0))) s4)])), (1010, (.row 3 i64 s5))]
def f50.T0_e0 (z6 : LI) : T := mkT 23 [(5, (.row 1010))]
def f50.H0_e0 (z6 : LI) : H := [(1010, (.row 3 i64 z6))]
def f50.p0_e0' {R : Type} (L N : Nat) (k : LI → Option R) (z6 : LI) : Option R :=
  k z6
def f50.p0_e0 {R : Type} (L N : Nat) (k : LI → Option R) (z6 : LI) : Option R :=
  f50.p0_e0' L N k z6
def f50.b' {R : Type} (L N : Nat) (k : LI → Option R) (w0 : LI → Int → Int → LLM → LI → Option R) (x0 : Graph) (x1 : LI) : Option R :=
  (f81 L N (Graph.mk x0.moves) ([(0 : Int)] : LI)).bind fun y0 =>
  w0 x1 (x1.length : Int) (0 : Int) x0.moves y0
def f50.b {R : Type} (L N : Nat) (k : LI → Option R) (x0 : Graph) (x1 : LI) : Option R :=
  f50.b' L N k (fun s1 s2 s3 s4 s5 => f50.l0 L N (fun z6 => f50.p0_e0 L N k z6) L s1 s2 s3 s4 s5) x0 x1
def f50 (L N : Nat) (x0 : Graph) (x1 : LI) : Option (LI) := f50.b L N some x0 x1
def f50.ent (L N : Nat) (args : List AV) (vw : View) (site : Nat) : Ans := match roD [(.st 2), (.sl i64)] vw args with
  | some d => ⟨LI, f50 L N d.1 d.2.1, fun y => (RN.av site .row (), [(site, some (mkO none 3 i64 y))], [])⟩
  | none => Ans.no
noncomputable def E50 (L N : Nat) : Env := { P := Tryz.prog, ty := tyOf, Φ := (Φ54 L N), inl := inlT, live := lives, liveX := livesX, L := L, dp := none, prom := promT, heal := healT, ren := renT }
noncomputable def f50.c0 : Code := loopAt 0 (codeOf Tryz.f50)
def f50.X0_e0 {R : Type} (κ : KX R) := fun z6 => κ (.exit 0) (f50.T0_e0 z6) (f50.H0_e0 z6)
def f50.R0 {R : Type} (rec : KT R) := fun s1 s2 s3 s4 s5 => rec (f50.T0 s1 s2 s3 s4 s5) (f50.H0 s1 s2 s3 s4 s5)
theorem f50.s0_eq {R : Type} (L N : Nat) (κ : KX R) (rec : KT R) (s1 : LI) (s2 : Int) (s3 : Int) (s4 : LLM) (s5 : LI) :
    evRd (E50 L N) (evCallI (E50 L N) 1 2000) 1000 50 23 0 f50.c0 κ rec (f50.T0 s1 s2 s3 s4 s5) (f50.H0 s1 s2 s3 s4 s5)
    = f50.s0 L N (f50.X0_e0 κ) (f50.R0 rec) s1 s2 s3 s4 s5 := by kernel_rfl
theorem f50.l0_eq {R : Type} (L N : Nat) (κ : KX R) : ∀ (n : Nat) (s1 : LI) (s2 : Int) (s3 : Int) (s4 : LLM) (s5 : LI),
    evLp (E50 L N) (evCallI (E50 L N) 1 2000) 1000 50 23 0 f50.c0 κ n (f50.T0 s1 s2 s3 s4 s5) (f50.H0 s1 s2 s3 s4 s5)
    = f50.l0 L N (f50.X0_e0 κ) n s1 s2 s3 s4 s5 := by
  intro n
  induction n with
  | zero => intros; rfl
  | succ n ih =>
    intro s1 s2 s3 s4 s5
    rw [evLp_succ, f50.s0_eq]
    delta f50.R0
    simp only [ih]
    rfl
theorem f50.p0_e0_eq {R : Type} (L N : Nat) (κ : RN.Den .row → List Int → Option R) (z6 : LI) :
    (contAt (E50 L N) (evCallI (E50 L N) 1 2000) 1000 50 23 0 (codeOf Tryz.f50) (finK (E50 L N) 1000 Tryz.f50 (finN .row none 3 i64 κ))) (.exit 0) (f50.T0_e0 z6) (f50.H0_e0 z6)
    = f50.p0_e0 L N (fun a0 => κ () a0) z6 := by kernel_rfl
theorem f50.b_eq {R : Type} (L N : Nat) (κ : RN.Den .row → List Int → Option R) (x0 : Graph) (x1 : LI) :
    evBody (E50 L N) (evCallI (E50 L N) 1 2000) 1000 50 Tryz.f50 [(.tv (.st 2) x0), (.tv (.sl i64) x1)] [] [] (finN .row none 3 i64 κ)
    = f50.b L N (fun a0 => κ () a0) x0 x1 := by
  refine Eq.trans (b := f50.b' L N (fun a0 => κ () a0) (fun s1 s2 s3 s4 s5 => evLp (E50 L N) (evCallI (E50 L N) 1 2000) 1000 50 23 0 f50.c0 (contAt (E50 L N) (evCallI (E50 L N) 1 2000) 1000 50 23 0 (codeOf Tryz.f50) (finK (E50 L N) 1000 Tryz.f50 (finN .row none 3 i64 κ))) L (f50.T0 s1 s2 s3 s4 s5) (f50.H0 s1 s2 s3 s4 s5)) x0 x1) (by kernel_rfl) ?_
  unfold f50.b
  simp only [f50.l0_eq]
  delta f50.X0_e0
  simp only [f50.p0_e0_eq]
theorem f50.ok (L N : Nat) (hΦ : TellsOk Tryz.prog ((Φ54 L N))) : EntOk Tryz.prog 50 (f50.ent L N) := by
  intro args vw site h
  unfold f50.ent
  split
  · rename_i d ha
    intro y hy hs
    refine call_ron (y := y) (dep := 1000) (E := (E50 L N)) (ts := [(.st 2), (.sl i64)]) (rn := .row) (q := none) (el := 3) (ty := i64) (d1 := ()) (xs := y) (κ := (fun d xs => some xs)) (sound_of hΦ) okP (callI_sound (sound_of hΦ) okP 1 2000) (f := Tryz.f50) rfl hs ha ?_ (fun _ _ h => by obtain rfl := Option.some.inj h; exact ⟨rfl, rfl⟩) rfl site
    exact (f50.b_eq L N (fun d xs => some xs) d.1 d.2.1).trans (Eq.trans (b := f50.b L N some d.1 d.2.1) (by kernel_rfl) hy)
  · intro y hy
    cases hy
def Φ50 (L N : Nat) : Tells := (addT (Φ54 L N) 50 (f50.ent L N))
theorem Φ50_ok (L N : Nat) : TellsOk Tryz.prog (Φ50 L N) := addT_ok (Φ54_ok L N) (f50.ok L N (Φ54_ok L N))
def f51.s0' {R : Type} (L N : Nat) (k0_e0 : ByteArray → Option R) (rec0 : ByteArray → LI → Int → Int → Option R) (s0 : ByteArray) (s1 : LI) (s2 : Int) (s3 : Int) : Option R :=
  bif (decide (s3 < s2)) then
    bif (decide (0 ≤ s3) && decide (s3 < (s1.length : Int))) then
      ((fitoa (listAt s1 (0 : Int) s3.toNat))).bind fun y5 =>
      bif (decide (y5.size + (ByteArray.mk #[32]).size ≤ 4611686018427387904)) then
        bif (decide (s0.size + (y5 ++ (ByteArray.mk #[32])).size ≤ 4611686018427387904)) then
          rec0 (s0 ++ (y5 ++ (ByteArray.mk #[32]))) s1 s2 (wi (s3 + (1 : Int)))
        else none
      else none
    else none
  else k0_e0 s0
def f51.s0 {R : Type} (L N : Nat) (k0_e0 : ByteArray → Option R) (rec0 : ByteArray → LI → Int → Int → Option R) (s0 : ByteArray) (s1 : LI) (s2 : Int) (s3 : Int) : Option R :=
  f51.s0' L N k0_e0 rec0 s0 s1 s2 s3
def f51.l0 {R : Type} (L N : Nat) (k0_e0 : ByteArray → Option R) : Nat → ByteArray → LI → Int → Int → Option R
  | 0, _, _, _, _ => none
  | n + 1, s0, s1, s2, s3 => f51.s0 L N k0_e0 (f51.l0 L N k0_e0 n) s0 s1 s2 s3
def f51.T0 (s0 : ByteArray) (s1 : LI) (s2 : Int) (s3 : Int) : T := mkT 20 [(3, (.tv .str s0)), (6, (.tv (.sl i64) s1)), (7, (.tv i64 s2)), (8, (.tv i64 s3))]
def f51.H0 (s0 : ByteArray) (s1 : LI) (s2 : Int) (s3 : Int) : H := []
def f51.T0_e0 (z4 : ByteArray) : T := mkT 20 [(3, (.tv .str z4))]
def f51.H0_e0 (z4 : ByteArray) : H := []
def f51.p0_e0' {R : Type} (L N : Nat) (k : ByteArray → Option R) (z4 : ByteArray) : Option R :=
  bif (decide (z4.size + (ByteArray.mk #[93]).size ≤ 4611686018427387904)) then
    k (z4 ++ (ByteArray.mk #[93]))
  else none
def f51.p0_e0 {R : Type} (L N : Nat) (k : ByteArray → Option R) (z4 : ByteArray) : Option R :=
  f51.p0_e0' L N k z4
def f51.b' {R : Type} (L N : Nat) (k : ByteArray → Option R) (w0 : ByteArray → LI → Int → Int → Option R) (x0 : LI) : Option R :=
  w0 (ByteArray.mk #[91]) x0 (x0.length : Int) (0 : Int)
def f51.b {R : Type} (L N : Nat) (k : ByteArray → Option R) (x0 : LI) : Option R :=
  f51.b' L N k (fun s0 s1 s2 s3 => f51.l0 L N (fun z4 => f51.p0_e0 L N k z4) L s0 s1 s2 s3) x0
def f51 (L N : Nat) (x0 : LI) : Option (ByteArray) := f51.b L N some x0
def f51.ent (L N : Nat) := entRo [(.sl i64)] (.one .str) fun d => f51 L N d.1
noncomputable def E51 (L N : Nat) : Env := { P := Tryz.prog, ty := tyOf, Φ := (Φ50 L N), inl := inlT, live := lives, liveX := livesX, L := L, dp := none, prom := promT, heal := healT, ren := renT }
noncomputable def f51.c0 : Code := loopAt 0 (codeOf Tryz.f51)
def f51.X0_e0 {R : Type} (κ : KX R) := fun z4 => κ (.exit 0) (f51.T0_e0 z4) (f51.H0_e0 z4)
def f51.R0 {R : Type} (rec : KT R) := fun s0 s1 s2 s3 => rec (f51.T0 s0 s1 s2 s3) (f51.H0 s0 s1 s2 s3)
theorem f51.s0_eq {R : Type} (L N : Nat) (κ : KX R) (rec : KT R) (s0 : ByteArray) (s1 : LI) (s2 : Int) (s3 : Int) :
    evRd (E51 L N) (evCallI (E51 L N) 1 2000) 1000 51 20 0 f51.c0 κ rec (f51.T0 s0 s1 s2 s3) (f51.H0 s0 s1 s2 s3)
    = f51.s0 L N (f51.X0_e0 κ) (f51.R0 rec) s0 s1 s2 s3 := by kernel_rfl
theorem f51.l0_eq {R : Type} (L N : Nat) (κ : KX R) : ∀ (n : Nat) (s0 : ByteArray) (s1 : LI) (s2 : Int) (s3 : Int),
    evLp (E51 L N) (evCallI (E51 L N) 1 2000) 1000 51 20 0 f51.c0 κ n (f51.T0 s0 s1 s2 s3) (f51.H0 s0 s1 s2 s3)
    = f51.l0 L N (f51.X0_e0 κ) n s0 s1 s2 s3 := by
  intro n
  induction n with
  | zero => intros; rfl
  | succ n ih =>
    intro s0 s1 s2 s3
    rw [evLp_succ, f51.s0_eq]
    delta f51.R0
    simp only [ih]
    rfl
theorem f51.p0_e0_eq {R : Type} (L N : Nat) (κ : AV → Option R) (z4 : ByteArray) :
    (contAt (E51 L N) (evCallI (E51 L N) 1 2000) 1000 51 20 0 (codeOf Tryz.f51) (finK (E51 L N) 1000 Tryz.f51 (finC (.one .str) κ))) (.exit 0) (f51.T0_e0 z4) (f51.H0_e0 z4)
    = f51.p0_e0 L N (fun a0 => κ (.tv .str a0)) z4 := by kernel_rfl
theorem f51.b_eq {R : Type} (L N : Nat) (κ : AV → Option R) (x0 : LI) :
    evBody (E51 L N) (evCallI (E51 L N) 1 2000) 1000 51 Tryz.f51 [(.tv (.sl i64) x0)] [] [] (finC (.one .str) κ)
    = f51.b L N (fun a0 => κ (.tv .str a0)) x0 := by
  refine Eq.trans (b := f51.b' L N (fun a0 => κ (.tv .str a0)) (fun s0 s1 s2 s3 => evLp (E51 L N) (evCallI (E51 L N) 1 2000) 1000 51 20 0 f51.c0 (contAt (E51 L N) (evCallI (E51 L N) 1 2000) 1000 51 20 0 (codeOf Tryz.f51) (finK (E51 L N) 1000 Tryz.f51 (finC (.one .str) κ))) L (f51.T0 s0 s1 s2 s3) (f51.H0 s0 s1 s2 s3)) x0) (by kernel_rfl) ?_
  unfold f51.b
  simp only [f51.l0_eq]
  delta f51.X0_e0
  simp only [f51.p0_e0_eq]
theorem f51.ok (L N : Nat) (hΦ : TellsOk Tryz.prog ((Φ50 L N))) : EntOk Tryz.prog 51 (f51.ent L N) := entRo_ok (E := (E51 L N)) (dep := 1000) (f := Tryz.f51) (sound_of hΦ) okP (callI_sound (sound_of hΦ) okP 1 2000) rfl rfl fun d _ hy => (f51.b_eq L N (unR (.one .str)) d.1).trans (Eq.trans (b := f51.b L N some d.1) (by kernel_rfl) hy)
def Φ51 (L N : Nat) : Tells := (addT (Φ50 L N) 51 (f51.ent L N))
theorem Φ51_ok (L N : Nat) : TellsOk Tryz.prog (Φ51 L N) := addT_ok (Φ50_ok L N) (f51.ok L N (Φ50_ok L N))
def f53.s1' {R : Type} (L N : Nat) (k1_e2 : LI → Int → Int → LLM → LI → Option R) (rec1 : LI → Int → Int → LM → Int → Int → LLM → LI → Option R) (s6 : LI) (s7 : Int) (s8 : Int) (s9 : LM) (s10 : Int) (s11 : Int) (s12 : LLM) (s13 : LI) : Option R :=
  bif (decide (s11 < s10)) then
    bif (decide (0 ≤ s11) && decide (s11 < (s9.length : Int))) then
      bif ((listAt s9 (Ty.dflt (.st 0)) s11.toNat).act != (0 : Int)) then
        bif (decide (s13.length + ([(listAt s9 (Ty.dflt (.st 0)) s11.toNat).act] : LI).length ≤ lim)) then
          rec1 s6 s7 s8 s9 s10 (wi (s11 + (1 : Int))) s12 (s13 ++ ([(listAt s9 (Ty.dflt (.st 0)) s11.toNat).act] : LI))
        else none
      else rec1 s6 s7 s8 s9 s10 (wi (s11 + (1 : Int))) s12 s13
    else none
  else k1_e2 s6 s7 s8 s12 s13
def f53.s1 {R : Type} (L N : Nat) (k1_e2 : LI → Int → Int → LLM → LI → Option R) (rec1 : LI → Int → Int → LM → Int → Int → LLM → LI → Option R) (s6 : LI) (s7 : Int) (s8 : Int) (s9 : LM) (s10 : Int) (s11 : Int) (s12 : LLM) (s13 : LI) : Option R :=
  f53.s1' L N k1_e2 rec1 s6 s7 s8 s9 s10 s11 s12 s13
def f53.l1 {R : Type} (L N : Nat) (k1_e2 : LI → Int → Int → LLM → LI → Option R) : Nat → LI → Int → Int → LM → Int → Int → LLM → LI → Option R
  | 0, _, _, _, _, _, _, _, _ => none
  | n + 1, s6, s7, s8, s9, s10, s11, s12, s13 => f53.s1 L N k1_e2 (f53.l1 L N k1_e2 n) s6 s7 s8 s9 s10 s11 s12 s13
def f53.T1 (s6 : LI) (s7 : Int) (s8 : Int) (s9 : LM) (s10 : Int) (s11 : Int) (s12 : LLM) (s13 : LI) : T := mkT 41 [(2, (.ptr 1002 0)), (5, (.row 1010)), (11, (.tv (.sl i64) s6)), (12, (.tv i64 s7)), (13, (.tv i64 s8)), (21, (.tv (.sl (.st 0)) s9)), (22, (.tv i64 s10)), (23, (.tv i64 s11))]
def f53.H1 (s6 : LI) (s7 : Int) (s8 : Int) (s9 : LM) (s10 : Int) (s11 : Int) (s12 : LLM) (s13 : LI) : H := [(1002, (.box [(.tv (.sl (.sl (.st 0))) s12)])), (1010, (.row 3 i64 s13))]
def f53.T1_e2 (z14 : LI) (z15 : Int) (z16 : Int) (z17 : LLM) (z18 : LI) : T := mkT 41 [(2, (.ptr 1002 0)), (5, (.row 1010)), (11, (.tv (.sl i64) z14)), (12, (.tv i64 z15)), (13, (.tv i64 z16))]
def f53.H1_e2 (z14 : LI) (z15 : Int) (z16 : Int) (z17 : LLM) (z18 : LI) : H := [(1002, (.box [(.tv (.sl (.sl (.st 0))) z17)])), (1010, (.row 3 i64 z18))]
def f53.p1_e2' {R : Type} (L N : Nat) (k0_e0 : LI → Option R) (rec0 : LI → Int → Int → LLM → LI → Option R) (z14 : LI) (z15 : Int) (z16 : Int) (z17 : LLM) (z18 : LI) : Option R :=
  rec0 z14 z15 (wi (z16 + (1 : Int))) z17 z18
def f53.p1_e2 {R : Type} (L N : Nat) (k0_e0 : LI → Option R) (rec0 : LI → Int → Int → LLM → LI → Option R) (z14 : LI) (z15 : Int) (z16 : Int) (z17 : LLM) (z18 : LI) : Option R :=
  f53.p1_e2' L N k0_e0 rec0 z14 z15 z16 z17 z18
def f53.s0' {R : Type} (L N : Nat) (k0_e0 : LI → Option R) (rec0 : LI → Int → Int → LLM → LI → Option R) (w1 : LI → Int → Int → LM → Int → Int → LLM → LI → Option R) (s0 : LI) (s1 : Int) (s2 : Int) (s3 : LLM) (s4 : LI) : Option R :=
  bif (decide (s2 < s1)) then
    bif (decide (0 ≤ s2) && decide (s2 < (s0.length : Int))) then
      bif (decide (0 ≤ (listAt s0 (0 : Int) s2.toNat)) && decide ((listAt s0 (0 : Int) s2.toNat) < (s3.length : Int))) then
        w1 s0 s1 s2 (listAt s3 [] (listAt s0 (0 : Int) s2.toNat).toNat) ((listAt s3 [] (listAt s0 (0 : Int) s2.toNat).toNat).length : Int) (0 : Int) s3 s4
      else none
    else none
  else k0_e0 s4
def f53.s0 {R : Type} (L N : Nat) (k0_e0 : LI → Option R) (rec0 : LI → Int → Int → LLM → LI → Option R) (s0 : LI) (s1 : Int) (s2 : Int) (s3 : LLM) (s4 : LI) : Option R :=
  f53.s0' L N k0_e0 rec0 (fun s6 s7 s8 s9 s10 s11 s12 s13 => f53.l1 L N (fun z14 z15 z16 z17 z18 => f53.p1_e2 L N k0_e0 rec0 z14 z15 z16 z17 z18) L s6 s7 s8 s9 s10 s11 s12 s13) s0 s1 s2 s3 s4
def f53.l0 {R : Type} (L N : Nat) (k0_e0 : LI → Option R) : Nat → LI → Int → Int → LLM → LI → Option R
  | 0, _, _, _, _, _ => none
  | n + 1, s0, s1, s2, s3, s4 => f53.s0 L N k0_e0 (f53.l0 L N k0_e0 n) s0 s1 s2 s3 s4
def f53.T0 (s0 : LI) (s1 : Int) (s2 : Int) (s3 : LLM) (s4 : LI) : T := mkT 41 [(2, (.ptr 1002 0)), (5, (.row 1010)), (11, (.tv (.sl i64) s0)), (12, (.tv i64 s1)), (13, (.tv i64 s2))]
def f53.H0 (s0 : LI) (s1 : Int) (s2 : Int) (s3 : LLM) (s4 : LI) : H := [(1002, (.box [(.tv (.sl (.sl (.st 0))) s3)])), (1010, (.row 3 i64 s4))]
def f53.T0_e0 (z5 : LI) : T := mkT 41 [(5, (.row 1010))]
def f53.H0_e0 (z5 : LI) : H := [(1010, (.row 3 i64 z5))]
def f53.p0_e0' {R : Type} (L N : Nat) (k : LI → Option R) (z5 : LI) : Option R :=
  ((fsort z5)).bind fun y27 =>
  ((fsort (sortI z5))).bind fun y28 =>
  k (Go.Lib.compact (sortI z5))
def f53.p0_e0 {R : Type} (L N : Nat) (k : LI → Option R) (z5 : LI) : Option R :=
  f53.p0_e0' L N k z5
def f53.b' {R : Type} (L N : Nat) (k : LI → Option R) (w0 : LI → Int → Int → LLM → LI → Option R) (x0 : Graph) (x1 : LI) : Option R :=
  w0 x1 (x1.length : Int) (0 : Int) x0.moves ([] : LI)
def f53.b {R : Type} (L N : Nat) (k : LI → Option R) (x0 : Graph) (x1 : LI) : Option R :=
  f53.b' L N k (fun s0 s1 s2 s3 s4 => f53.l0 L N (fun z5 => f53.p0_e0 L N k z5) L s0 s1 s2 s3 s4) x0 x1
def f53 (L N : Nat) (x0 : Graph) (x1 : LI) : Option (LI) := f53.b L N some x0 x1
def f53.ent (L N : Nat) := entDa [(.st 2), (.sl i64)] (.one (.sl i64)) fun d => f53 L N d.1 d.2.1
noncomputable def E53 (L N : Nat) : Env := { P := Tryz.prog, ty := tyOf, Φ := (Φ51 L N), inl := inlT, live := lives, liveX := livesX, L := L, dp := none, prom := promT, heal := healT, ren := renT }
noncomputable def f53.c0 : Code := loopAt 0 (codeOf Tryz.f53)
noncomputable def f53.c1 : Code := loopAt 2 f53.c0
def f53.X1_e2 {R : Type} (κ : KX R) := fun z14 z15 z16 z17 z18 => κ (.exit 2) (f53.T1_e2 z14 z15 z16 z17 z18) (f53.H1_e2 z14 z15 z16 z17 z18)
def f53.R1 {R : Type} (rec : KT R) := fun s6 s7 s8 s9 s10 s11 s12 s13 => rec (f53.T1 s6 s7 s8 s9 s10 s11 s12 s13) (f53.H1 s6 s7 s8 s9 s10 s11 s12 s13)
theorem f53.s1_eq {R : Type} (L N : Nat) (κ : KX R) (rec : KT R) (s6 : LI) (s7 : Int) (s8 : Int) (s9 : LM) (s10 : Int) (s11 : Int) (s12 : LLM) (s13 : LI) :
    evRd (E53 L N) (evCallI (E53 L N) 1 2000) 1000 53 41 2 f53.c1 κ rec (f53.T1 s6 s7 s8 s9 s10 s11 s12 s13) (f53.H1 s6 s7 s8 s9 s10 s11 s12 s13)
    = f53.s1 L N (f53.X1_e2 κ) (f53.R1 rec) s6 s7 s8 s9 s10 s11 s12 s13 := by kernel_rfl
theorem f53.l1_eq {R : Type} (L N : Nat) (κ : KX R) : ∀ (n : Nat) (s6 : LI) (s7 : Int) (s8 : Int) (s9 : LM) (s10 : Int) (s11 : Int) (s12 : LLM) (s13 : LI),
    evLp (E53 L N) (evCallI (E53 L N) 1 2000) 1000 53 41 2 f53.c1 κ n (f53.T1 s6 s7 s8 s9 s10 s11 s12 s13) (f53.H1 s6 s7 s8 s9 s10 s11 s12 s13)
    = f53.l1 L N (f53.X1_e2 κ) n s6 s7 s8 s9 s10 s11 s12 s13 := by
  intro n
  induction n with
  | zero => intros; rfl
  | succ n ih =>
    intro s6 s7 s8 s9 s10 s11 s12 s13
    rw [evLp_succ, f53.s1_eq]
    delta f53.R1
    simp only [ih]
    rfl
def f53.X0_e0 {R : Type} (κ : KX R) := fun z5 => κ (.exit 0) (f53.T0_e0 z5) (f53.H0_e0 z5)
def f53.R0 {R : Type} (rec : KT R) := fun s0 s1 s2 s3 s4 => rec (f53.T0 s0 s1 s2 s3 s4) (f53.H0 s0 s1 s2 s3 s4)
theorem f53.p1_e2_eq {R : Type} (L N : Nat) (κ : KX R) (rec : KT R) (z14 : LI) (z15 : Int) (z16 : Int) (z17 : LLM) (z18 : LI) :
    (contAt (E53 L N) (evCallI (E53 L N) 1 2000) 1000 53 41 2 f53.c0 (rdK (E53 L N) 1000 53 41 0 κ rec)) (.exit 2) (f53.T1_e2 z14 z15 z16 z17 z18) (f53.H1_e2 z14 z15 z16 z17 z18)
    = f53.p1_e2 L N (f53.X0_e0 κ) (f53.R0 rec) z14 z15 z16 z17 z18 := by kernel_rfl
theorem f53.s0_eq {R : Type} (L N : Nat) (κ : KX R) (rec : KT R) (s0 : LI) (s1 : Int) (s2 : Int) (s3 : LLM) (s4 : LI) :
    evRd (E53 L N) (evCallI (E53 L N) 1 2000) 1000 53 41 0 f53.c0 κ rec (f53.T0 s0 s1 s2 s3 s4) (f53.H0 s0 s1 s2 s3 s4)
    = f53.s0 L N (f53.X0_e0 κ) (f53.R0 rec) s0 s1 s2 s3 s4 := by
  refine Eq.trans (b := f53.s0' L N (f53.X0_e0 κ) (f53.R0 rec) (fun s6 s7 s8 s9 s10 s11 s12 s13 => evLp (E53 L N) (evCallI (E53 L N) 1 2000) 1000 53 41 2 f53.c1 (contAt (E53 L N) (evCallI (E53 L N) 1 2000) 1000 53 41 2 f53.c0 (rdK (E53 L N) 1000 53 41 0 κ rec)) L (f53.T1 s6 s7 s8 s9 s10 s11 s12 s13) (f53.H1 s6 s7 s8 s9 s10 s11 s12 s13)) s0 s1 s2 s3 s4) (by kernel_rfl) ?_
  unfold f53.s0
  simp only [f53.l1_eq]
  delta f53.X1_e2
  simp only [f53.p1_e2_eq]
theorem f53.l0_eq {R : Type} (L N : Nat) (κ : KX R) : ∀ (n : Nat) (s0 : LI) (s1 : Int) (s2 : Int) (s3 : LLM) (s4 : LI),
    evLp (E53 L N) (evCallI (E53 L N) 1 2000) 1000 53 41 0 f53.c0 κ n (f53.T0 s0 s1 s2 s3 s4) (f53.H0 s0 s1 s2 s3 s4)
    = f53.l0 L N (f53.X0_e0 κ) n s0 s1 s2 s3 s4 := by
  intro n
  induction n with
  | zero => intros; rfl
  | succ n ih =>
    intro s0 s1 s2 s3 s4
    rw [evLp_succ, f53.s0_eq]
    delta f53.R0
    simp only [ih]
    rfl
theorem f53.p0_e0_eq {R : Type} (L N : Nat) (κ : AV → Option R) (z5 : LI) :
    (contAt (E53 L N) (evCallI (E53 L N) 1 2000) 1000 53 41 0 (codeOf Tryz.f53) (finK (E53 L N) 1000 Tryz.f53 (finC (.one (.sl i64)) κ))) (.exit 0) (f53.T0_e0 z5) (f53.H0_e0 z5)
    = f53.p0_e0 L N (fun a0 => κ (.tv (.sl i64) a0)) z5 := by kernel_rfl
theorem f53.b_eq {R : Type} (L N : Nat) (κ : AV → Option R) (x0 : Graph) (x1 : LI) :
    evBody (E53 L N) (evCallI (E53 L N) 1 2000) 1000 53 Tryz.f53 [(.tv (.st 2) x0), (.tv (.sl i64) x1)] [] [] (finC (.one (.sl i64)) κ)
    = f53.b L N (fun a0 => κ (.tv (.sl i64) a0)) x0 x1 := by
  refine Eq.trans (b := f53.b' L N (fun a0 => κ (.tv (.sl i64) a0)) (fun s0 s1 s2 s3 s4 => evLp (E53 L N) (evCallI (E53 L N) 1 2000) 1000 53 41 0 f53.c0 (contAt (E53 L N) (evCallI (E53 L N) 1 2000) 1000 53 41 0 (codeOf Tryz.f53) (finK (E53 L N) 1000 Tryz.f53 (finC (.one (.sl i64)) κ))) L (f53.T0 s0 s1 s2 s3 s4) (f53.H0 s0 s1 s2 s3 s4)) x0 x1) (by kernel_rfl) ?_
  unfold f53.b
  simp only [f53.l0_eq]
  delta f53.X0_e0
  simp only [f53.p0_e0_eq]
theorem f53.ok (L N : Nat) (hΦ : TellsOk Tryz.prog ((Φ51 L N))) : EntOk Tryz.prog 53 (f53.ent L N) := entDa_ok (E := (E53 L N)) (dep := 1000) (f := Tryz.f53) (sound_of hΦ) okP (callI_sound (sound_of hΦ) okP 1 2000) rfl fun d _ hy => (f53.b_eq L N (unR (.one (.sl i64))) d.1 d.2.1).trans (Eq.trans (b := f53.b L N some d.1 d.2.1) (by kernel_rfl) hy)
def Φ53 (L N : Nat) : Tells := (addT (Φ51 L N) 53 (f53.ent L N))
theorem Φ53_ok (L N : Nat) : TellsOk Tryz.prog (Φ53 L N) := addT_ok (Φ51_ok L N) (f53.ok L N (Φ51_ok L N))
def f52_1.s0' {R : Type} (L N : Nat) (k0_e0 : LI → LLI → Option R) (rec0 : LI → LLM → LI → LI → Int → Int → LLI → Option R) (s1 : LI) (s2 : LLM) (s3 : LI) (s4 : LI) (s5 : Int) (s6 : Int) (s7 : LLI) : Option R :=
  bif (decide (s6 < s5)) then
    bif (decide (0 ≤ s6) && decide (s6 < (s4.length : Int))) then
      (f54 L N (Graph.mk s2) s1 (listAt s4 (0 : Int) s6.toNat)).bind fun y10 =>
      bif (decide (s7.length + ([y10] : LLI).length ≤ lim)) then
        rec0 s1 s2 s3 s4 s5 (wi (s6 + (1 : Int))) (s7 ++ ([y10] : LLI))
      else none
    else none
  else k0_e0 s3 s7
def f52_1.s0 {R : Type} (L N : Nat) (k0_e0 : LI → LLI → Option R) (rec0 : LI → LLM → LI → LI → Int → Int → LLI → Option R) (s1 : LI) (s2 : LLM) (s3 : LI) (s4 : LI) (s5 : Int) (s6 : Int) (s7 : LLI) : Option R :=
  f52_1.s0' L N k0_e0 rec0 s1 s2 s3 s4 s5 s6 s7
def f52_1.l0 {R : Type} (L N : Nat) (k0_e0 : LI → LLI → Option R) : Nat → LI → LLM → LI → LI → Int → Int → LLI → Option R
  | 0, _, _, _, _, _, _, _ => none
  | n + 1, s1, s2, s3, s4, s5, s6, s7 => f52_1.s0 L N k0_e0 (f52_1.l0 L N k0_e0 n) s1 s2 s3 s4 s5 s6 s7
def f52_1.T0 (s1 : LI) (s2 : LLM) (s3 : LI) (s4 : LI) (s5 : Int) (s6 : Int) (s7 : LLI) : T := mkT 30 [(0, (.tv (.sl i64) s1)), (1, (.imp (.sl (.sl (.st 0))) s2 0)), (6, (.tv (.sl i64) s3)), (7, (.row 1013)), (14, (.tv (.sl i64) s4)), (15, (.tv i64 s5)), (16, (.tv i64 s6))]
def f52_1.H0 (s1 : LI) (s2 : LLM) (s3 : LI) (s4 : LI) (s5 : Int) (s6 : Int) (s7 : LLI) : H := [(1013, (.row 22 (.sl i64) s7))]
def f52_1.T0_e0 (z8 : LI) (z9 : LLI) : T := mkT 30 [(6, (.tv (.sl i64) z8)), (7, (.row 1013))]
def f52_1.H0_e0 (z8 : LI) (z9 : LLI) : H := [(1013, (.row 22 (.sl i64) z9))]
def f52_1.p0_e0' {R : Type} (L N : Nat) (k : LI → LLI → Bool → Option R) (z8 : LI) (z9 : LLI) : Option R :=
  k z8 z9 true
def f52_1.p0_e0 {R : Type} (L N : Nat) (k : LI → LLI → Bool → Option R) (z8 : LI) (z9 : LLI) : Option R :=
  f52_1.p0_e0' L N k z8 z9
def f52_1.b' {R : Type} (L N : Nat) (k : LI → LLI → Bool → Option R) (w0 : LI → LLM → LI → LI → Int → Int → LLI → Option R) (x0 : LI) (x1 : LLM) : Option R :=
  (f53 L N (Graph.mk x1) x0).bind fun y0 =>
  w0 x0 x1 y0 y0 (y0.length : Int) (0 : Int) ([] : LLI)
def f52_1.b {R : Type} (L N : Nat) (k : LI → LLI → Bool → Option R) (x0 : LI) (x1 : LLM) : Option R :=
  f52_1.b' L N k (fun s1 s2 s3 s4 s5 s6 s7 => f52_1.l0 L N (fun z8 z9 => f52_1.p0_e0 L N k z8 z9) L s1 s2 s3 s4 s5 s6 s7) x0 x1
def f52_1 (L N : Nat) (x0 : LI) (x1 : LLM) : Option (LI × LLI × Bool) := f52_1.b L N (fun a0 a1 a2 => some (a0, a1, a2)) x0 x1
def f52_1.ent (L N : Nat) := entDf [(.dat (.sl i64)), (.imp (.sl (.sl (.st 0))) 0)] (.many [(.sl i64), (.sl (.sl i64)), .bool]) fun d => f52_1 L N d.1 d.2.1
noncomputable def E52_1 (L N : Nat) : Env := { P := Tryz.prog, ty := tyOf, Φ := (Φ53 L N), inl := inlT, live := lives, liveX := livesX, L := L, dp := none, prom := promT, heal := healT, ren := renT }
noncomputable def f52_1.c0 : Code := loopAt 0 (codeOf Tryz.f52)
def f52_1.X0_e0 {R : Type} (κ : KX R) := fun z8 z9 => κ (.exit 0) (f52_1.T0_e0 z8 z9) (f52_1.H0_e0 z8 z9)
def f52_1.R0 {R : Type} (rec : KT R) := fun s1 s2 s3 s4 s5 s6 s7 => rec (f52_1.T0 s1 s2 s3 s4 s5 s6 s7) (f52_1.H0 s1 s2 s3 s4 s5 s6 s7)
theorem f52_1.s0_eq {R : Type} (L N : Nat) (κ : KX R) (rec : KT R) (s1 : LI) (s2 : LLM) (s3 : LI) (s4 : LI) (s5 : Int) (s6 : Int) (s7 : LLI) :
    evRd (E52_1 L N) (evCallI (E52_1 L N) 1 2000) 1000 52 30 0 f52_1.c0 κ rec (f52_1.T0 s1 s2 s3 s4 s5 s6 s7) (f52_1.H0 s1 s2 s3 s4 s5 s6 s7)
    = f52_1.s0 L N (f52_1.X0_e0 κ) (f52_1.R0 rec) s1 s2 s3 s4 s5 s6 s7 := by kernel_rfl
theorem f52_1.l0_eq {R : Type} (L N : Nat) (κ : KX R) : ∀ (n : Nat) (s1 : LI) (s2 : LLM) (s3 : LI) (s4 : LI) (s5 : Int) (s6 : Int) (s7 : LLI),
    evLp (E52_1 L N) (evCallI (E52_1 L N) 1 2000) 1000 52 30 0 f52_1.c0 κ n (f52_1.T0 s1 s2 s3 s4 s5 s6 s7) (f52_1.H0 s1 s2 s3 s4 s5 s6 s7)
    = f52_1.l0 L N (f52_1.X0_e0 κ) n s1 s2 s3 s4 s5 s6 s7 := by
  intro n
  induction n with
  | zero => intros; rfl
  | succ n ih =>
    intro s1 s2 s3 s4 s5 s6 s7
    rw [evLp_succ, f52_1.s0_eq]
    delta f52_1.R0
    simp only [ih]
    rfl
theorem f52_1.p0_e0_eq {R : Type} (L N : Nat) (κ : AV → Option R) (z8 : LI) (z9 : LLI) :
    (contAt (E52_1 L N) (evCallI (E52_1 L N) 1 2000) 1000 52 30 0 (codeOf Tryz.f52) (finK (E52_1 L N) 1000 Tryz.f52 (finC (.many [(.sl i64), (.sl (.sl i64)), .bool]) κ))) (.exit 0) (f52_1.T0_e0 z8 z9) (f52_1.H0_e0 z8 z9)
    = f52_1.p0_e0 L N (fun a0 a1 a2 => κ (.tup [(.tv (.sl i64) a0), (.tv (.sl (.sl i64)) a1), (.tv .bool a2)])) z8 z9 := by kernel_rfl
theorem f52_1.b_eq {R : Type} (L N : Nat) (κ : AV → Option R) (x0 : LI) (x1 : LLM) :
    evBody (E52_1 L N) (evCallI (E52_1 L N) 1 2000) 1000 52 Tryz.f52 [(.tv (.sl i64) x0), (.imp (.sl (.sl (.st 0))) x1 0)] [] [] (finC (.many [(.sl i64), (.sl (.sl i64)), .bool]) κ)
    = f52_1.b L N (fun a0 a1 a2 => κ (.tup [(.tv (.sl i64) a0), (.tv (.sl (.sl i64)) a1), (.tv .bool a2)])) x0 x1 := by
  refine Eq.trans (b := f52_1.b' L N (fun a0 a1 a2 => κ (.tup [(.tv (.sl i64) a0), (.tv (.sl (.sl i64)) a1), (.tv .bool a2)])) (fun s1 s2 s3 s4 s5 s6 s7 => evLp (E52_1 L N) (evCallI (E52_1 L N) 1 2000) 1000 52 30 0 f52_1.c0 (contAt (E52_1 L N) (evCallI (E52_1 L N) 1 2000) 1000 52 30 0 (codeOf Tryz.f52) (finK (E52_1 L N) 1000 Tryz.f52 (finC (.many [(.sl i64), (.sl (.sl i64)), .bool]) κ))) L (f52_1.T0 s1 s2 s3 s4 s5 s6 s7) (f52_1.H0 s1 s2 s3 s4 s5 s6 s7)) x0 x1) (by kernel_rfl) ?_
  unfold f52_1.b
  simp only [f52_1.l0_eq]
  delta f52_1.X0_e0
  simp only [f52_1.p0_e0_eq]
theorem f52_1.ok (L N : Nat) (hΦ : TellsOk Tryz.prog ((Φ53 L N))) : EntOkO Tryz.prog 52 (f52_1.ent L N) := entDf_ok (E := (E52_1 L N)) (dep := 1000) (f := Tryz.f52) (sound_of hΦ) okP (callI_sound (sound_of hΦ) okP 1 2000) rfl fun d _ hy => (f52_1.b_eq L N (unR (.many [(.sl i64), (.sl (.sl i64)), .bool])) d.1 d.2.1).trans (Eq.trans (b := f52_1.b L N (fun a0 a1 a2 => some (a0, a1, a2)) d.1 d.2.1) (by kernel_rfl) hy)
def Φ52_1 (L N : Nat) : Tells := (addO (Φ53 L N) 52 (f52_1.ent L N))
theorem Φ52_1_ok (L N : Nat) : TellsOk Tryz.prog (Φ52_1 L N) := addO_ok (Φ53_ok L N) (f52_1.ok L N (Φ53_ok L N))
def f49_1.j0' {R : Type} (L N : Nat) (k1_e2 : LLM → Int → LLI → (List (ByteArray × Int)) → LM → LLM → LLM → Option R) (k1_r : LLM → Bool → Int → LLI → (List (ByteArray × Int)) → LM → LLM → LLM → Option R) (rec1 : LLM → Int → LI → LLI → Int → Int → LLI → (List (ByteArray × Int)) → LM → LLM → LLM → Option R) (v40 : LLM) (v41 : Int) (v42 : LI) (v43 : Int) (v44 : Int) (v45 : LLI) (v46 : Int) (v47 : Int) (v48 : LLI) (v49 : (List (ByteArray × Int))) (v50 : LM) (v51 : LLM) (v52 : LLM) : Option R :=
  bif (decide (0 ≤ v43) && decide (v43 < (v42.length : Int))) then
    bif (decide (v50.length + ([(Move.mk (listAt v42 (0 : Int) v43.toNat) v44)] : LM).length ≤ lim)) then
      rec1 v40 v41 v42 v45 v46 (wi (v47 + (1 : Int))) v48 v49 (v50 ++ ([(Move.mk (listAt v42 (0 : Int) v43.toNat) v44)] : LM)) v51 v52
    else none
  else none
def f49_1.s1' {R : Type} (L N : Nat) (k1_e2 : LLM → Int → LLI → (List (ByteArray × Int)) → LM → LLM → LLM → Option R) (k1_r : LLM → Bool → Int → LLI → (List (ByteArray × Int)) → LM → LLM → LLM → Option R) (rec1 : LLM → Int → LI → LLI → Int → Int → LLI → (List (ByteArray × Int)) → LM → LLM → LLM → Option R) (s13 : LLM) (s14 : Int) (s15 : LI) (s16 : LLI) (s17 : Int) (s18 : Int) (s19 : LLI) (s20 : (List (ByteArray × Int))) (s21 : LM) (s22 : LLM) (s23 : LLM) : Option R :=
  bif (decide (s18 < s17)) then
    bif (decide (0 ≤ s18) && decide (s18 < (s16.length : Int))) then
      (f51 L N (listAt s16 [] s18.toNat)).bind fun y31 =>
      bif (!(Option.isSome (mapFind .str i64 y31 s20))) then
        bif ((s19.length : Int) == (60 : Int)) then
          k1_r s13 false s14 s19 s20 s21 s22 s23
        else bif (decide (s19.length + ([(listAt s16 [] s18.toNat)] : LLI).length ≤ lim)) then
          f49_1.j0' L N k1_e2 k1_r rec1 s13 s14 s15 s18 (s19.length : Int) s16 s17 s18 (s19 ++ ([(listAt s16 [] s18.toNat)] : LLI)) (mapPut .str i64 y31 (s19.length : Int) s20) s21 s22 s23
        else none
      else f49_1.j0' L N k1_e2 k1_r rec1 s13 s14 s15 s18 ((mapFind .str i64 y31 s20).getD (Ty.dflt i64)) s16 s17 s18 s19 s20 s21 s22 s23
    else none
  else k1_e2 s13 s14 s19 s20 s21 s22 s23
def f49_1.s1 {R : Type} (L N : Nat) (k1_e2 : LLM → Int → LLI → (List (ByteArray × Int)) → LM → LLM → LLM → Option R) (k1_r : LLM → Bool → Int → LLI → (List (ByteArray × Int)) → LM → LLM → LLM → Option R) (rec1 : LLM → Int → LI → LLI → Int → Int → LLI → (List (ByteArray × Int)) → LM → LLM → LLM → Option R) (s13 : LLM) (s14 : Int) (s15 : LI) (s16 : LLI) (s17 : Int) (s18 : Int) (s19 : LLI) (s20 : (List (ByteArray × Int))) (s21 : LM) (s22 : LLM) (s23 : LLM) : Option R :=
  f49_1.s1' L N k1_e2 k1_r rec1 s13 s14 s15 s16 s17 s18 s19 s20 s21 s22 s23
def f49_1.l1 {R : Type} (L N : Nat) (k1_e2 : LLM → Int → LLI → (List (ByteArray × Int)) → LM → LLM → LLM → Option R) (k1_r : LLM → Bool → Int → LLI → (List (ByteArray × Int)) → LM → LLM → LLM → Option R) : Nat → LLM → Int → LI → LLI → Int → Int → LLI → (List (ByteArray × Int)) → LM → LLM → LLM → Option R
  | 0, _, _, _, _, _, _, _, _, _, _, _ => none
  | n + 1, s13, s14, s15, s16, s17, s18, s19, s20, s21, s22, s23 => f49_1.s1 L N k1_e2 k1_r (f49_1.l1 L N k1_e2 k1_r n) s13 s14 s15 s16 s17 s18 s19 s20 s21 s22 s23
def f49_1.T1 (s13 : LLM) (s14 : Int) (s15 : LI) (s16 : LLI) (s17 : Int) (s18 : Int) (s19 : LLI) (s20 : (List (ByteArray × Int))) (s21 : LM) (s22 : LLM) (s23 : LLM) : T := mkT 97 [(1, (.fn 51 [])), (2, (.fn 52 [(.imp (.sl (.sl (.st 0))) s13 0)])), (6, (.ptr 1006 0)), (8, (.row 1022)), (9, (.mp 1023)), (10, (.ptr 1010 0)), (11, (.tv i64 s14)), (12, (.tv (.sl i64) s15)), (15, (.row 1048)), (49, (.tv (.sl (.sl i64)) s16)), (50, (.tv i64 s17)), (51, (.tv i64 s18))]
def f49_1.H1 (s13 : LLM) (s14 : Int) (s15 : LI) (s16 : LLI) (s17 : Int) (s18 : Int) (s19 : LLI) (s20 : (List (ByteArray × Int))) (s21 : LM) (s22 : LLM) (s23 : LLM) : H := [(1006, (.box [(.row 1900)])), (1010, (.box [(.row 1901)])), (1022, (.row 22 (.sl i64) s19)), (1023, (.map .str i64 s20)), (1048, (.row 48 (.st 0) s21)), (1900, (.deep 0 (.sl (.st 0)) s22 none)), (1901, (.deep 0 (.sl (.st 0)) s23 none))]
def f49_1.T1_e2 (z24 : LLM) (z25 : Int) (z26 : LLI) (z27 : (List (ByteArray × Int))) (z28 : LM) (z29 : LLM) (z30 : LLM) : T := mkT 97 [(1, (.fn 51 [])), (2, (.fn 52 [(.imp (.sl (.sl (.st 0))) z24 0)])), (6, (.ptr 1006 0)), (8, (.row 1022)), (9, (.mp 1023)), (10, (.ptr 1010 0)), (11, (.tv i64 z25)), (15, (.row 1048))]
def f49_1.H1_e2 (z24 : LLM) (z25 : Int) (z26 : LLI) (z27 : (List (ByteArray × Int))) (z28 : LM) (z29 : LLM) (z30 : LLM) : H := [(1006, (.box [(.row 1900)])), (1010, (.box [(.row 1901)])), (1022, (.row 22 (.sl i64) z26)), (1023, (.map .str i64 z27)), (1048, (.row 48 (.st 0) z28)), (1900, (.deep 0 (.sl (.st 0)) z29 none)), (1901, (.deep 0 (.sl (.st 0)) z30 none))]
def f49_1.T1_r (z32 : LLM) (z33 : Bool) (z34 : Int) (z35 : LLI) (z36 : (List (ByteArray × Int))) (z37 : LM) (z38 : LLM) (z39 : LLM) : T := mkT 97 [(1, (.fn 51 [])), (2, (.fn 52 [(.imp (.sl (.sl (.st 0))) z32 0)])), (6, (.ptr 1006 0)), (7, (.tv .bool z33)), (8, (.row 1022)), (9, (.mp 1023)), (10, (.ptr 1010 0)), (11, (.tv i64 z34)), (15, (.row 1048))]
def f49_1.H1_r (z32 : LLM) (z33 : Bool) (z34 : Int) (z35 : LLI) (z36 : (List (ByteArray × Int))) (z37 : LM) (z38 : LLM) (z39 : LLM) : H := [(1006, (.box [.nil])), (1010, (.box [(.row 1901)])), (1022, (.row 22 (.sl i64) z35)), (1023, (.map .str i64 z36)), (1048, (.row 48 (.st 0) z37)), (1900, (.deep 0 (.sl (.st 0)) z38 none)), (1901, (.deep 0 (.sl (.st 0)) z39 none))]
def f49_1.p1_e2' {R : Type} (L N : Nat) (k0_e0 : LLM → LLM → Option R) (k0_r : Bool → LLM → LLM → Option R) (rec0 : LLM → Int → LLI → (List (ByteArray × Int)) → LLM → LLM → Option R) (z24 : LLM) (z25 : Int) (z26 : LLI) (z27 : (List (ByteArray × Int))) (z28 : LM) (z29 : LLM) (z30 : LLM) : Option R :=
  ((fsortM z28)).bind fun y53 =>
  bif (decide (z30.length + ([(tidyM z28)] : LLM).length ≤ lim)) then
    rec0 z24 (wi (z25 + (1 : Int))) z26 z27 z29 (z30 ++ ([(tidyM z28)] : LLM))
  else none
def f49_1.p1_e2 {R : Type} (L N : Nat) (k0_e0 : LLM → LLM → Option R) (k0_r : Bool → LLM → LLM → Option R) (rec0 : LLM → Int → LLI → (List (ByteArray × Int)) → LLM → LLM → Option R) (z24 : LLM) (z25 : Int) (z26 : LLI) (z27 : (List (ByteArray × Int))) (z28 : LM) (z29 : LLM) (z30 : LLM) : Option R :=
  f49_1.p1_e2' L N k0_e0 k0_r rec0 z24 z25 z26 z27 z28 z29 z30
def f49_1.p1_r' {R : Type} (L N : Nat) (k0_e0 : LLM → LLM → Option R) (k0_r : Bool → LLM → LLM → Option R) (rec0 : LLM → Int → LLI → (List (ByteArray × Int)) → LLM → LLM → Option R) (z32 : LLM) (z33 : Bool) (z34 : Int) (z35 : LLI) (z36 : (List (ByteArray × Int))) (z37 : LM) (z38 : LLM) (z39 : LLM) : Option R :=
  k0_r z33 z38 z39
def f49_1.p1_r {R : Type} (L N : Nat) (k0_e0 : LLM → LLM → Option R) (k0_r : Bool → LLM → LLM → Option R) (rec0 : LLM → Int → LLI → (List (ByteArray × Int)) → LLM → LLM → Option R) (z32 : LLM) (z33 : Bool) (z34 : Int) (z35 : LLI) (z36 : (List (ByteArray × Int))) (z37 : LM) (z38 : LLM) (z39 : LLM) : Option R :=
  f49_1.p1_r' L N k0_e0 k0_r rec0 z32 z33 z34 z35 z36 z37 z38 z39
def f49_1.s0' {R : Type} (L N : Nat) (k0_e0 : LLM → LLM → Option R) (k0_r : Bool → LLM → LLM → Option R) (rec0 : LLM → Int → LLI → (List (ByteArray × Int)) → LLM → LLM → Option R) (w1 : LLM → Int → LI → LLI → Int → Int → LLI → (List (ByteArray × Int)) → LM → LLM → LLM → Option R) (s1 : LLM) (s2 : Int) (s3 : LLI) (s4 : (List (ByteArray × Int))) (s5 : LLM) (s6 : LLM) : Option R :=
  bif (decide (s2 < (s3.length : Int))) then
    bif (decide (0 ≤ s2) && decide (s2 < (s3.length : Int))) then
      (f52_1 L N (listAt s3 [] s2.toNat) s1).bind fun y9 =>
      bif (!y9.2.2) then
        k0_r false s5 s6
      else w1 s1 s2 y9.1 y9.2.1 (y9.2.1.length : Int) (0 : Int) s3 s4 ([] : LM) s5 s6
    else none
  else k0_e0 s5 s6
def f49_1.s0 {R : Type} (L N : Nat) (k0_e0 : LLM → LLM → Option R) (k0_r : Bool → LLM → LLM → Option R) (rec0 : LLM → Int → LLI → (List (ByteArray × Int)) → LLM → LLM → Option R) (s1 : LLM) (s2 : Int) (s3 : LLI) (s4 : (List (ByteArray × Int))) (s5 : LLM) (s6 : LLM) : Option R :=
  f49_1.s0' L N k0_e0 k0_r rec0 (fun s13 s14 s15 s16 s17 s18 s19 s20 s21 s22 s23 => f49_1.l1 L N (fun z24 z25 z26 z27 z28 z29 z30 => f49_1.p1_e2 L N k0_e0 k0_r rec0 z24 z25 z26 z27 z28 z29 z30) (fun z32 z33 z34 z35 z36 z37 z38 z39 => f49_1.p1_r L N k0_e0 k0_r rec0 z32 z33 z34 z35 z36 z37 z38 z39) L s13 s14 s15 s16 s17 s18 s19 s20 s21 s22 s23) s1 s2 s3 s4 s5 s6
def f49_1.l0 {R : Type} (L N : Nat) (k0_e0 : LLM → LLM → Option R) (k0_r : Bool → LLM → LLM → Option R) : Nat → LLM → Int → LLI → (List (ByteArray × Int)) → LLM → LLM → Option R
  | 0, _, _, _, _, _, _ => none
  | n + 1, s1, s2, s3, s4, s5, s6 => f49_1.s0 L N k0_e0 k0_r (f49_1.l0 L N k0_e0 k0_r n) s1 s2 s3 s4 s5 s6
def f49_1.T0 (s1 : LLM) (s2 : Int) (s3 : LLI) (s4 : (List (ByteArray × Int))) (s5 : LLM) (s6 : LLM) : T := mkT 97 [(1, (.fn 51 [])), (2, (.fn 52 [(.imp (.sl (.sl (.st 0))) s1 0)])), (6, (.ptr 1006 0)), (8, (.row 1022)), (9, (.mp 1023)), (10, (.ptr 1010 0)), (11, (.tv i64 s2))]
def f49_1.H0 (s1 : LLM) (s2 : Int) (s3 : LLI) (s4 : (List (ByteArray × Int))) (s5 : LLM) (s6 : LLM) : H := [(1006, (.box [(.row 1900)])), (1010, (.box [(.row 1901)])), (1022, (.row 22 (.sl i64) s3)), (1023, (.map .str i64 s4)), (1900, (.deep 0 (.sl (.st 0)) s5 none)), (1901, (.deep 0 (.sl (.st 0)) s6 none))]
def f49_1.T0_e0 (z7 : LLM) (z8 : LLM) : T := mkT 97 [(6, (.ptr 1006 0)), (10, (.ptr 1010 0))]
def f49_1.H0_e0 (z7 : LLM) (z8 : LLM) : H := [(1006, (.box [(.row 1900)])), (1010, (.box [(.row 1901)])), (1900, (.deep 0 (.sl (.st 0)) z7 none)), (1901, (.deep 0 (.sl (.st 0)) z8 none))]
def f49_1.T0_r (z10 : Bool) (z11 : LLM) (z12 : LLM) : T := mkT 97 [(6, (.ptr 1006 0)), (7, (.tv .bool z10)), (10, (.ptr 1010 0))]
def f49_1.H0_r (z10 : Bool) (z11 : LLM) (z12 : LLM) : H := [(1006, (.box [.nil])), (1010, (.box [(.row 1901)])), (1900, (.deep 0 (.sl (.st 0)) z11 none)), (1901, (.deep 0 (.sl (.st 0)) z12 none))]
def f49_1.p0_e0' {R : Type} (L N : Nat) (k : LLM → Bool → Option R) (z7 : LLM) (z8 : LLM) : Option R :=
  k z8 true
def f49_1.p0_e0 {R : Type} (L N : Nat) (k : LLM → Bool → Option R) (z7 : LLM) (z8 : LLM) : Option R :=
  f49_1.p0_e0' L N k z7 z8
def f49_1.p0_r' {R : Type} (L N : Nat) (k : LLM → Bool → Option R) (z10 : Bool) (z11 : LLM) (z12 : LLM) : Option R :=
  k [] z10
def f49_1.p0_r {R : Type} (L N : Nat) (k : LLM → Bool → Option R) (z10 : Bool) (z11 : LLM) (z12 : LLM) : Option R :=
  f49_1.p0_r' L N k z10 z11 z12
def f49_1.b' {R : Type} (L N : Nat) (k : LLM → Bool → Option R) (w0 : LLM → Int → LLI → (List (ByteArray × Int)) → LLM → LLM → Option R) (x0 : LI) (x1 : LLM) : Option R :=
  (f51 L N x0).bind fun y0 =>
  w0 x1 (0 : Int) ([x0] : LLI) (mapPut .str i64 y0 (0 : Int) ([] : (List (ByteArray × Int)))) ([] : LLM) ([] : LLM)
def f49_1.b {R : Type} (L N : Nat) (k : LLM → Bool → Option R) (x0 : LI) (x1 : LLM) : Option R :=
  f49_1.b' L N k (fun s1 s2 s3 s4 s5 s6 => f49_1.l0 L N (fun z7 z8 => f49_1.p0_e0 L N k z7 z8) (fun z10 z11 z12 => f49_1.p0_r L N k z10 z11 z12) L s1 s2 s3 s4 s5 s6) x0 x1
def f49_1 (L N : Nat) (x0 : LI) (x1 : LLM) : Option (LLM × Bool) := f49_1.b L N (fun a0 a1 => some (a0, a1)) x0 x1
def f49_1.ent (L N : Nat) (args : List AV) (vw : View) (site : Nat) : Option Ans := match shD [(.dat (.sl i64)), (.fn 51 []), (.fn 52 [(.imp (.sl (.sl (.st 0))) 0)])] vw args with
  | some d => some ⟨LLM × Bool, f49_1 L N d.1 d.2.2.1.1, fun y => (RN.av site (.tup (.agg []) [.bool]) ((()), (y.2, ())), [(site, some (mkO (some 0) 46 (.sl (.st 0)) y.1))], [])⟩
  | none => none
noncomputable def E49_1 (L N : Nat) : Env := { P := Tryz.prog, ty := tyOf, Φ := (Φ52_1 L N), inl := inlT, live := lives, liveX := livesX, L := L, dp := (some 100), prom := promT, heal := healT, ren := renT }
noncomputable def f49_1.c0 : Code := loopAt 0 (codeOf Tryz.f49)
noncomputable def f49_1.c1 : Code := loopAt 2 f49_1.c0
def f49_1.X1_e2 {R : Type} (κ : KX R) := fun z24 z25 z26 z27 z28 z29 z30 => κ (.exit 2) (f49_1.T1_e2 z24 z25 z26 z27 z28 z29 z30) (f49_1.H1_e2 z24 z25 z26 z27 z28 z29 z30)
def f49_1.X1_r {R : Type} (κ : KX R) := fun z32 z33 z34 z35 z36 z37 z38 z39 => κ .ret (f49_1.T1_r z32 z33 z34 z35 z36 z37 z38 z39) (f49_1.H1_r z32 z33 z34 z35 z36 z37 z38 z39)
def f49_1.R1 {R : Type} (rec : KT R) := fun s13 s14 s15 s16 s17 s18 s19 s20 s21 s22 s23 => rec (f49_1.T1 s13 s14 s15 s16 s17 s18 s19 s20 s21 s22 s23) (f49_1.H1 s13 s14 s15 s16 s17 s18 s19 s20 s21 s22 s23)
theorem f49_1.s1_eq {R : Type} (L N : Nat) (κ : KX R) (rec : KT R) (s13 : LLM) (s14 : Int) (s15 : LI) (s16 : LLI) (s17 : Int) (s18 : Int) (s19 : LLI) (s20 : (List (ByteArray × Int))) (s21 : LM) (s22 : LLM) (s23 : LLM) :
    evRd (E49_1 L N) (evCallI (E49_1 L N) 1 2000) 1000 49 97 2 f49_1.c1 κ rec (f49_1.T1 s13 s14 s15 s16 s17 s18 s19 s20 s21 s22 s23) (f49_1.H1 s13 s14 s15 s16 s17 s18 s19 s20 s21 s22 s23)
    = f49_1.s1 L N (f49_1.X1_e2 κ) (f49_1.X1_r κ) (f49_1.R1 rec) s13 s14 s15 s16 s17 s18 s19 s20 s21 s22 s23 := by kernel_rfl
theorem f49_1.l1_eq {R : Type} (L N : Nat) (κ : KX R) : ∀ (n : Nat) (s13 : LLM) (s14 : Int) (s15 : LI) (s16 : LLI) (s17 : Int) (s18 : Int) (s19 : LLI) (s20 : (List (ByteArray × Int))) (s21 : LM) (s22 : LLM) (s23 : LLM),
    evLp (E49_1 L N) (evCallI (E49_1 L N) 1 2000) 1000 49 97 2 f49_1.c1 κ n (f49_1.T1 s13 s14 s15 s16 s17 s18 s19 s20 s21 s22 s23) (f49_1.H1 s13 s14 s15 s16 s17 s18 s19 s20 s21 s22 s23)
    = f49_1.l1 L N (f49_1.X1_e2 κ) (f49_1.X1_r κ) n s13 s14 s15 s16 s17 s18 s19 s20 s21 s22 s23 := by
  intro n
  induction n with
  | zero => intros; rfl
  | succ n ih =>
    intro s13 s14 s15 s16 s17 s18 s19 s20 s21 s22 s23
    rw [evLp_succ, f49_1.s1_eq]
    delta f49_1.R1
    simp only [ih]
    rfl
def f49_1.X0_e0 {R : Type} (κ : KX R) := fun z7 z8 => κ (.exit 0) (f49_1.T0_e0 z7 z8) (f49_1.H0_e0 z7 z8)
def f49_1.X0_r {R : Type} (κ : KX R) := fun z10 z11 z12 => κ .ret (f49_1.T0_r z10 z11 z12) (f49_1.H0_r z10 z11 z12)
def f49_1.R0 {R : Type} (rec : KT R) := fun s1 s2 s3 s4 s5 s6 => rec (f49_1.T0 s1 s2 s3 s4 s5 s6) (f49_1.H0 s1 s2 s3 s4 s5 s6)
theorem f49_1.p1_e2_eq {R : Type} (L N : Nat) (κ : KX R) (rec : KT R) (z24 : LLM) (z25 : Int) (z26 : LLI) (z27 : (List (ByteArray × Int))) (z28 : LM) (z29 : LLM) (z30 : LLM) :
    (contAt (E49_1 L N) (evCallI (E49_1 L N) 1 2000) 1000 49 97 2 f49_1.c0 (rdK (E49_1 L N) 1000 49 97 0 κ rec)) (.exit 2) (f49_1.T1_e2 z24 z25 z26 z27 z28 z29 z30) (f49_1.H1_e2 z24 z25 z26 z27 z28 z29 z30)
    = f49_1.p1_e2 L N (f49_1.X0_e0 κ) (f49_1.X0_r κ) (f49_1.R0 rec) z24 z25 z26 z27 z28 z29 z30 := by kernel_rfl
theorem f49_1.p1_r_eq {R : Type} (L N : Nat) (κ : KX R) (rec : KT R) (z32 : LLM) (z33 : Bool) (z34 : Int) (z35 : LLI) (z36 : (List (ByteArray × Int))) (z37 : LM) (z38 : LLM) (z39 : LLM) :
    (contAt (E49_1 L N) (evCallI (E49_1 L N) 1 2000) 1000 49 97 2 f49_1.c0 (rdK (E49_1 L N) 1000 49 97 0 κ rec)) .ret (f49_1.T1_r z32 z33 z34 z35 z36 z37 z38 z39) (f49_1.H1_r z32 z33 z34 z35 z36 z37 z38 z39)
    = f49_1.p1_r L N (f49_1.X0_e0 κ) (f49_1.X0_r κ) (f49_1.R0 rec) z32 z33 z34 z35 z36 z37 z38 z39 := by kernel_rfl
theorem f49_1.s0_eq {R : Type} (L N : Nat) (κ : KX R) (rec : KT R) (s1 : LLM) (s2 : Int) (s3 : LLI) (s4 : (List (ByteArray × Int))) (s5 : LLM) (s6 : LLM) :
    evRd (E49_1 L N) (evCallI (E49_1 L N) 1 2000) 1000 49 97 0 f49_1.c0 κ rec (f49_1.T0 s1 s2 s3 s4 s5 s6) (f49_1.H0 s1 s2 s3 s4 s5 s6)
    = f49_1.s0 L N (f49_1.X0_e0 κ) (f49_1.X0_r κ) (f49_1.R0 rec) s1 s2 s3 s4 s5 s6 := by
  refine Eq.trans (b := f49_1.s0' L N (f49_1.X0_e0 κ) (f49_1.X0_r κ) (f49_1.R0 rec) (fun s13 s14 s15 s16 s17 s18 s19 s20 s21 s22 s23 => evLp (E49_1 L N) (evCallI (E49_1 L N) 1 2000) 1000 49 97 2 f49_1.c1 (contAt (E49_1 L N) (evCallI (E49_1 L N) 1 2000) 1000 49 97 2 f49_1.c0 (rdK (E49_1 L N) 1000 49 97 0 κ rec)) L (f49_1.T1 s13 s14 s15 s16 s17 s18 s19 s20 s21 s22 s23) (f49_1.H1 s13 s14 s15 s16 s17 s18 s19 s20 s21 s22 s23)) s1 s2 s3 s4 s5 s6) (by kernel_rfl) ?_
  unfold f49_1.s0
  simp only [f49_1.l1_eq]
  delta f49_1.X1_e2 f49_1.X1_r
  simp only [f49_1.p1_e2_eq, f49_1.p1_r_eq]
theorem f49_1.l0_eq {R : Type} (L N : Nat) (κ : KX R) : ∀ (n : Nat) (s1 : LLM) (s2 : Int) (s3 : LLI) (s4 : (List (ByteArray × Int))) (s5 : LLM) (s6 : LLM),
    evLp (E49_1 L N) (evCallI (E49_1 L N) 1 2000) 1000 49 97 0 f49_1.c0 κ n (f49_1.T0 s1 s2 s3 s4 s5 s6) (f49_1.H0 s1 s2 s3 s4 s5 s6)
    = f49_1.l0 L N (f49_1.X0_e0 κ) (f49_1.X0_r κ) n s1 s2 s3 s4 s5 s6 := by
  intro n
  induction n with
  | zero => intros; rfl
  | succ n ih =>
    intro s1 s2 s3 s4 s5 s6
    rw [evLp_succ, f49_1.s0_eq]
    delta f49_1.R0
    simp only [ih]
    rfl
theorem f49_1.p0_e0_eq {R : Type} (L N : Nat) (κ : RN.Den (.tup (.agg []) [.bool]) → List LM → Option R) (z7 : LLM) (z8 : LLM) :
    (contAt (E49_1 L N) (evCallI (E49_1 L N) 1 2000) 1000 49 97 0 (codeOf Tryz.f49) (finK (E49_1 L N) 1000 Tryz.f49 (finN (.tup (.agg []) [.bool]) (some 0) 46 (.sl (.st 0)) κ))) (.exit 0) (f49_1.T0_e0 z7 z8) (f49_1.H0_e0 z7 z8)
    = f49_1.p0_e0 L N (fun a0 a1 => κ ((()), (a1, ())) a0) z7 z8 := by kernel_rfl
theorem f49_1.p0_r_eq {R : Type} (L N : Nat) (κ : RN.Den (.tup (.agg []) [.bool]) → List LM → Option R) (z10 : Bool) (z11 : LLM) (z12 : LLM) :
    (contAt (E49_1 L N) (evCallI (E49_1 L N) 1 2000) 1000 49 97 0 (codeOf Tryz.f49) (finK (E49_1 L N) 1000 Tryz.f49 (finN (.tup (.agg []) [.bool]) (some 0) 46 (.sl (.st 0)) κ))) .ret (f49_1.T0_r z10 z11 z12) (f49_1.H0_r z10 z11 z12)
    = f49_1.p0_r L N (fun a0 a1 => κ ((()), (a1, ())) a0) z10 z11 z12 := by kernel_rfl
theorem f49_1.b_eq {R : Type} (L N : Nat) (κ : RN.Den (.tup (.agg []) [.bool]) → List LM → Option R) (x0 : LI) (x1 : LLM) :
    evBody (E49_1 L N) (evCallI (E49_1 L N) 1 2000) 1000 49 Tryz.f49 [(.tv (.sl i64) x0), (.fn 51 []), (.fn 52 [(.imp (.sl (.sl (.st 0))) x1 0)])] [] [] (finN (.tup (.agg []) [.bool]) (some 0) 46 (.sl (.st 0)) κ)
    = f49_1.b L N (fun a0 a1 => κ ((()), (a1, ())) a0) x0 x1 := by
  refine Eq.trans (b := f49_1.b' L N (fun a0 a1 => κ ((()), (a1, ())) a0) (fun s1 s2 s3 s4 s5 s6 => evLp (E49_1 L N) (evCallI (E49_1 L N) 1 2000) 1000 49 97 0 f49_1.c0 (contAt (E49_1 L N) (evCallI (E49_1 L N) 1 2000) 1000 49 97 0 (codeOf Tryz.f49) (finK (E49_1 L N) 1000 Tryz.f49 (finN (.tup (.agg []) [.bool]) (some 0) 46 (.sl (.st 0)) κ))) L (f49_1.T0 s1 s2 s3 s4 s5 s6) (f49_1.H0 s1 s2 s3 s4 s5 s6)) x0 x1) (by kernel_rfl) ?_
  unfold f49_1.b
  simp only [f49_1.l0_eq]
  delta f49_1.X0_e0 f49_1.X0_r
  simp only [f49_1.p0_e0_eq, f49_1.p0_r_eq]
theorem f49_1.ok (L N : Nat) (hΦ : TellsOk Tryz.prog ((Φ52_1 L N))) : EntOkO Tryz.prog 49 (f49_1.ent L N) := by
  intro args vw site h a ha
  unfold f49_1.ent at ha
  split at ha
  · rename_i d hd
    obtain rfl := Option.some.inj ha
    intro y hy hs
    refine call_ronF (y := y) (dep := 1000) (E := (E49_1 L N)) (rn := (.tup (.agg []) [.bool])) (q := (some 0)) (el := 46) (ty := (.sl (.st 0))) (d1 := ((()), (y.2, ()))) (xs := y.1) (κ := (fun d xs => some (xs, d.2.1))) (sound_of hΦ) okP (callI_sound (sound_of hΦ) okP 1 2000) (f := Tryz.f49) rfl hs hd ?_ (fun _ _ h => by obtain rfl := Option.some.inj h; exact ⟨rfl, rfl⟩) rfl site
    exact (f49_1.b_eq L N (fun d xs => some (xs, d.2.1)) d.1 d.2.2.1.1).trans (Eq.trans (b := f49_1.b L N (fun a0 a1 => some (a0, a1)) d.1 d.2.2.1.1) (by kernel_rfl) hy)
  · cases ha
def Φ49_1 (L N : Nat) : Tells := (addO (Φ52_1 L N) 49 (f49_1.ent L N))
theorem Φ49_1_ok (L N : Nat) : TellsOk Tryz.prog (Φ49_1 L N) := addO_ok (Φ52_1_ok L N) (f49_1.ok L N (Φ52_1_ok L N))
def f20.b' {R : Type} (L N : Nat) (k : Graph → Bool → Option R) (x0 : Graph) : Option R :=
  (f8 L N (Graph.mk x0.moves)).bind fun y0 =>
  bif (!y0) then
    k (Graph.mk []) false
  else (f50 L N (Graph.mk x0.moves) []).bind fun y1 =>
  (f49_1 L N y1 x0.moves).bind fun y2 =>
  k (Graph.mk y2.1) y2.2
def f20.b {R : Type} (L N : Nat) (k : Graph → Bool → Option R) (x0 : Graph) : Option R :=
  f20.b' L N k x0
def f20 (L N : Nat) (x0 : Graph) : Option (Graph × Bool) := f20.b L N (fun a0 a1 => some (a0, a1)) x0
def f20.ent (L N : Nat) := entDa [(.st 2)] (.many [(.st 2), .bool]) fun d => f20 L N d.1
noncomputable def E20 (L N : Nat) : Env := { P := Tryz.prog, ty := tyOf, Φ := (Φ49_1 L N), inl := inlT, live := lives, liveX := livesX, L := L, dp := none, prom := promT, heal := healT, ren := renT }
theorem f20.b_eq {R : Type} (L N : Nat) (κ : AV → Option R) (x0 : Graph) :
    evBody (E20 L N) (evCallI (E20 L N) 1 2000) 1000 20 Tryz.f20 [(.tv (.st 2) x0)] [] [] (finC (.many [(.st 2), .bool]) κ)
    = f20.b L N (fun a0 a1 => κ (.tup [(.tv (.st 2) a0), (.tv .bool a1)])) x0 := by kernel_rfl
theorem f20.ok (L N : Nat) (hΦ : TellsOk Tryz.prog ((Φ49_1 L N))) : EntOk Tryz.prog 20 (f20.ent L N) := entDa_ok (E := (E20 L N)) (dep := 1000) (f := Tryz.f20) (sound_of hΦ) okP (callI_sound (sound_of hΦ) okP 1 2000) rfl fun d _ hy => (f20.b_eq L N (unR (.many [(.st 2), .bool])) d.1).trans (Eq.trans (b := f20.b L N (fun a0 a1 => some (a0, a1)) d.1) (by kernel_rfl) hy)
def Φ20 (L N : Nat) : Tells := (addT (Φ49_1 L N) 20 (f20.ent L N))
theorem Φ20_ok (L N : Nat) : TellsOk Tryz.prog (Φ20 L N) := addT_ok (Φ49_1_ok L N) (f20.ok L N (Φ49_1_ok L N))
def f55_1.s1' {R : Type} (L N : Nat) (k1_e2 : Int → Int → Bool → LLM → LLM → (List Duo) → (List (ByteArray × Bool)) → Option R) (k1_r : Int → Bool → Int → Bool → LLM → LLM → (List Duo) → (List (ByteArray × Bool)) → LI → Option R) (k1_r1 : Int → Bool → Int → Bool → LLM → LLM → (List Duo) → (List (ByteArray × Bool)) → LI → Option R) (rec1 : Int → Int → LI → Int → Int → Bool → LLM → LLM → LI → LI → LI → (List Duo) → (List (ByteArray × Bool)) → Option R) (s41 : Int) (s42 : Int) (s43 : LI) (s44 : Int) (s45 : Int) (s46 : Bool) (s47 : LLM) (s48 : LLM) (s49 : LI) (s50 : LI) (s51 : LI) (s52 : (List Duo)) (s53 : (List (ByteArray × Bool))) : Option R :=
  bif (decide (s45 < s44)) then
    bif (decide (0 ≤ s45) && decide (s45 < (s43.length : Int))) then
      (f54 L N (Graph.mk s47) s49 (listAt s43 (0 : Int) s45.toNat)).bind fun y61 =>
      (f54 L N (Graph.mk s48) s50 (listAt s43 (0 : Int) s45.toNat)).bind fun y62 =>
      ((fclone s51)).bind fun y63 =>
      bif (decide (s51.length + ([(listAt s43 (0 : Int) s45.toNat)] : LI).length ≤ lim)) then
        bif ((y62.length : Int) == (0 : Int)) then
          bif ((y62.length : Int) == (0 : Int)) then
            k1_r s41 true s42 true s47 s48 s52 s53 (s51 ++ ([(listAt s43 (0 : Int) s45.toNat)] : LI))
          else bif s46 then
            k1_r1 s41 true s42 s46 s47 s48 s52 s53 (s51 ++ ([(listAt s43 (0 : Int) s45.toNat)] : LI))
          else rec1 s41 s42 s43 s44 (wi (s45 + (1 : Int))) s46 s47 s48 s49 s50 s51 s52 s53
        else (f51 L N y61).bind fun y111 =>
        (f51 L N y62).bind fun y112 =>
        bif (decide (y111.size + y112.size ≤ 4611686018427387904)) then
          bif ((mapFind .str .bool (y111 ++ y112) s53).getD (Ty.dflt .bool)) then
            rec1 s41 s42 s43 s44 (wi (s45 + (1 : Int))) s46 s47 s48 s49 s50 s51 s52 s53
          else bif (decide (s52.length + ([(Duo.mk y61 y62 (s51 ++ ([(listAt s43 (0 : Int) s45.toNat)] : LI)))] : (List Duo)).length ≤ lim)) then
            rec1 s41 s42 s43 s44 (wi (s45 + (1 : Int))) s46 s47 s48 s49 s50 s51 (s52 ++ ([(Duo.mk y61 y62 (s51 ++ ([(listAt s43 (0 : Int) s45.toNat)] : LI)))] : (List Duo))) (mapPut .str .bool (y111 ++ y112) true s53)
          else none
        else none
      else none
    else none
  else k1_e2 s41 s42 s46 s47 s48 s52 s53
def f55_1.s1 {R : Type} (L N : Nat) (k1_e2 : Int → Int → Bool → LLM → LLM → (List Duo) → (List (ByteArray × Bool)) → Option R) (k1_r : Int → Bool → Int → Bool → LLM → LLM → (List Duo) → (List (ByteArray × Bool)) → LI → Option R) (k1_r1 : Int → Bool → Int → Bool → LLM → LLM → (List Duo) → (List (ByteArray × Bool)) → LI → Option R) (rec1 : Int → Int → LI → Int → Int → Bool → LLM → LLM → LI → LI → LI → (List Duo) → (List (ByteArray × Bool)) → Option R) (s41 : Int) (s42 : Int) (s43 : LI) (s44 : Int) (s45 : Int) (s46 : Bool) (s47 : LLM) (s48 : LLM) (s49 : LI) (s50 : LI) (s51 : LI) (s52 : (List Duo)) (s53 : (List (ByteArray × Bool))) : Option R :=
  f55_1.s1' L N k1_e2 k1_r k1_r1 rec1 s41 s42 s43 s44 s45 s46 s47 s48 s49 s50 s51 s52 s53
def f55_1.l1 {R : Type} (L N : Nat) (k1_e2 : Int → Int → Bool → LLM → LLM → (List Duo) → (List (ByteArray × Bool)) → Option R) (k1_r : Int → Bool → Int → Bool → LLM → LLM → (List Duo) → (List (ByteArray × Bool)) → LI → Option R) (k1_r1 : Int → Bool → Int → Bool → LLM → LLM → (List Duo) → (List (ByteArray × Bool)) → LI → Option R) : Nat → Int → Int → LI → Int → Int → Bool → LLM → LLM → LI → LI → LI → (List Duo) → (List (ByteArray × Bool)) → Option R
  | 0, _, _, _, _, _, _, _, _, _, _, _, _, _ => none
  | n + 1, s41, s42, s43, s44, s45, s46, s47, s48, s49, s50, s51, s52, s53 => f55_1.s1 L N k1_e2 k1_r k1_r1 (f55_1.l1 L N k1_e2 k1_r k1_r1 n) s41 s42 s43 s44 s45 s46 s47 s48 s49 s50 s51 s52 s53
def f55_1.T1 (s41 : Int) (s42 : Int) (s43 : LI) (s44 : Int) (s45 : Int) (s46 : Bool) (s47 : LLM) (s48 : LLM) (s49 : LI) (s50 : LI) (s51 : LI) (s52 : (List Duo)) (s53 : (List (ByteArray × Bool))) : T := mkT 107 [(2, (.tv i64 s41)), (3, (.fn 56 [(.ptr 1 0), (.ptr 0 0)])), (4, (.ptr 1004 0)), (5, (.ptr 1005 0)), (9, (.row 1022)), (10, (.mp 1023)), (11, (.tv i64 s42)), (12, (.ptr 1012 0)), (60, (.tv (.sl i64) s43)), (61, (.tv i64 s44)), (62, (.tv i64 s45))] ++ [.ptr 0 0]
def f55_1.H1 (s41 : Int) (s42 : Int) (s43 : LI) (s44 : Int) (s45 : Int) (s46 : Bool) (s47 : LLM) (s48 : LLM) (s49 : LI) (s50 : LI) (s51 : LI) (s52 : (List Duo)) (s53 : (List (ByteArray × Bool))) : H := [(0, (.box [(.tv .bool s46)])), (1, (.box [.any])), (1004, (.box [(.tv (.sl (.sl (.st 0))) s47)])), (1005, (.box [(.tv (.sl (.sl (.st 0))) s48)])), (1012, (.box [(.tv (.sl i64) s49), (.tv (.sl i64) s50), (.tv (.sl i64) s51)])), (1022, (.row 77 (.st 4) s52)), (1023, (.map .str .bool s53))]
def f55_1.T1_e2 (z54 : Int) (z55 : Int) (z56 : Bool) (z57 : LLM) (z58 : LLM) (z59 : (List Duo)) (z60 : (List (ByteArray × Bool))) : T := mkT 107 [(2, (.tv i64 z54)), (3, (.fn 56 [(.ptr 1 0), (.ptr 0 0)])), (4, (.ptr 1004 0)), (5, (.ptr 1005 0)), (9, (.row 1022)), (10, (.mp 1023)), (11, (.tv i64 z55))] ++ [.ptr 0 0]
def f55_1.H1_e2 (z54 : Int) (z55 : Int) (z56 : Bool) (z57 : LLM) (z58 : LLM) (z59 : (List Duo)) (z60 : (List (ByteArray × Bool))) : H := [(0, (.box [(.tv .bool z56)])), (1, (.box [.any])), (1004, (.box [(.tv (.sl (.sl (.st 0))) z57)])), (1005, (.box [(.tv (.sl (.sl (.st 0))) z58)])), (1022, (.row 77 (.st 4) z59)), (1023, (.map .str .bool z60))]
def f55_1.T1_r (z93 : Int) (z94 : Bool) (z95 : Int) (z96 : Bool) (z97 : LLM) (z98 : LLM) (z99 : (List Duo)) (z100 : (List (ByteArray × Bool))) (z101 : LI) : T := mkT 107 [(2, (.tv i64 z93)), (3, (.fn 56 [(.ptr 1 0), (.ptr 0 0)])), (4, (.ptr 1004 0)), (5, (.ptr 1005 0)), (8, (.tv .bool z94)), (9, (.row 1022)), (10, (.mp 1023)), (11, (.tv i64 z95))] ++ [.ptr 0 0]
def f55_1.H1_r (z93 : Int) (z94 : Bool) (z95 : Int) (z96 : Bool) (z97 : LLM) (z98 : LLM) (z99 : (List Duo)) (z100 : (List (ByteArray × Bool))) (z101 : LI) : H := [(0, (.box [(.tv .bool z96)])), (1, (.box [(.row 1081)])), (1004, (.box [(.tv (.sl (.sl (.st 0))) z97)])), (1005, (.box [(.tv (.sl (.sl (.st 0))) z98)])), (1022, (.row 77 (.st 4) z99)), (1023, (.map .str .bool z100)), (1081, (.row 3 i64 z101))]
def f55_1.T1_r1 (z102 : Int) (z103 : Bool) (z104 : Int) (z105 : Bool) (z106 : LLM) (z107 : LLM) (z108 : (List Duo)) (z109 : (List (ByteArray × Bool))) (z110 : LI) : T := mkT 107 [(2, (.tv i64 z102)), (3, (.fn 56 [(.ptr 1 0), (.ptr 0 0)])), (4, (.ptr 1004 0)), (5, (.ptr 1005 0)), (8, (.tv .bool z103)), (9, (.row 1022)), (10, (.mp 1023)), (11, (.tv i64 z104))] ++ [.ptr 0 0]
def f55_1.H1_r1 (z102 : Int) (z103 : Bool) (z104 : Int) (z105 : Bool) (z106 : LLM) (z107 : LLM) (z108 : (List Duo)) (z109 : (List (ByteArray × Bool))) (z110 : LI) : H := [(0, (.box [(.tv .bool z105)])), (1, (.box [.any])), (1004, (.box [(.tv (.sl (.sl (.st 0))) z106)])), (1005, (.box [(.tv (.sl (.sl (.st 0))) z107)])), (1022, (.row 77 (.st 4) z108)), (1023, (.map .str .bool z109)), (1081, (.row 3 i64 z110))]
def f55_1.p1_e2' {R : Type} (L N : Nat) (k0_e0 : Bool → Option R) (k0_r : Bool → Bool → Option R) (k0_r1 : Bool → Bool → LI → Option R) (k0_r2 : Bool → Bool → Option R) (rec0 : Int → Int → Bool → LLM → LLM → (List Duo) → (List (ByteArray × Bool)) → Option R) (z54 : Int) (z55 : Int) (z56 : Bool) (z57 : LLM) (z58 : LLM) (z59 : (List Duo)) (z60 : (List (ByteArray × Bool))) : Option R :=
  rec0 z54 (wi (z55 + (1 : Int))) z56 z57 z58 z59 z60
def f55_1.p1_e2 {R : Type} (L N : Nat) (k0_e0 : Bool → Option R) (k0_r : Bool → Bool → Option R) (k0_r1 : Bool → Bool → LI → Option R) (k0_r2 : Bool → Bool → Option R) (rec0 : Int → Int → Bool → LLM → LLM → (List Duo) → (List (ByteArray × Bool)) → Option R) (z54 : Int) (z55 : Int) (z56 : Bool) (z57 : LLM) (z58 : LLM) (z59 : (List Duo)) (z60 : (List (ByteArray × Bool))) : Option R :=
  f55_1.p1_e2' L N k0_e0 k0_r k0_r1 k0_r2 rec0 z54 z55 z56 z57 z58 z59 z60
def f55_1.p1_r' {R : Type} (L N : Nat) (k0_e0 : Bool → Option R) (k0_r : Bool → Bool → Option R) (k0_r1 : Bool → Bool → LI → Option R) (k0_r2 : Bool → Bool → Option R) (rec0 : Int → Int → Bool → LLM → LLM → (List Duo) → (List (ByteArray × Bool)) → Option R) (z93 : Int) (z94 : Bool) (z95 : Int) (z96 : Bool) (z97 : LLM) (z98 : LLM) (z99 : (List Duo)) (z100 : (List (ByteArray × Bool))) (z101 : LI) : Option R :=
  k0_r2 z94 z96
def f55_1.p1_r {R : Type} (L N : Nat) (k0_e0 : Bool → Option R) (k0_r : Bool → Bool → Option R) (k0_r1 : Bool → Bool → LI → Option R) (k0_r2 : Bool → Bool → Option R) (rec0 : Int → Int → Bool → LLM → LLM → (List Duo) → (List (ByteArray × Bool)) → Option R) (z93 : Int) (z94 : Bool) (z95 : Int) (z96 : Bool) (z97 : LLM) (z98 : LLM) (z99 : (List Duo)) (z100 : (List (ByteArray × Bool))) (z101 : LI) : Option R :=
  f55_1.p1_r' L N k0_e0 k0_r k0_r1 k0_r2 rec0 z93 z94 z95 z96 z97 z98 z99 z100 z101
def f55_1.p1_r1' {R : Type} (L N : Nat) (k0_e0 : Bool → Option R) (k0_r : Bool → Bool → Option R) (k0_r1 : Bool → Bool → LI → Option R) (k0_r2 : Bool → Bool → Option R) (rec0 : Int → Int → Bool → LLM → LLM → (List Duo) → (List (ByteArray × Bool)) → Option R) (z102 : Int) (z103 : Bool) (z104 : Int) (z105 : Bool) (z106 : LLM) (z107 : LLM) (z108 : (List Duo)) (z109 : (List (ByteArray × Bool))) (z110 : LI) : Option R :=
  k0_r z103 z105
def f55_1.p1_r1 {R : Type} (L N : Nat) (k0_e0 : Bool → Option R) (k0_r : Bool → Bool → Option R) (k0_r1 : Bool → Bool → LI → Option R) (k0_r2 : Bool → Bool → Option R) (rec0 : Int → Int → Bool → LLM → LLM → (List Duo) → (List (ByteArray × Bool)) → Option R) (z102 : Int) (z103 : Bool) (z104 : Int) (z105 : Bool) (z106 : LLM) (z107 : LLM) (z108 : (List Duo)) (z109 : (List (ByteArray × Bool))) (z110 : LI) : Option R :=
  f55_1.p1_r1' L N k0_e0 k0_r k0_r1 k0_r2 rec0 z102 z103 z104 z105 z106 z107 z108 z109 z110
def f55_1.s0' {R : Type} (L N : Nat) (k0_e0 : Bool → Option R) (k0_r : Bool → Bool → Option R) (k0_r1 : Bool → Bool → LI → Option R) (k0_r2 : Bool → Bool → Option R) (rec0 : Int → Int → Bool → LLM → LLM → (List Duo) → (List (ByteArray × Bool)) → Option R) (w1 : Int → Int → LI → Int → Int → Bool → LLM → LLM → LI → LI → LI → (List Duo) → (List (ByteArray × Bool)) → Option R) (s4 : Int) (s5 : Int) (s6 : Bool) (s7 : LLM) (s8 : LLM) (s9 : (List Duo)) (s10 : (List (ByteArray × Bool))) : Option R :=
  bif (decide (s5 < (s9.length : Int))) then
    bif (decide (0 ≤ s5) && decide (s5 < (s9.length : Int))) then
      bif (decide ((s9.length : Int) > (400 : Int))) then
        k0_r false s6
      else bif ((((Duo.mk ((listAt s9 (Ty.dflt (.st 4)) s5.toNat).a) ((listAt s9 (Ty.dflt (.st 4)) s5.toNat).b) ((listAt s9 (Ty.dflt (.st 4)) s5.toNat).w)).b).length : Int) == (0 : Int)) then
        k0_r1 true true ((Duo.mk ((listAt s9 (Ty.dflt (.st 4)) s5.toNat).a) ((listAt s9 (Ty.dflt (.st 4)) s5.toNat).b) ((listAt s9 (Ty.dflt (.st 4)) s5.toNat).w)).w)
      else bif s6 then
        k0_r true s6
      else bif ((((listAt s9 (Ty.dflt (.st 4)) s5.toNat).w).length : Int) == s4) then
        rec0 s4 (wi (s5 + (1 : Int))) s6 s7 s8 s9 s10
      else (f53 L N (Graph.mk s7) ((listAt s9 (Ty.dflt (.st 4)) s5.toNat).a)).bind fun y40 =>
      w1 s4 s5 y40 (y40.length : Int) (0 : Int) s6 s7 s8 ((listAt s9 (Ty.dflt (.st 4)) s5.toNat).a) ((listAt s9 (Ty.dflt (.st 4)) s5.toNat).b) ((listAt s9 (Ty.dflt (.st 4)) s5.toNat).w) s9 s10
    else none
  else k0_e0 s6
def f55_1.s0 {R : Type} (L N : Nat) (k0_e0 : Bool → Option R) (k0_r : Bool → Bool → Option R) (k0_r1 : Bool → Bool → LI → Option R) (k0_r2 : Bool → Bool → Option R) (rec0 : Int → Int → Bool → LLM → LLM → (List Duo) → (List (ByteArray × Bool)) → Option R) (s4 : Int) (s5 : Int) (s6 : Bool) (s7 : LLM) (s8 : LLM) (s9 : (List Duo)) (s10 : (List (ByteArray × Bool))) : Option R :=
  f55_1.s0' L N k0_e0 k0_r k0_r1 k0_r2 rec0 (fun s41 s42 s43 s44 s45 s46 s47 s48 s49 s50 s51 s52 s53 => f55_1.l1 L N (fun z54 z55 z56 z57 z58 z59 z60 => f55_1.p1_e2 L N k0_e0 k0_r k0_r1 k0_r2 rec0 z54 z55 z56 z57 z58 z59 z60) (fun z93 z94 z95 z96 z97 z98 z99 z100 z101 => f55_1.p1_r L N k0_e0 k0_r k0_r1 k0_r2 rec0 z93 z94 z95 z96 z97 z98 z99 z100 z101) (fun z102 z103 z104 z105 z106 z107 z108 z109 z110 => f55_1.p1_r1 L N k0_e0 k0_r k0_r1 k0_r2 rec0 z102 z103 z104 z105 z106 z107 z108 z109 z110) L s41 s42 s43 s44 s45 s46 s47 s48 s49 s50 s51 s52 s53) s4 s5 s6 s7 s8 s9 s10
def f55_1.l0 {R : Type} (L N : Nat) (k0_e0 : Bool → Option R) (k0_r : Bool → Bool → Option R) (k0_r1 : Bool → Bool → LI → Option R) (k0_r2 : Bool → Bool → Option R) : Nat → Int → Int → Bool → LLM → LLM → (List Duo) → (List (ByteArray × Bool)) → Option R
  | 0, _, _, _, _, _, _, _ => none
  | n + 1, s4, s5, s6, s7, s8, s9, s10 => f55_1.s0 L N k0_e0 k0_r k0_r1 k0_r2 (f55_1.l0 L N k0_e0 k0_r k0_r1 k0_r2 n) s4 s5 s6 s7 s8 s9 s10
def f55_1.T0 (s4 : Int) (s5 : Int) (s6 : Bool) (s7 : LLM) (s8 : LLM) (s9 : (List Duo)) (s10 : (List (ByteArray × Bool))) : T := mkT 107 [(2, (.tv i64 s4)), (3, (.fn 56 [(.ptr 1 0), (.ptr 0 0)])), (4, (.ptr 1004 0)), (5, (.ptr 1005 0)), (9, (.row 1022)), (10, (.mp 1023)), (11, (.tv i64 s5))] ++ [.ptr 0 0]
def f55_1.H0 (s4 : Int) (s5 : Int) (s6 : Bool) (s7 : LLM) (s8 : LLM) (s9 : (List Duo)) (s10 : (List (ByteArray × Bool))) : H := [(0, (.box [(.tv .bool s6)])), (1, (.box [.any])), (1004, (.box [(.tv (.sl (.sl (.st 0))) s7)])), (1005, (.box [(.tv (.sl (.sl (.st 0))) s8)])), (1022, (.row 77 (.st 4) s9)), (1023, (.map .str .bool s10))]
def f55_1.T0_e0 (z11 : Bool) : T := mkT 107 [] ++ [.ptr 0 0]
def f55_1.H0_e0 (z11 : Bool) : H := [(0, (.box [(.tv .bool z11)])), (1, (.box [.any]))]
def f55_1.T0_r (z12 : Bool) (z13 : Bool) : T := mkT 107 [(8, (.tv .bool z12))] ++ [.ptr 0 0]
def f55_1.H0_r (z12 : Bool) (z13 : Bool) : H := [(0, (.box [(.tv .bool z13)])), (1, (.box [.any]))]
def f55_1.T0_r1 (z37 : Bool) (z38 : Bool) (z39 : LI) : T := mkT 107 [(8, (.tv .bool z37))] ++ [.ptr 0 0]
def f55_1.H0_r1 (z37 : Bool) (z38 : Bool) (z39 : LI) : H := [(0, (.box [(.tv .bool z38)])), (1, (.box [(.tv (.sl i64) z39)]))]
def f55_1.T0_r2 (z139 : Bool) (z140 : Bool) : T := mkT 107 [(8, (.tv .bool z139))] ++ [.ptr 0 0]
def f55_1.H0_r2 (z139 : Bool) (z140 : Bool) : H := [(0, (.box [(.tv .bool z140)])), (1, (.box [(.row 1081)]))]
def f55_1.p0_e0' {R : Type} (L N : Nat) (k : Bool → Bool → Option R) (z11 : Bool) : Option R :=
  k true z11
def f55_1.p0_e0 {R : Type} (L N : Nat) (k : Bool → Bool → Option R) (z11 : Bool) : Option R :=
  f55_1.p0_e0' L N k z11
def f55_1.p0_r' {R : Type} (L N : Nat) (k : Bool → Bool → Option R) (z12 : Bool) (z13 : Bool) : Option R :=
  k z12 z13
def f55_1.p0_r {R : Type} (L N : Nat) (k : Bool → Bool → Option R) (z12 : Bool) (z13 : Bool) : Option R :=
  f55_1.p0_r' L N k z12 z13
def f55_1.p0_r1' {R : Type} (L N : Nat) (k : Bool → Bool → Option R) (z37 : Bool) (z38 : Bool) (z39 : LI) : Option R :=
  k z37 z38
def f55_1.p0_r1 {R : Type} (L N : Nat) (k : Bool → Bool → Option R) (z37 : Bool) (z38 : Bool) (z39 : LI) : Option R :=
  f55_1.p0_r1' L N k z37 z38 z39
def f55_1.p0_r2' {R : Type} (L N : Nat) (k : Bool → Bool → Option R) (z139 : Bool) (z140 : Bool) : Option R :=
  k z139 z140
def f55_1.p0_r2 {R : Type} (L N : Nat) (k : Bool → Bool → Option R) (z139 : Bool) (z140 : Bool) : Option R :=
  f55_1.p0_r2' L N k z139 z140
def f55_1.b' {R : Type} (L N : Nat) (k : Bool → Bool → Option R) (w0 : Int → Int → Bool → LLM → LLM → (List Duo) → (List (ByteArray × Bool)) → Option R) (c0 : Bool) (x0 : Graph) (x1 : Graph) (x2 : Int) : Option R :=
  (f50 L N (Graph.mk x0.moves) []).bind fun y0 =>
  (f50 L N (Graph.mk x1.moves) []).bind fun y1 =>
  bif (decide (0 ≤ (0 : Int)) && decide ((0 : Int) < (([(Duo.mk y0 y1 [])] : (List Duo)).length : Int))) then
    (f51 L N ((listAt ([(Duo.mk y0 y1 [])] : (List Duo)) (Ty.dflt (.st 4)) (0 : Int).toNat).a)).bind fun y2 =>
    bif (decide (0 ≤ (0 : Int)) && decide ((0 : Int) < (([(Duo.mk y0 y1 [])] : (List Duo)).length : Int))) then
      (f51 L N ((listAt ([(Duo.mk y0 y1 [])] : (List Duo)) (Ty.dflt (.st 4)) (0 : Int).toNat).b)).bind fun y3 =>
      bif (decide (y2.size + y3.size ≤ 4611686018427387904)) then
        w0 x2 (0 : Int) c0 x0.moves x1.moves ([(Duo.mk y0 y1 [])] : (List Duo)) (mapPut .str .bool (y2 ++ y3) true ([] : (List (ByteArray × Bool))))
      else none
    else none
  else none
def f55_1.b {R : Type} (L N : Nat) (k : Bool → Bool → Option R) (c0 : Bool) (x0 : Graph) (x1 : Graph) (x2 : Int) : Option R :=
  f55_1.b' L N k (fun s4 s5 s6 s7 s8 s9 s10 => f55_1.l0 L N (fun z11 => f55_1.p0_e0 L N k z11) (fun z12 z13 => f55_1.p0_r L N k z12 z13) (fun z37 z38 z39 => f55_1.p0_r1 L N k z37 z38 z39) (fun z139 z140 => f55_1.p0_r2 L N k z139 z140) L s4 s5 s6 s7 s8 s9 s10) c0 x0 x1 x2
def f55_1 (L N : Nat) (c0 : Bool) (x0 : Graph) (x1 : Graph) (x2 : Int) : Option (Bool × Bool) := f55_1.b L N (fun a0 a1 => some (a0, a1)) c0 x0 x1 x2
def f55_1.ent (L N : Nat) (args : List AV) (vw : View) (_ : Nat) : Option Ans := match mutD2 [.bool] [(.sh (.dat (.st 2))), (.sh (.dat (.st 2))), (.sh (.dat i64)), (.fn 56 [(.mut 1), (.mut 0)])] vw args with
  | some (o, o2, d0, d, u) => some ⟨Bool × Bool, f55_1 L N d0.1 d.1 d.2.1 d.2.2.1, fun y => ((.tv .bool y.1), u ++ [(o2, none), (o, some (.box [(.tv .bool y.2)]))], [])⟩
  | none => none
noncomputable def E55_1 (L N : Nat) : Env := { P := Tryz.prog, ty := tyOf, Φ := (Φ20 L N), inl := inlT, live := lives, liveX := livesX, L := L, dp := none, prom := promT, heal := healT, ren := renT, fresh := fun s => Nat.beq s 1081 }
noncomputable def f55_1.c0 : Code := loopAt 0 (codeOf Tryz.f55)
noncomputable def f55_1.c1 : Code := loopAt 2 f55_1.c0
def f55_1.X1_e2 {R : Type} (κ : KX R) := fun z54 z55 z56 z57 z58 z59 z60 => κ (.exit 2) (f55_1.T1_e2 z54 z55 z56 z57 z58 z59 z60) (f55_1.H1_e2 z54 z55 z56 z57 z58 z59 z60)
def f55_1.X1_r {R : Type} (κ : KX R) := fun z93 z94 z95 z96 z97 z98 z99 z100 z101 => κ .ret (f55_1.T1_r z93 z94 z95 z96 z97 z98 z99 z100 z101) (f55_1.H1_r z93 z94 z95 z96 z97 z98 z99 z100 z101)
def f55_1.X1_r1 {R : Type} (κ : KX R) := fun z102 z103 z104 z105 z106 z107 z108 z109 z110 => κ .ret (f55_1.T1_r1 z102 z103 z104 z105 z106 z107 z108 z109 z110) (f55_1.H1_r1 z102 z103 z104 z105 z106 z107 z108 z109 z110)
def f55_1.R1 {R : Type} (rec : KT R) := fun s41 s42 s43 s44 s45 s46 s47 s48 s49 s50 s51 s52 s53 => rec (f55_1.T1 s41 s42 s43 s44 s45 s46 s47 s48 s49 s50 s51 s52 s53) (f55_1.H1 s41 s42 s43 s44 s45 s46 s47 s48 s49 s50 s51 s52 s53)
theorem f55_1.s1_eq {R : Type} (L N : Nat) (κ : KX R) (rec : KT R) (s41 : Int) (s42 : Int) (s43 : LI) (s44 : Int) (s45 : Int) (s46 : Bool) (s47 : LLM) (s48 : LLM) (s49 : LI) (s50 : LI) (s51 : LI) (s52 : (List Duo)) (s53 : (List (ByteArray × Bool))) :
    evRd (E55_1 L N) (evCallI (E55_1 L N) 1 2000) 1000 55 107 2 f55_1.c1 κ rec (f55_1.T1 s41 s42 s43 s44 s45 s46 s47 s48 s49 s50 s51 s52 s53) (f55_1.H1 s41 s42 s43 s44 s45 s46 s47 s48 s49 s50 s51 s52 s53)
    = f55_1.s1 L N (f55_1.X1_e2 κ) (f55_1.X1_r κ) (f55_1.X1_r1 κ) (f55_1.R1 rec) s41 s42 s43 s44 s45 s46 s47 s48 s49 s50 s51 s52 s53 := by kernel_rfl
theorem f55_1.l1_eq {R : Type} (L N : Nat) (κ : KX R) : ∀ (n : Nat) (s41 : Int) (s42 : Int) (s43 : LI) (s44 : Int) (s45 : Int) (s46 : Bool) (s47 : LLM) (s48 : LLM) (s49 : LI) (s50 : LI) (s51 : LI) (s52 : (List Duo)) (s53 : (List (ByteArray × Bool))),
    evLp (E55_1 L N) (evCallI (E55_1 L N) 1 2000) 1000 55 107 2 f55_1.c1 κ n (f55_1.T1 s41 s42 s43 s44 s45 s46 s47 s48 s49 s50 s51 s52 s53) (f55_1.H1 s41 s42 s43 s44 s45 s46 s47 s48 s49 s50 s51 s52 s53)
    = f55_1.l1 L N (f55_1.X1_e2 κ) (f55_1.X1_r κ) (f55_1.X1_r1 κ) n s41 s42 s43 s44 s45 s46 s47 s48 s49 s50 s51 s52 s53 := by
  intro n
  induction n with
  | zero => intros; rfl
  | succ n ih =>
    intro s41 s42 s43 s44 s45 s46 s47 s48 s49 s50 s51 s52 s53
    rw [evLp_succ, f55_1.s1_eq]
    delta f55_1.R1
    simp only [ih]
    rfl
def f55_1.X0_e0 {R : Type} (κ : KX R) := fun z11 => κ (.exit 0) (f55_1.T0_e0 z11) (f55_1.H0_e0 z11)
def f55_1.X0_r {R : Type} (κ : KX R) := fun z12 z13 => κ .ret (f55_1.T0_r z12 z13) (f55_1.H0_r z12 z13)
def f55_1.X0_r1 {R : Type} (κ : KX R) := fun z37 z38 z39 => κ .ret (f55_1.T0_r1 z37 z38 z39) (f55_1.H0_r1 z37 z38 z39)
def f55_1.X0_r2 {R : Type} (κ : KX R) := fun z139 z140 => κ .ret (f55_1.T0_r2 z139 z140) (f55_1.H0_r2 z139 z140)
def f55_1.R0 {R : Type} (rec : KT R) := fun s4 s5 s6 s7 s8 s9 s10 => rec (f55_1.T0 s4 s5 s6 s7 s8 s9 s10) (f55_1.H0 s4 s5 s6 s7 s8 s9 s10)
theorem f55_1.p1_e2_eq {R : Type} (L N : Nat) (κ : KX R) (rec : KT R) (z54 : Int) (z55 : Int) (z56 : Bool) (z57 : LLM) (z58 : LLM) (z59 : (List Duo)) (z60 : (List (ByteArray × Bool))) :
    (contAt (E55_1 L N) (evCallI (E55_1 L N) 1 2000) 1000 55 107 2 f55_1.c0 (rdK (E55_1 L N) 1000 55 107 0 κ rec)) (.exit 2) (f55_1.T1_e2 z54 z55 z56 z57 z58 z59 z60) (f55_1.H1_e2 z54 z55 z56 z57 z58 z59 z60)
    = f55_1.p1_e2 L N (f55_1.X0_e0 κ) (f55_1.X0_r κ) (f55_1.X0_r1 κ) (f55_1.X0_r2 κ) (f55_1.R0 rec) z54 z55 z56 z57 z58 z59 z60 := by kernel_rfl
theorem f55_1.p1_r_eq {R : Type} (L N : Nat) (κ : KX R) (rec : KT R) (z93 : Int) (z94 : Bool) (z95 : Int) (z96 : Bool) (z97 : LLM) (z98 : LLM) (z99 : (List Duo)) (z100 : (List (ByteArray × Bool))) (z101 : LI) :
    (contAt (E55_1 L N) (evCallI (E55_1 L N) 1 2000) 1000 55 107 2 f55_1.c0 (rdK (E55_1 L N) 1000 55 107 0 κ rec)) .ret (f55_1.T1_r z93 z94 z95 z96 z97 z98 z99 z100 z101) (f55_1.H1_r z93 z94 z95 z96 z97 z98 z99 z100 z101)
    = f55_1.p1_r L N (f55_1.X0_e0 κ) (f55_1.X0_r κ) (f55_1.X0_r1 κ) (f55_1.X0_r2 κ) (f55_1.R0 rec) z93 z94 z95 z96 z97 z98 z99 z100 z101 := by kernel_rfl
theorem f55_1.p1_r1_eq {R : Type} (L N : Nat) (κ : KX R) (rec : KT R) (z102 : Int) (z103 : Bool) (z104 : Int) (z105 : Bool) (z106 : LLM) (z107 : LLM) (z108 : (List Duo)) (z109 : (List (ByteArray × Bool))) (z110 : LI) :
    (contAt (E55_1 L N) (evCallI (E55_1 L N) 1 2000) 1000 55 107 2 f55_1.c0 (rdK (E55_1 L N) 1000 55 107 0 κ rec)) .ret (f55_1.T1_r1 z102 z103 z104 z105 z106 z107 z108 z109 z110) (f55_1.H1_r1 z102 z103 z104 z105 z106 z107 z108 z109 z110)
    = f55_1.p1_r1 L N (f55_1.X0_e0 κ) (f55_1.X0_r κ) (f55_1.X0_r1 κ) (f55_1.X0_r2 κ) (f55_1.R0 rec) z102 z103 z104 z105 z106 z107 z108 z109 z110 := by kernel_rfl
theorem f55_1.s0_eq {R : Type} (L N : Nat) (κ : KX R) (rec : KT R) (s4 : Int) (s5 : Int) (s6 : Bool) (s7 : LLM) (s8 : LLM) (s9 : (List Duo)) (s10 : (List (ByteArray × Bool))) :
    evRd (E55_1 L N) (evCallI (E55_1 L N) 1 2000) 1000 55 107 0 f55_1.c0 κ rec (f55_1.T0 s4 s5 s6 s7 s8 s9 s10) (f55_1.H0 s4 s5 s6 s7 s8 s9 s10)
    = f55_1.s0 L N (f55_1.X0_e0 κ) (f55_1.X0_r κ) (f55_1.X0_r1 κ) (f55_1.X0_r2 κ) (f55_1.R0 rec) s4 s5 s6 s7 s8 s9 s10 := by
  refine Eq.trans (b := f55_1.s0' L N (f55_1.X0_e0 κ) (f55_1.X0_r κ) (f55_1.X0_r1 κ) (f55_1.X0_r2 κ) (f55_1.R0 rec) (fun s41 s42 s43 s44 s45 s46 s47 s48 s49 s50 s51 s52 s53 => evLp (E55_1 L N) (evCallI (E55_1 L N) 1 2000) 1000 55 107 2 f55_1.c1 (contAt (E55_1 L N) (evCallI (E55_1 L N) 1 2000) 1000 55 107 2 f55_1.c0 (rdK (E55_1 L N) 1000 55 107 0 κ rec)) L (f55_1.T1 s41 s42 s43 s44 s45 s46 s47 s48 s49 s50 s51 s52 s53) (f55_1.H1 s41 s42 s43 s44 s45 s46 s47 s48 s49 s50 s51 s52 s53)) s4 s5 s6 s7 s8 s9 s10) (by kernel_rfl) ?_
  unfold f55_1.s0
  simp only [f55_1.l1_eq]
  delta f55_1.X1_e2 f55_1.X1_r f55_1.X1_r1
  simp only [f55_1.p1_e2_eq, f55_1.p1_r_eq, f55_1.p1_r1_eq]
theorem f55_1.l0_eq {R : Type} (L N : Nat) (κ : KX R) : ∀ (n : Nat) (s4 : Int) (s5 : Int) (s6 : Bool) (s7 : LLM) (s8 : LLM) (s9 : (List Duo)) (s10 : (List (ByteArray × Bool))),
    evLp (E55_1 L N) (evCallI (E55_1 L N) 1 2000) 1000 55 107 0 f55_1.c0 κ n (f55_1.T0 s4 s5 s6 s7 s8 s9 s10) (f55_1.H0 s4 s5 s6 s7 s8 s9 s10)
    = f55_1.l0 L N (f55_1.X0_e0 κ) (f55_1.X0_r κ) (f55_1.X0_r1 κ) (f55_1.X0_r2 κ) n s4 s5 s6 s7 s8 s9 s10 := by
  intro n
  induction n with
  | zero => intros; rfl
  | succ n ih =>
    intro s4 s5 s6 s7 s8 s9 s10
    rw [evLp_succ, f55_1.s0_eq]
    delta f55_1.R0
    simp only [ih]
    rfl
theorem f55_1.p0_e0_eq {R : Type} (L N : Nat) (κ : AV → Dens [.bool] → Option R) (z11 : Bool) :
    (contAt (E55_1 L N) (evCallI (E55_1 L N) 1 2000) 1000 55 107 0 (codeOf Tryz.f55) (finK (E55_1 L N) 1000 Tryz.f55 (finM (.one .bool) [.bool] κ))) (.exit 0) (f55_1.T0_e0 z11) (f55_1.H0_e0 z11)
    = f55_1.p0_e0 L N (fun a0 a1 => κ (.tv .bool a0) (a1, ())) z11 := by kernel_rfl
theorem f55_1.p0_r_eq {R : Type} (L N : Nat) (κ : AV → Dens [.bool] → Option R) (z12 : Bool) (z13 : Bool) :
    (contAt (E55_1 L N) (evCallI (E55_1 L N) 1 2000) 1000 55 107 0 (codeOf Tryz.f55) (finK (E55_1 L N) 1000 Tryz.f55 (finM (.one .bool) [.bool] κ))) .ret (f55_1.T0_r z12 z13) (f55_1.H0_r z12 z13)
    = f55_1.p0_r L N (fun a0 a1 => κ (.tv .bool a0) (a1, ())) z12 z13 := by kernel_rfl
theorem f55_1.p0_r1_eq {R : Type} (L N : Nat) (κ : AV → Dens [.bool] → Option R) (z37 : Bool) (z38 : Bool) (z39 : LI) :
    (contAt (E55_1 L N) (evCallI (E55_1 L N) 1 2000) 1000 55 107 0 (codeOf Tryz.f55) (finK (E55_1 L N) 1000 Tryz.f55 (finM (.one .bool) [.bool] κ))) .ret (f55_1.T0_r1 z37 z38 z39) (f55_1.H0_r1 z37 z38 z39)
    = f55_1.p0_r1 L N (fun a0 a1 => κ (.tv .bool a0) (a1, ())) z37 z38 z39 := by kernel_rfl
theorem f55_1.p0_r2_eq {R : Type} (L N : Nat) (κ : AV → Dens [.bool] → Option R) (z139 : Bool) (z140 : Bool) :
    (contAt (E55_1 L N) (evCallI (E55_1 L N) 1 2000) 1000 55 107 0 (codeOf Tryz.f55) (finK (E55_1 L N) 1000 Tryz.f55 (finM (.one .bool) [.bool] κ))) .ret (f55_1.T0_r2 z139 z140) (f55_1.H0_r2 z139 z140)
    = f55_1.p0_r2 L N (fun a0 a1 => κ (.tv .bool a0) (a1, ())) z139 z140 := by kernel_rfl
theorem f55_1.b_eq {R : Type} (L N : Nat) (κ : AV → Dens [.bool] → Option R) (c0 : Bool) (x0 : Graph) (x1 : Graph) (x2 : Int) :
    evBody (E55_1 L N) (evCallI (E55_1 L N) 1 2000) 1000 55 Tryz.f55 [(.tv (.st 2) x0), (.tv (.st 2) x1), (.tv i64 x2), (.fn 56 [(.ptr 1 0), (.ptr 0 0)])] [.ptr 0 0] [(0, (.box [(.tv .bool c0)])), (1, (.box [.any]))] (finM (.one .bool) [.bool] κ)
    = f55_1.b L N (fun a0 a1 => κ (.tv .bool a0) (a1, ())) c0 x0 x1 x2 := by
  refine Eq.trans (b := f55_1.b' L N (fun a0 a1 => κ (.tv .bool a0) (a1, ())) (fun s4 s5 s6 s7 s8 s9 s10 => evLp (E55_1 L N) (evCallI (E55_1 L N) 1 2000) 1000 55 107 0 f55_1.c0 (contAt (E55_1 L N) (evCallI (E55_1 L N) 1 2000) 1000 55 107 0 (codeOf Tryz.f55) (finK (E55_1 L N) 1000 Tryz.f55 (finM (.one .bool) [.bool] κ))) L (f55_1.T0 s4 s5 s6 s7 s8 s9 s10) (f55_1.H0 s4 s5 s6 s7 s8 s9 s10)) c0 x0 x1 x2) (by kernel_rfl) ?_
  unfold f55_1.b
  simp only [f55_1.l0_eq]
  delta f55_1.X0_e0 f55_1.X0_r f55_1.X0_r1 f55_1.X0_r2
  simp only [f55_1.p0_e0_eq, f55_1.p0_r_eq, f55_1.p0_r1_eq, f55_1.p0_r2_eq]
theorem f55_1.ok (L N : Nat) (hΦ : TellsOk Tryz.prog ((Φ20 L N))) : EntOkO Tryz.prog 55 (f55_1.ent L N) := by
  intro args vw site h a ha
  unfold f55_1.ent at ha
  split at ha
  · rename_i o o2 d0 d u hd
    obtain rfl := Option.some.inj ha
    intro y hy hs
    obtain ⟨cs, c2, hne, ho, ho2, hd0, hr⟩ := mutD2_some hd
    refine call_mut2 (y := y) (dep := 1000) (v' := (.tv .bool y.1)) (d1 := (y.2, ())) (E := (E55_1 L N)) (ts := [.bool]) (rs := (.one .bool)) (κ := (fun v d => (unR (.one .bool) v).bind fun x => some (x, d.1))) (sound_of hΦ) okP (callI_sound (sound_of hΦ) okP 1 2000) (f := Tryz.f55) rfl hs hne ho ho2 hd0 hr ?_ (fun _ _ h => by obtain ⟨x, h1, h2⟩ := unR_bind h; obtain rfl := Option.some.inj h2; exact ⟨h1, rfl⟩) site
    exact (f55_1.b_eq L N (fun v d => (unR (.one .bool) v).bind fun x => some (x, d.1)) d0.1 d.1 d.2.1 d.2.2.1).trans (Eq.trans (b := f55_1.b L N (fun a0 a1 => some (a0, a1)) d0.1 d.1 d.2.1 d.2.2.1) (by kernel_rfl) hy)
  · cases ha
def Φ55_1 (L N : Nat) : Tells := (addO (Φ20 L N) 55 (f55_1.ent L N))
theorem Φ55_1_ok (L N : Nat) : TellsOk Tryz.prog (Φ55_1 L N) := addO_ok (Φ20_ok L N) (f55_1.ok L N (Φ20_ok L N))
def f21.j0' {R : Type} (L N : Nat) (k : LI → Bool → Option R) (v5 : LLM) (v6 : LLM) : Option R :=
  (f55_1 L N false (Graph.mk v5) (Graph.mk v6) (20 : Int)).bind fun y7 =>
  bif (!y7.1) then
    k [] false
  else bif (!y7.2) then
    k [] false
  else none
def f21.b' {R : Type} (L N : Nat) (k : LI → Bool → Option R) (x0 : Graph) (x1 : Graph) : Option R :=
  (f8 L N (Graph.mk x0.moves)).bind fun y0 =>
  bif (!y0) then
    k [] false
  else (f8 L N (Graph.mk x1.moves)).bind fun y1 =>
  bif (!y1) then
    k [] false
  else f21.j0' L N k x0.moves x1.moves
def f21.b {R : Type} (L N : Nat) (k : LI → Bool → Option R) (x0 : Graph) (x1 : Graph) : Option R :=
  f21.b' L N k x0 x1
def f21 (L N : Nat) (x0 : Graph) (x1 : Graph) : Option (LI × Bool) := f21.b L N (fun a0 a1 => some (a0, a1)) x0 x1
def f21.ent (L N : Nat) := entDa [(.st 2), (.st 2)] (.many [(.sl i64), .bool]) fun d => f21 L N d.1 d.2.1
noncomputable def E21 (L N : Nat) : Env := { P := Tryz.prog, ty := tyOf, Φ := (Φ55_1 L N), inl := inlT, live := lives, liveX := livesX, L := L, dp := none, prom := promT, heal := healT, ren := renT }
theorem f21.b_eq {R : Type} (L N : Nat) (κ : AV → Option R) (x0 : Graph) (x1 : Graph) :
    evBody (E21 L N) (evCallI (E21 L N) 1 2000) 1000 21 Tryz.f21 [(.tv (.st 2) x0), (.tv (.st 2) x1)] [] [] (finC (.many [(.sl i64), .bool]) κ)
    = f21.b L N (fun a0 a1 => κ (.tup [(.tv (.sl i64) a0), (.tv .bool a1)])) x0 x1 := by kernel_rfl
theorem f21.ok (L N : Nat) (hΦ : TellsOk Tryz.prog ((Φ55_1 L N))) : EntOk Tryz.prog 21 (f21.ent L N) := entDa_ok (E := (E21 L N)) (dep := 1000) (f := Tryz.f21) (sound_of hΦ) okP (callI_sound (sound_of hΦ) okP 1 2000) rfl fun d _ hy => (f21.b_eq L N (unR (.many [(.sl i64), .bool])) d.1 d.2.1).trans (Eq.trans (b := f21.b L N (fun a0 a1 => some (a0, a1)) d.1 d.2.1) (by kernel_rfl) hy)
def Φ21 (L N : Nat) : Tells := (addT (Φ55_1 L N) 21 (f21.ent L N))
theorem Φ21_ok (L N : Nat) : TellsOk Tryz.prog (Φ21 L N) := addT_ok (Φ55_1_ok L N) (f21.ok L N (Φ55_1_ok L N))
def f57.b' {R : Type} (L N : Nat) (k : LI → Int → Option R) (x0 : LI) : Option R :=
  bif (decide ((x0.length : Int) > (2000 : Int))) then
    bif (slB (0 : Int) (2000 : Int) x0.length) then
      k (slX x0 (0 : Int) (2000 : Int)) (0 : Int)
    else none
  else k x0 (0 : Int)
def f57.b {R : Type} (L N : Nat) (k : LI → Int → Option R) (x0 : LI) : Option R :=
  f57.b' L N k x0
def f57 (L N : Nat) (x0 : LI) : Option (LI × Int) := f57.b L N (fun a0 a1 => some (a0, a1)) x0
def f57.ent (L N : Nat) (args : List AV) (vw : View) (site : Nat) : Ans := match coeD [(.sl (.int .u8))] vw args with
  | some (d, u) => ⟨LI × Int, f57 L N d.1, fun y => (.ptr site 0, u ++ [(site, some (.box [(.tv (.sl (.int .u8)) y.1), (.tv i64 y.2)]))], [])⟩
  | none => Ans.no
noncomputable def E57 (L N : Nat) : Env := { P := Tryz.prog, ty := tyOf, Φ := (Φ21 L N), inl := inlT, live := lives, liveX := livesX, L := L, dp := none, prom := promT, heal := healT, ren := renT }
theorem f57.b_eq {R : Type} (L N : Nat) (κ : Dens [(.sl (.int .u8)), i64] → Option R) (x0 : LI) :
    evBody (E57 L N) (evCallI (E57 L N) 1 2000) 1000 57 Tryz.f57 [(.tv (.sl (.int .u8)) x0)] [] [] (finB [(.sl (.int .u8)), i64] κ)
    = f57.b L N (fun a0 a1 => κ (a0, a1, ())) x0 := by kernel_rfl
theorem f57.ok (L N : Nat) (hΦ : TellsOk Tryz.prog ((Φ21 L N))) : EntOk Tryz.prog 57 (f57.ent L N) := by
  intro args vw site h
  unfold f57.ent
  split
  · rename_i d u ha
    intro y hy hs
    refine call_newbox (y := y) (dep := 1000) (d1 := (y.1, y.2, ())) (E := (E57 L N)) (ts := [(.sl (.int .u8))]) (tb := [(.sl (.int .u8)), i64]) (κ := (fun d => some (d.1, d.2.1))) (sound_of hΦ) okP (callI_sound (sound_of hΦ) okP 1 2000) (f := Tryz.f57) rfl hs ha ?_ (fun _ h => by obtain rfl := Option.some.inj h; rfl) site
    exact (f57.b_eq L N (fun d => some (d.1, d.2.1)) d.1).trans (Eq.trans (b := f57.b L N (fun a0 a1 => some (a0, a1)) d.1) (by kernel_rfl) hy)
  · intro y hy
    cases hy
def Φ57 (L N : Nat) : Tells := (addT (Φ21 L N) 57 (f57.ent L N))
theorem Φ57_ok (L N : Nat) : TellsOk Tryz.prog (Φ57 L N) := addT_ok (Φ21_ok L N) (f57.ok L N (Φ21_ok L N))
def f85.j0' {R : Type} (L N : Nat) (k : Int → LI → Int → Option R) (v4 : Int) (v5 : LI) (v6 : Int) : Option R :=
  bif (decide ((wi (v6 - (1 : Int))) < (v5.length : Int))) then
    bif (decide (0 ≤ (wi (v6 - (1 : Int)))) && decide ((wi (v6 - (1 : Int))) < (v5.length : Int))) then
      bif (decide (v4 = 0)) then
        none
      else k (Int.tmod (wi ((listAt v5 (0 : Int) (wi (v6 - (1 : Int))).toNat))) v4) v5 v6
    else none
  else bif (decide ((v5.length : Int) = 0)) then
    none
  else bif (decide (0 ≤ (Int.tmod (wi (v6 - (1 : Int))) (v5.length : Int))) && decide ((Int.tmod (wi (v6 - (1 : Int))) (v5.length : Int)) < (v5.length : Int))) then
    bif (decide ((v5.length : Int) = 0)) then
      none
    else bif (decide (0 ≤ (Int.tmod (wi ((wi ((wi (v6 - (1 : Int))) * (7 : Int))) + (3 : Int))) (v5.length : Int))) && decide ((Int.tmod (wi ((wi ((wi (v6 - (1 : Int))) * (7 : Int))) + (3 : Int))) (v5.length : Int)) < (v5.length : Int))) then
      bif (decide ((v5.length : Int) = 0)) then
        none
      else bif (decide ((64 : Int) = 0)) then
        none
      else bif (decide (v4 = 0)) then
        none
      else k (Int.tmod (IntKind.wrap .i64 ((BitVec.ofInt (IntKind.bits .i64) (wi ((wi ((wi ((wi ((wi ((listAt v5 (0 : Int) (Int.tmod (wi (v6 - (1 : Int))) (v5.length : Int)).toNat))) * (131 : Int))) + (wi ((wi ((listAt v5 (0 : Int) (Int.tmod (wi ((wi ((wi (v6 - (1 : Int))) * (7 : Int))) + (3 : Int))) (v5.length : Int)).toNat))) * (1117 : Int))))) + (wi ((wi (v6 - (1 : Int))) * (29 : Int))))) + (wi ((wi (Int.tdiv (wi (v6 - (1 : Int))) (v5.length : Int))) * (53 : Int))))) ^^^ BitVec.ofInt (IntKind.bits .i64) (wi (Int.tdiv (wi ((wi ((wi ((wi ((wi ((listAt v5 (0 : Int) (Int.tmod (wi (v6 - (1 : Int))) (v5.length : Int)).toNat))) * (131 : Int))) + (wi ((wi ((listAt v5 (0 : Int) (Int.tmod (wi ((wi ((wi (v6 - (1 : Int))) * (7 : Int))) + (3 : Int))) (v5.length : Int)).toNat))) * (1117 : Int))))) + (wi ((wi (v6 - (1 : Int))) * (29 : Int))))) + (wi ((wi (Int.tdiv (wi (v6 - (1 : Int))) (v5.length : Int))) * (53 : Int))))) (64 : Int)))).toNat)) v4) v5 v6
    else none
  else none
def f85.b' {R : Type} (L N : Nat) (k : Int → LI → Int → Option R) (c0 : LI) (c1 : Int) (x0 : Int) : Option R :=
  bif (decide (x0 < (1 : Int))) then
    k (0 : Int) c0 (wi (c1 + (1 : Int)))
  else bif ((c0.length : Int) == (0 : Int)) then
    k (0 : Int) c0 (wi (c1 + (1 : Int)))
  else f85.j0' L N k x0 c0 (wi (c1 + (1 : Int)))
def f85.b {R : Type} (L N : Nat) (k : Int → LI → Int → Option R) (c0 : LI) (c1 : Int) (x0 : Int) : Option R :=
  f85.b' L N k c0 c1 x0
def f85 (L N : Nat) (c0 : LI) (c1 : Int) (x0 : Int) : Option (Int × LI × Int) := f85.b L N (fun a0 a1 a2 => some (a0, a1, a2)) c0 c1 x0
def f85.ent (L N : Nat) (args : List AV) (vw : View) (site : Nat) : Ans := match boxD [(.sl (.int .u8)), i64] [i64] vw args with
  | some (o, d0, d, u) => ⟨Int × LI × Int, f85 L N d0.1 d0.2.1 d.1, fun y => ((.tv i64 y.1), u ++ [(o, some (.box [(.tv (.sl (.int .u8)) y.2.1), (.tv i64 y.2.2)]))], [])⟩
  | none => Ans.no
noncomputable def E85 (L N : Nat) : Env := { P := Tryz.prog, ty := tyOf, Φ := (Φ57 L N), inl := inlT, live := lives, liveX := livesX, L := L, dp := none, prom := promT, heal := healT, ren := renT }
theorem f85.b_eq {R : Type} (L N : Nat) (κ : AV → Dens [(.sl (.int .u8)), i64] → Option R) (c0 : LI) (c1 : Int) (x0 : Int) :
    evBody (E85 L N) (evCallI (E85 L N) 1 2000) 1000 85 Tryz.f85 [(.ptr 0 0), (.tv i64 x0)] [.ptr 0 0] [(0, (.box [(.tv (.sl (.int .u8)) c0), (.tv i64 c1)]))] (finM (.one i64) [(.sl (.int .u8)), i64] κ)
    = f85.b L N (fun a0 a1 a2 => κ (.tv i64 a0) (a1, a2, ())) c0 c1 x0 := by kernel_rfl
theorem f85.ok (L N : Nat) (hΦ : TellsOk Tryz.prog ((Φ57 L N))) : EntOk Tryz.prog 85 (f85.ent L N) := by
  intro args vw site h
  unfold f85.ent
  split
  · rename_i o d0 d u ha
    intro y hy hs
    obtain ⟨rest, cs, rfl, ho, hd0, hr, hu⟩ := boxD_some ha
    refine call_box (y := y) (dep := 1000) (v' := (.tv i64 y.1)) (d1 := (y.2.1, y.2.2, ())) (E := (E85 L N)) (ts := [(.sl (.int .u8)), i64]) (tr := [i64]) (rs := (.one i64)) (κ := (fun v d => (unR (.one i64) v).bind fun x => some (x, d.1, d.2.1))) (sound_of hΦ) okP (callI_sound (sound_of hΦ) okP 1 2000) (f := Tryz.f85) rfl hs ho hd0 hr hu ?_ (fun _ _ h => by obtain ⟨x, h1, h2⟩ := unR_bind h; obtain rfl := Option.some.inj h2; exact ⟨h1, rfl⟩) site
    exact (f85.b_eq L N (fun v d => (unR (.one i64) v).bind fun x => some (x, d.1, d.2.1)) d0.1 d0.2.1 d.1).trans (Eq.trans (b := f85.b L N (fun a0 a1 a2 => some (a0, a1, a2)) d0.1 d0.2.1 d.1) (by kernel_rfl) hy)
  · intro y hy
    cases hy
def Φ85 (L N : Nat) : Tells := (addT (Φ57 L N) 85 (f85.ent L N))
theorem Φ85_ok (L N : Nat) : TellsOk Tryz.prog (Φ85 L N) := addT_ok (Φ57_ok L N) (f85.ok L N (Φ57_ok L N))
def f113.b' {R : Type} (L N : Nat) (k : Int → LI → Int → Option R) (c0 : LI) (c1 : Int) : Option R :=
  (f85 L N c0 c1 (3 : Int)).bind fun y0 =>
  bif (decide (y0.1 > (0 : Int))) then
    (f85 L N y0.2.1 y0.2.2 (5 : Int)).bind fun y1 =>
    k (wi (y1.1 - (2 : Int))) y1.2.1 y1.2.2
  else (f85 L N y0.2.1 y0.2.2 (9 : Int)).bind fun y2 =>
  k (wi (y2.1 - (4 : Int))) y2.2.1 y2.2.2
def f113.b {R : Type} (L N : Nat) (k : Int → LI → Int → Option R) (c0 : LI) (c1 : Int) : Option R :=
  f113.b' L N k c0 c1
def f113 (L N : Nat) (c0 : LI) (c1 : Int) : Option (Int × LI × Int) := f113.b L N (fun a0 a1 a2 => some (a0, a1, a2)) c0 c1
def f113.ent (L N : Nat) (args : List AV) (vw : View) (site : Nat) : Ans := match boxD [(.sl (.int .u8)), i64] [] vw args with
  | some (o, d0, d, u) => ⟨Int × LI × Int, f113 L N d0.1 d0.2.1, fun y => ((.tv i64 y.1), u ++ [(o, some (.box [(.tv (.sl (.int .u8)) y.2.1), (.tv i64 y.2.2)]))], [])⟩
  | none => Ans.no
noncomputable def E113 (L N : Nat) : Env := { P := Tryz.prog, ty := tyOf, Φ := (Φ85 L N), inl := inlT, live := lives, liveX := livesX, L := L, dp := none, prom := promT, heal := healT, ren := renT }
theorem f113.b_eq {R : Type} (L N : Nat) (κ : AV → Dens [(.sl (.int .u8)), i64] → Option R) (c0 : LI) (c1 : Int) :
    evBody (E113 L N) (evCallI (E113 L N) 1 2000) 1000 113 Tryz.f113 [(.ptr 0 0)] [.ptr 0 0] [(0, (.box [(.tv (.sl (.int .u8)) c0), (.tv i64 c1)]))] (finM (.one i64) [(.sl (.int .u8)), i64] κ)
    = f113.b L N (fun a0 a1 a2 => κ (.tv i64 a0) (a1, a2, ())) c0 c1 := by kernel_rfl
theorem f113.ok (L N : Nat) (hΦ : TellsOk Tryz.prog ((Φ85 L N))) : EntOk Tryz.prog 113 (f113.ent L N) := by
  intro args vw site h
  unfold f113.ent
  split
  · rename_i o d0 d u ha
    intro y hy hs
    obtain ⟨rest, cs, rfl, ho, hd0, hr, hu⟩ := boxD_some ha
    refine call_box (y := y) (dep := 1000) (v' := (.tv i64 y.1)) (d1 := (y.2.1, y.2.2, ())) (E := (E113 L N)) (ts := [(.sl (.int .u8)), i64]) (tr := []) (rs := (.one i64)) (κ := (fun v d => (unR (.one i64) v).bind fun x => some (x, d.1, d.2.1))) (sound_of hΦ) okP (callI_sound (sound_of hΦ) okP 1 2000) (f := Tryz.f113) rfl hs ho hd0 hr hu ?_ (fun _ _ h => by obtain ⟨x, h1, h2⟩ := unR_bind h; obtain rfl := Option.some.inj h2; exact ⟨h1, rfl⟩) site
    exact (f113.b_eq L N (fun v d => (unR (.one i64) v).bind fun x => some (x, d.1, d.2.1)) d0.1 d0.2.1).trans (Eq.trans (b := f113.b L N (fun a0 a1 a2 => some (a0, a1, a2)) d0.1 d0.2.1) (by kernel_rfl) hy)
  · intro y hy
    cases hy
def Φ113 (L N : Nat) : Tells := (addT (Φ85 L N) 113 (f113.ent L N))
theorem Φ113_ok (L N : Nat) : TellsOk Tryz.prog (Φ113 L N) := addT_ok (Φ85_ok L N) (f113.ok L N (Φ85_ok L N))
def f138.j0' {R : Type} (L N : Nat) (self138 : LI → Int → Int → Int → Bool → Option (Tree × LI × Int)) (k : Tree → LI → Int → Option R) (v10 : Int) (v11 : Int) (v12 : Bool) (v13 : Int) (v14 : Bool) (v15 : LI) (v16 : Int) (v17 : Int) (v18 : Int) : Option R :=
  bif v14 then
    (f85 L N v15 v16 v11).bind fun y19 =>
    k (Tree.mk (5 : Int) y19.1 []) y19.2.1 y19.2.2
  else bif (v13 == (0 : Int)) then
    k (Tree.mk (0 : Int) (0 : Int) []) v15 v16
  else bif (decide (v13 < (5 : Int))) then
    (f113 L N v15 v16).bind fun y20 =>
    bif (v10 == (0 : Int)) then
      k (Tree.mk (1 : Int) y20.1 ([(Tree.mk (0 : Int) (0 : Int) [])] : LT)) y20.2.1 y20.2.2
    else (self138 y20.2.1 y20.2.2 (bif decide ((wi (v10 - (1 : Int))) > (0 : Int)) then (wi (v10 - (1 : Int))) else (0 : Int)) v11 true).bind fun y21 =>
    k (Tree.mk (1 : Int) y20.1 ([y21.1] : LT)) y21.2.1 y21.2.2
  else bif (v13 == (5 : Int)) then
    (f85 L N v15 v16 (4 : Int)).bind fun y22 =>
    (self138 y22.2.1 y22.2.2 (wi (v10 - (1 : Int))) v11 v12).bind fun y23 =>
    k (Tree.mk (4 : Int) y22.1 ([y23.1] : LT)) y23.2.1 y23.2.2
  else bif (v13 == (8 : Int)) then
    (self138 v15 v16 (wi (v10 - (1 : Int))) v11 v12).bind fun y34 =>
    (self138 y34.2.1 y34.2.2 (wi (v10 - (1 : Int))) v11 v12).bind fun y35 =>
    k (Tree.mk (3 : Int) (0 : Int) ([(Tree.mk y34.1.op y34.1.n y34.1.parts), (Tree.mk y35.1.op y35.1.n y35.1.parts)] : LT)) y35.2.1 y35.2.2
  else (self138 v15 v16 (wi (v10 - (1 : Int))) v11 v12).bind fun y36 =>
  (self138 y36.2.1 y36.2.2 (wi (v10 - (1 : Int))) v11 v12).bind fun y37 =>
  k (Tree.mk (2 : Int) (0 : Int) ([(Tree.mk y36.1.op y36.1.n y36.1.parts), (Tree.mk y37.1.op y37.1.n y37.1.parts)] : LT)) y37.2.1 y37.2.2
def f138.j1' {R : Type} (L N : Nat) (self138 : LI → Int → Int → Int → Bool → Option (Tree × LI × Int)) (k : Tree → LI → Int → Option R) (v2 : Int) (v3 : Int) (v4 : Bool) (v5 : Int) (v6 : LI) (v7 : Int) (v8 : Int) (v9 : Int) : Option R :=
  bif (decide (v5 < (2 : Int))) then
    bif (decide (v3 > (0 : Int))) then
      f138.j0' L N self138 k v2 v3 v4 v5 v4 v6 v7 v8 v9
    else f138.j0' L N self138 k v2 v3 v4 v5 false v6 v7 v8 v9
  else f138.j0' L N self138 k v2 v3 v4 v5 false v6 v7 v8 v9
def f138.b' {R : Type} (L N : Nat) (self138 : LI → Int → Int → Int → Bool → Option (Tree × LI × Int)) (k : Tree → LI → Int → Option R) (c0 : LI) (c1 : Int) (x0 : Int) (x1 : Int) (x2 : Bool) : Option R :=
  (f85 L N c0 c1 (9 : Int)).bind fun y0 =>
  bif (x0 == (0 : Int)) then
    (f85 L N y0.2.1 y0.2.2 (2 : Int)).bind fun y1 =>
    f138.j1' L N self138 k x0 x1 x2 y1.1 y1.2.1 y1.2.2 (0 : Int) (0 : Int)
  else f138.j1' L N self138 k x0 x1 x2 y0.1 y0.2.1 y0.2.2 (0 : Int) (0 : Int)
def f138.b {R : Type} (L N : Nat) (self138 : LI → Int → Int → Int → Bool → Option (Tree × LI × Int)) (k : Tree → LI → Int → Option R) (c0 : LI) (c1 : Int) (x0 : Int) (x1 : Int) (x2 : Bool) : Option R :=
  f138.b' L N self138 k c0 c1 x0 x1 x2
def f138 (L N : Nat) : Nat → LI → Int → Int → Int → Bool → Option (Tree × LI × Int)
  | 0, _, _, _, _, _ => none
  | n + 1, c0, c1, x0, x1, x2 => f138.b L N (f138 L N n) (fun a0 a1 a2 => some (a0, a1, a2)) c0 c1 x0 x1 x2
def f138.ent (L N m : Nat) (args : List AV) (vw : View) (site : Nat) : Ans := match boxD [(.sl (.int .u8)), i64] [i64, i64, .bool] vw args with
  | some (o, d0, d, u) => ⟨Tree × LI × Int, f138 L N m d0.1 d0.2.1 d.1 d.2.1 d.2.2.1, fun y => ((.tv (.st 1) y.1), u ++ [(o, some (.box [(.tv (.sl (.int .u8)) y.2.1), (.tv i64 y.2.2)]))], [])⟩
  | none => Ans.no
def Φ138s (L N m : Nat) : Tells := (addT (Φ113 L N) 138 (f138.ent L N m))
noncomputable def E138 (L N m : Nat) : Env := { P := Tryz.prog, ty := tyOf, Φ := Φ138s L N m, inl := inlT, live := lives, liveX := livesX, L := L, dp := none, prom := promT, heal := healT, ren := renT }
theorem f138.b_eq {R : Type} (L N m : Nat) (κ : AV → Dens [(.sl (.int .u8)), i64] → Option R) (c0 : LI) (c1 : Int) (x0 : Int) (x1 : Int) (x2 : Bool) :
    evBody (E138 L N m) (evCallI (E138 L N m) 1 2000) 1000 138 Tryz.f138 [(.ptr 0 0), (.tv i64 x0), (.tv i64 x1), (.tv .bool x2)] [.ptr 0 0] [(0, (.box [(.tv (.sl (.int .u8)) c0), (.tv i64 c1)]))] (finM (.one (.st 1)) [(.sl (.int .u8)), i64] κ)
    = f138.b L N (f138 L N m) (fun a0 a1 a2 => κ (.tv (.st 1) a0) (a1, a2, ())) c0 c1 x0 x1 x2 := by kernel_rfl
theorem f138.ok (L N m : Nat) (hΦ : TellsOk Tryz.prog (Φ138s L N m)) : EntOk Tryz.prog 138 (f138.ent L N (m + 1)) := by
  intro args vw site h
  unfold f138.ent
  split
  · rename_i o d0 d u ha
    intro y hy hs
    obtain ⟨rest, cs, rfl, ho, hd0, hr, hu⟩ := boxD_some ha
    refine call_box (y := y) (dep := 1000) (v' := (.tv (.st 1) y.1)) (d1 := (y.2.1, y.2.2, ())) (E := (E138 L N m)) (ts := [(.sl (.int .u8)), i64]) (tr := [i64, i64, .bool]) (rs := (.one (.st 1))) (κ := (fun v d => (unR (.one (.st 1)) v).bind fun x => some (x, d.1, d.2.1))) (sound_of hΦ) okP (callI_sound (sound_of hΦ) okP 1 2000) (f := Tryz.f138) rfl hs ho hd0 hr hu ?_ (fun _ _ h => by obtain ⟨x, h1, h2⟩ := unR_bind h; obtain rfl := Option.some.inj h2; exact ⟨h1, rfl⟩) site
    exact (f138.b_eq L N m (fun v d => (unR (.one (.st 1)) v).bind fun x => some (x, d.1, d.2.1)) d0.1 d0.2.1 d.1 d.2.1 d.2.2.1).trans (Eq.trans (b := f138.b L N (f138 L N m) (fun a0 a1 a2 => some (a0, a1, a2)) d0.1 d0.2.1 d.1 d.2.1 d.2.2.1) (by kernel_rfl) hy)
  · intro y hy
    cases hy
theorem Φ138s_ok (L N : Nat) : ∀ m, TellsOk Tryz.prog (Φ138s L N m) := by
  intro m
  induction m with
  | zero => exact (addT_ok (Φ113_ok L N) (fun args vw site h => by unfold f138.ent; split <;> (intro y hy; cases hy)))
  | succ m ih => exact (addT_ok (Φ113_ok L N) (f138.ok L N m ih))
def Φ138 (L N : Nat) : Tells := (addT (Φ113 L N) 138 (f138.ent L N N))
theorem Φ138_ok (L N : Nat) : TellsOk Tryz.prog (Φ138 L N) := Φ138s_ok L N N
def f109.s0' {R : Type} (L N : Nat) (k0_e0 : Int → LI → Int → LT → Option R) (rec0 : Int → Int → LI → Int → LT → Option R) (s1 : Int) (s2 : Int) (s3 : LI) (s4 : Int) (s5 : LT) : Option R :=
  bif (decide (s2 < s1)) then
    (f85 L N s3 s4 (3 : Int)).bind fun y10 =>
    (f138 L N N y10.2.1 y10.2.2 (wi ((1 : Int) + y10.1)) s1 false).bind fun y11 =>
    bif (decide (s5.length + ([y11.1] : LT).length ≤ lim)) then
      rec0 s1 (wi (s2 + (1 : Int))) y11.2.1 y11.2.2 (s5 ++ ([y11.1] : LT))
    else none
  else k0_e0 s1 s3 s4 s5
def f109.s0 {R : Type} (L N : Nat) (k0_e0 : Int → LI → Int → LT → Option R) (rec0 : Int → Int → LI → Int → LT → Option R) (s1 : Int) (s2 : Int) (s3 : LI) (s4 : Int) (s5 : LT) : Option R :=
  f109.s0' L N k0_e0 rec0 s1 s2 s3 s4 s5
def f109.l0 {R : Type} (L N : Nat) (k0_e0 : Int → LI → Int → LT → Option R) : Nat → Int → Int → LI → Int → LT → Option R
  | 0, _, _, _, _, _ => none
  | n + 1, s1, s2, s3, s4, s5 => f109.s0 L N k0_e0 (f109.l0 L N k0_e0 n) s1 s2 s3 s4 s5
def f109.T0 (s1 : Int) (s2 : Int) (s3 : LI) (s4 : Int) (s5 : LT) : T := mkT 41 [(0, (.ptr 0 0)), (3, (.tv i64 s1)), (4, (.row 1008)), (5, (.tv i64 s2))] ++ [.ptr 0 0]
def f109.H0 (s1 : Int) (s2 : Int) (s3 : LI) (s4 : Int) (s5 : LT) : H := [(0, (.box [(.tv (.sl (.int .u8)) s3), (.tv i64 s4)])), (1008, (.row 107 (.st 1) s5))]
def f109.T0_e0 (z6 : Int) (z7 : LI) (z8 : Int) (z9 : LT) : T := mkT 41 [(0, (.ptr 0 0)), (3, (.tv i64 z6)), (4, (.row 1008))] ++ [.ptr 0 0]
def f109.H0_e0 (z6 : Int) (z7 : LI) (z8 : Int) (z9 : LT) : H := [(0, (.box [(.tv (.sl (.int .u8)) z7), (.tv i64 z8)])), (1008, (.row 107 (.st 1) z9))]
def f109.j0' {R : Type} (L N : Nat) (k : LT → LI → Int → Option R) (v13 : Int) (v14 : Bool) (v15 : LI) (v16 : Int) (v17 : LT) : Option R :=
  bif v14 then
    (f85 L N v15 v16 v13).bind fun y18 =>
    (f85 L N y18.2.1 y18.2.2 (wi (v13 + (1 : Int)))).bind fun y19 =>
    bif (decide (0 ≤ y18.1) && decide (y18.1 < (v17.length : Int))) then
      k (v17.set y18.1.toNat (Tree.mk (5 : Int) y19.1 [])) y19.2.1 y19.2.2
    else none
  else k v17 v15 v16
def f109.p0_e0' {R : Type} (L N : Nat) (k : LT → LI → Int → Option R) (z6 : Int) (z7 : LI) (z8 : Int) (z9 : LT) : Option R :=
  bif (decide (z6 > (0 : Int))) then
    (f85 L N z7 z8 (20 : Int)).bind fun y12 =>
    f109.j0' L N k z6 (y12.1 == (0 : Int)) y12.2.1 y12.2.2 z9
  else f109.j0' L N k z6 false z7 z8 z9
def f109.p0_e0 {R : Type} (L N : Nat) (k : LT → LI → Int → Option R) (z6 : Int) (z7 : LI) (z8 : Int) (z9 : LT) : Option R :=
  f109.p0_e0' L N k z6 z7 z8 z9
def f109.b' {R : Type} (L N : Nat) (k : LT → LI → Int → Option R) (w0 : Int → Int → LI → Int → LT → Option R) (c0 : LI) (c1 : Int) : Option R :=
  (f85 L N c0 c1 (4 : Int)).bind fun y0 =>
  w0 y0.1 (0 : Int) y0.2.1 y0.2.2 ([] : LT)
def f109.b {R : Type} (L N : Nat) (k : LT → LI → Int → Option R) (c0 : LI) (c1 : Int) : Option R :=
  f109.b' L N k (fun s1 s2 s3 s4 s5 => f109.l0 L N (fun z6 z7 z8 z9 => f109.p0_e0 L N k z6 z7 z8 z9) L s1 s2 s3 s4 s5) c0 c1
def f109 (L N : Nat) (c0 : LI) (c1 : Int) : Option (LT × LI × Int) := f109.b L N (fun a0 a1 a2 => some (a0, a1, a2)) c0 c1
def f109.ent (L N : Nat) (args : List AV) (vw : View) (site : Nat) : Ans := match boxD [(.sl (.int .u8)), i64] [] vw args with
  | some (o, d0, d, u) => ⟨LT × LI × Int, f109 L N d0.1 d0.2.1, fun y => ((.tv (.sl (.st 1)) y.1), u ++ [(o, some (.box [(.tv (.sl (.int .u8)) y.2.1), (.tv i64 y.2.2)]))], [])⟩
  | none => Ans.no
noncomputable def E109 (L N : Nat) : Env := { P := Tryz.prog, ty := tyOf, Φ := (Φ138 L N), inl := inlT, live := lives, liveX := livesX, L := L, dp := none, prom := promT, heal := healT, ren := renT }
noncomputable def f109.c0 : Code := loopAt 0 (codeOf Tryz.f109)
def f109.X0_e0 {R : Type} (κ : KX R) := fun z6 z7 z8 z9 => κ (.exit 0) (f109.T0_e0 z6 z7 z8 z9) (f109.H0_e0 z6 z7 z8 z9)
def f109.R0 {R : Type} (rec : KT R) := fun s1 s2 s3 s4 s5 => rec (f109.T0 s1 s2 s3 s4 s5) (f109.H0 s1 s2 s3 s4 s5)
theorem f109.s0_eq {R : Type} (L N : Nat) (κ : KX R) (rec : KT R) (s1 : Int) (s2 : Int) (s3 : LI) (s4 : Int) (s5 : LT) :
    evRd (E109 L N) (evCallI (E109 L N) 1 2000) 1000 109 41 0 f109.c0 κ rec (f109.T0 s1 s2 s3 s4 s5) (f109.H0 s1 s2 s3 s4 s5)
    = f109.s0 L N (f109.X0_e0 κ) (f109.R0 rec) s1 s2 s3 s4 s5 := by kernel_rfl
theorem f109.l0_eq {R : Type} (L N : Nat) (κ : KX R) : ∀ (n : Nat) (s1 : Int) (s2 : Int) (s3 : LI) (s4 : Int) (s5 : LT),
    evLp (E109 L N) (evCallI (E109 L N) 1 2000) 1000 109 41 0 f109.c0 κ n (f109.T0 s1 s2 s3 s4 s5) (f109.H0 s1 s2 s3 s4 s5)
    = f109.l0 L N (f109.X0_e0 κ) n s1 s2 s3 s4 s5 := by
  intro n
  induction n with
  | zero => intros; rfl
  | succ n ih =>
    intro s1 s2 s3 s4 s5
    rw [evLp_succ, f109.s0_eq]
    delta f109.R0
    simp only [ih]
    rfl
theorem f109.p0_e0_eq {R : Type} (L N : Nat) (κ : AV → Dens [(.sl (.int .u8)), i64] → Option R) (z6 : Int) (z7 : LI) (z8 : Int) (z9 : LT) :
    (contAt (E109 L N) (evCallI (E109 L N) 1 2000) 1000 109 41 0 (codeOf Tryz.f109) (finK (E109 L N) 1000 Tryz.f109 (finM (.one (.sl (.st 1))) [(.sl (.int .u8)), i64] κ))) (.exit 0) (f109.T0_e0 z6 z7 z8 z9) (f109.H0_e0 z6 z7 z8 z9)
    = f109.p0_e0 L N (fun a0 a1 a2 => κ (.tv (.sl (.st 1)) a0) (a1, a2, ())) z6 z7 z8 z9 := by kernel_rfl
theorem f109.b_eq {R : Type} (L N : Nat) (κ : AV → Dens [(.sl (.int .u8)), i64] → Option R) (c0 : LI) (c1 : Int) :
    evBody (E109 L N) (evCallI (E109 L N) 1 2000) 1000 109 Tryz.f109 [(.ptr 0 0)] [.ptr 0 0] [(0, (.box [(.tv (.sl (.int .u8)) c0), (.tv i64 c1)]))] (finM (.one (.sl (.st 1))) [(.sl (.int .u8)), i64] κ)
    = f109.b L N (fun a0 a1 a2 => κ (.tv (.sl (.st 1)) a0) (a1, a2, ())) c0 c1 := by
  refine Eq.trans (b := f109.b' L N (fun a0 a1 a2 => κ (.tv (.sl (.st 1)) a0) (a1, a2, ())) (fun s1 s2 s3 s4 s5 => evLp (E109 L N) (evCallI (E109 L N) 1 2000) 1000 109 41 0 f109.c0 (contAt (E109 L N) (evCallI (E109 L N) 1 2000) 1000 109 41 0 (codeOf Tryz.f109) (finK (E109 L N) 1000 Tryz.f109 (finM (.one (.sl (.st 1))) [(.sl (.int .u8)), i64] κ))) L (f109.T0 s1 s2 s3 s4 s5) (f109.H0 s1 s2 s3 s4 s5)) c0 c1) (by kernel_rfl) ?_
  unfold f109.b
  simp only [f109.l0_eq]
  delta f109.X0_e0
  simp only [f109.p0_e0_eq]
theorem f109.ok (L N : Nat) (hΦ : TellsOk Tryz.prog ((Φ138 L N))) : EntOk Tryz.prog 109 (f109.ent L N) := by
  intro args vw site h
  unfold f109.ent
  split
  · rename_i o d0 d u ha
    intro y hy hs
    obtain ⟨rest, cs, rfl, ho, hd0, hr, hu⟩ := boxD_some ha
    refine call_box (y := y) (dep := 1000) (v' := (.tv (.sl (.st 1)) y.1)) (d1 := (y.2.1, y.2.2, ())) (E := (E109 L N)) (ts := [(.sl (.int .u8)), i64]) (tr := []) (rs := (.one (.sl (.st 1)))) (κ := (fun v d => (unR (.one (.sl (.st 1))) v).bind fun x => some (x, d.1, d.2.1))) (sound_of hΦ) okP (callI_sound (sound_of hΦ) okP 1 2000) (f := Tryz.f109) rfl hs ho hd0 hr hu ?_ (fun _ _ h => by obtain ⟨x, h1, h2⟩ := unR_bind h; obtain rfl := Option.some.inj h2; exact ⟨h1, rfl⟩) site
    exact (f109.b_eq L N (fun v d => (unR (.one (.sl (.st 1))) v).bind fun x => some (x, d.1, d.2.1)) d0.1 d0.2.1).trans (Eq.trans (b := f109.b L N (fun a0 a1 a2 => some (a0, a1, a2)) d0.1 d0.2.1) (by kernel_rfl) hy)
  · intro y hy
    cases hy
def Φ109 (L N : Nat) : Tells := (addT (Φ138 L N) 109 (f109.ent L N))
theorem Φ109_ok (L N : Nat) : TellsOk Tryz.prog (Φ109 L N) := addT_ok (Φ138_ok L N) (f109.ok L N (Φ138_ok L N))
def f110.b' {R : Type} (L N : Nat) (k : Tree → LI → Int → Option R) (c0 : LI) (c1 : Int) (x0 : Int) : Option R :=
  (f85 L N c0 c1 (4 : Int)).bind fun y0 =>
  (f138 L N N y0.2.1 y0.2.2 (wi ((1 : Int) + y0.1)) x0 false).bind fun y1 =>
  (f85 L N y1.2.1 y1.2.2 (24 : Int)).bind fun y2 =>
  bif (y2.1 == (0 : Int)) then
    k (Tree.mk ((Tree.mk y1.1.op (wi (y1.1.n + (7 : Int))) y1.1.parts).op) ((Tree.mk y1.1.op (wi (y1.1.n + (7 : Int))) y1.1.parts).n) ((Tree.mk y1.1.op (wi (y1.1.n + (7 : Int))) y1.1.parts).parts)) y2.2.1 y2.2.2
  else bif (y2.1 == (1 : Int)) then
    (f85 L N y2.2.1 y2.2.2 (8 : Int)).bind fun y3 =>
    k (Tree.mk ((Tree.mk y3.1 y1.1.n y1.1.parts).op) ((Tree.mk y3.1 y1.1.n y1.1.parts).n) ((Tree.mk y3.1 y1.1.n y1.1.parts).parts)) y3.2.1 y3.2.2
  else bif (y2.1 == (2 : Int)) then
    bif (decide (([(Tree.mk (0 : Int) (0 : Int) [])] : LT).length + y1.1.parts.length ≤ lim)) then
      k (Tree.mk y1.1.op y1.1.n (([(Tree.mk (0 : Int) (0 : Int) [])] : LT) ++ y1.1.parts)) y2.2.1 y2.2.2
    else none
  else k (Tree.mk ((Tree.mk y1.1.op y1.1.n y1.1.parts).op) ((Tree.mk y1.1.op y1.1.n y1.1.parts).n) ((Tree.mk y1.1.op y1.1.n y1.1.parts).parts)) y2.2.1 y2.2.2
def f110.b {R : Type} (L N : Nat) (k : Tree → LI → Int → Option R) (c0 : LI) (c1 : Int) (x0 : Int) : Option R :=
  f110.b' L N k c0 c1 x0
def f110 (L N : Nat) (c0 : LI) (c1 : Int) (x0 : Int) : Option (Tree × LI × Int) := f110.b L N (fun a0 a1 a2 => some (a0, a1, a2)) c0 c1 x0
def f110.ent (L N : Nat) (args : List AV) (vw : View) (site : Nat) : Ans := match boxD [(.sl (.int .u8)), i64] [i64] vw args with
  | some (o, d0, d, u) => ⟨Tree × LI × Int, f110 L N d0.1 d0.2.1 d.1, fun y => ((.tv (.st 1) y.1), u ++ [(o, some (.box [(.tv (.sl (.int .u8)) y.2.1), (.tv i64 y.2.2)]))], [])⟩
  | none => Ans.no
noncomputable def E110 (L N : Nat) : Env := { P := Tryz.prog, ty := tyOf, Φ := (Φ109 L N), inl := inlT, live := lives, liveX := livesX, L := L, dp := none, prom := promT, heal := healT, ren := renT }
theorem f110.b_eq {R : Type} (L N : Nat) (κ : AV → Dens [(.sl (.int .u8)), i64] → Option R) (c0 : LI) (c1 : Int) (x0 : Int) :
    evBody (E110 L N) (evCallI (E110 L N) 1 2000) 1000 110 Tryz.f110 [(.ptr 0 0), (.tv i64 x0)] [.ptr 0 0] [(0, (.box [(.tv (.sl (.int .u8)) c0), (.tv i64 c1)]))] (finM (.one (.st 1)) [(.sl (.int .u8)), i64] κ)
    = f110.b L N (fun a0 a1 a2 => κ (.tv (.st 1) a0) (a1, a2, ())) c0 c1 x0 := by kernel_rfl
theorem f110.ok (L N : Nat) (hΦ : TellsOk Tryz.prog ((Φ109 L N))) : EntOk Tryz.prog 110 (f110.ent L N) := by
  intro args vw site h
  unfold f110.ent
  split
  · rename_i o d0 d u ha
    intro y hy hs
    obtain ⟨rest, cs, rfl, ho, hd0, hr, hu⟩ := boxD_some ha
    refine call_box (y := y) (dep := 1000) (v' := (.tv (.st 1) y.1)) (d1 := (y.2.1, y.2.2, ())) (E := (E110 L N)) (ts := [(.sl (.int .u8)), i64]) (tr := [i64]) (rs := (.one (.st 1))) (κ := (fun v d => (unR (.one (.st 1)) v).bind fun x => some (x, d.1, d.2.1))) (sound_of hΦ) okP (callI_sound (sound_of hΦ) okP 1 2000) (f := Tryz.f110) rfl hs ho hd0 hr hu ?_ (fun _ _ h => by obtain ⟨x, h1, h2⟩ := unR_bind h; obtain rfl := Option.some.inj h2; exact ⟨h1, rfl⟩) site
    exact (f110.b_eq L N (fun v d => (unR (.one (.st 1)) v).bind fun x => some (x, d.1, d.2.1)) d0.1 d0.2.1 d.1).trans (Eq.trans (b := f110.b L N (fun a0 a1 a2 => some (a0, a1, a2)) d0.1 d0.2.1 d.1) (by kernel_rfl) hy)
  · intro y hy
    cases hy
def Φ110 (L N : Nat) : Tells := (addT (Φ109 L N) 110 (f110.ent L N))
theorem Φ110_ok (L N : Nat) : TellsOk Tryz.prog (Φ110 L N) := addT_ok (Φ109_ok L N) (f110.ok L N (Φ109_ok L N))
def f86.j0' {R : Type} (L N : Nat) (k : Tree → LT → LI → Int → Option R) (v3 : LT) (v4 : Bool) (v5 : LI) (v6 : Int) (v7 : Int) (v8 : Int) (v9 : Int) (v10 : Int) (v11 : LT) : Option R :=
  bif v4 then
    (f85 L N v5 v6 (v3.length : Int)).bind fun y12 =>
    k (Tree.mk (5 : Int) y12.1 []) v3 y12.2.1 y12.2.2
  else k (Tree.mk ((Tree.mk v9 v10 v11).op) ((Tree.mk v9 v10 v11).n) ((Tree.mk v9 v10 v11).parts)) v3 v5 v6
def f86.b' {R : Type} (L N : Nat) (k : Tree → LT → LI → Int → Option R) (c0 : LI) (c1 : Int) : Option R :=
  (f109 L N c0 c1).bind fun y0 =>
  (f110 L N y0.2.1 y0.2.2 (y0.1.length : Int)).bind fun y1 =>
  bif (decide ((y0.1.length : Int) > (0 : Int))) then
    (f85 L N y1.2.1 y1.2.2 (3 : Int)).bind fun y2 =>
    f86.j0' L N k y0.1 (y2.1 == (0 : Int)) y2.2.1 y2.2.2 (0 : Int) (0 : Int) y1.1.op y1.1.n y1.1.parts
  else f86.j0' L N k y0.1 false y1.2.1 y1.2.2 (0 : Int) (0 : Int) y1.1.op y1.1.n y1.1.parts
def f86.b {R : Type} (L N : Nat) (k : Tree → LT → LI → Int → Option R) (c0 : LI) (c1 : Int) : Option R :=
  f86.b' L N k c0 c1
def f86 (L N : Nat) (c0 : LI) (c1 : Int) : Option (Tree × LT × LI × Int) := f86.b L N (fun a0 a1 a2 a3 => some (a0, a1, a2, a3)) c0 c1
def f86.ent (L N : Nat) (args : List AV) (vw : View) (site : Nat) : Ans := match boxD [(.sl (.int .u8)), i64] [] vw args with
  | some (o, d0, d, u) => ⟨Tree × LT × LI × Int, f86 L N d0.1 d0.2.1, fun y => ((.tup [(.tv (.st 1) y.1), (.tv (.sl (.st 1)) y.2.1)]), u ++ [(o, some (.box [(.tv (.sl (.int .u8)) y.2.2.1), (.tv i64 y.2.2.2)]))], [])⟩
  | none => Ans.no
noncomputable def E86 (L N : Nat) : Env := { P := Tryz.prog, ty := tyOf, Φ := (Φ110 L N), inl := inlT, live := lives, liveX := livesX, L := L, dp := none, prom := promT, heal := healT, ren := renT }
theorem f86.b_eq {R : Type} (L N : Nat) (κ : AV → Dens [(.sl (.int .u8)), i64] → Option R) (c0 : LI) (c1 : Int) :
    evBody (E86 L N) (evCallI (E86 L N) 1 2000) 1000 86 Tryz.f86 [(.ptr 0 0)] [.ptr 0 0] [(0, (.box [(.tv (.sl (.int .u8)) c0), (.tv i64 c1)]))] (finM (.many [(.st 1), (.sl (.st 1))]) [(.sl (.int .u8)), i64] κ)
    = f86.b L N (fun a0 a1 a2 a3 => κ (.tup [(.tv (.st 1) a0), (.tv (.sl (.st 1)) a1)]) (a2, a3, ())) c0 c1 := by kernel_rfl
theorem f86.ok (L N : Nat) (hΦ : TellsOk Tryz.prog ((Φ110 L N))) : EntOk Tryz.prog 86 (f86.ent L N) := by
  intro args vw site h
  unfold f86.ent
  split
  · rename_i o d0 d u ha
    intro y hy hs
    obtain ⟨rest, cs, rfl, ho, hd0, hr, hu⟩ := boxD_some ha
    refine call_box (y := y) (dep := 1000) (v' := (.tup [(.tv (.st 1) y.1), (.tv (.sl (.st 1)) y.2.1)])) (d1 := (y.2.2.1, y.2.2.2, ())) (E := (E86 L N)) (ts := [(.sl (.int .u8)), i64]) (tr := []) (rs := (.many [(.st 1), (.sl (.st 1))])) (κ := (fun v d => (unR (.many [(.st 1), (.sl (.st 1))]) v).bind fun x => some (x.1, x.2, d.1, d.2.1))) (sound_of hΦ) okP (callI_sound (sound_of hΦ) okP 1 2000) (f := Tryz.f86) rfl hs ho hd0 hr hu ?_ (fun _ _ h => by obtain ⟨x, h1, h2⟩ := unR_bind h; obtain rfl := Option.some.inj h2; exact ⟨h1, rfl⟩) site
    exact (f86.b_eq L N (fun v d => (unR (.many [(.st 1), (.sl (.st 1))]) v).bind fun x => some (x.1, x.2, d.1, d.2.1)) d0.1 d0.2.1).trans (Eq.trans (b := f86.b L N (fun a0 a1 a2 a3 => some (a0, a1, a2, a3)) d0.1 d0.2.1) (by kernel_rfl) hy)
  · intro y hy
    cases hy
def Φ86 (L N : Nat) : Tells := (addT (Φ110 L N) 86 (f86.ent L N))
theorem Φ86_ok (L N : Nat) : TellsOk Tryz.prog (Φ86 L N) := addT_ok (Φ110_ok L N) (f86.ok L N (Φ110_ok L N))
def f32.b' {R : Type} (L N : Nat) (k : Bool → Option R) (x0 : Int) (x1 : Int) (x2 : Int) : Option R :=
  bif (decide (x0 ≥ x1)) then
    k (decide (x0 ≤ x2))
  else k false
def f32.b {R : Type} (L N : Nat) (k : Bool → Option R) (x0 : Int) (x1 : Int) (x2 : Int) : Option R :=
  f32.b' L N k x0 x1 x2
def f32 (L N : Nat) (x0 : Int) (x1 : Int) (x2 : Int) : Option (Bool) := f32.b L N some x0 x1 x2
def f32.ent (L N : Nat) := entRo [i64, i64, i64] (.one .bool) fun d => f32 L N d.1 d.2.1 d.2.2.1
noncomputable def E32 (L N : Nat) : Env := { P := Tryz.prog, ty := tyOf, Φ := (Φ86 L N), inl := inlT, live := lives, liveX := livesX, L := L, dp := none, prom := promT, heal := healT, ren := renT }
theorem f32.b_eq {R : Type} (L N : Nat) (κ : AV → Option R) (x0 : Int) (x1 : Int) (x2 : Int) :
    evBody (E32 L N) (evCallI (E32 L N) 1 2000) 1000 32 Tryz.f32 [(.tv i64 x0), (.tv i64 x1), (.tv i64 x2)] [] [] (finC (.one .bool) κ)
    = f32.b L N (fun a0 => κ (.tv .bool a0)) x0 x1 x2 := by kernel_rfl
theorem f32.ok (L N : Nat) (hΦ : TellsOk Tryz.prog ((Φ86 L N))) : EntOk Tryz.prog 32 (f32.ent L N) := entRo_ok (E := (E32 L N)) (dep := 1000) (f := Tryz.f32) (sound_of hΦ) okP (callI_sound (sound_of hΦ) okP 1 2000) rfl rfl fun d _ hy => (f32.b_eq L N (unR (.one .bool)) d.1 d.2.1 d.2.2.1).trans (Eq.trans (b := f32.b L N some d.1 d.2.1 d.2.2.1) (by kernel_rfl) hy)
def Φ32 (L N : Nat) : Tells := (addT (Φ86 L N) 32 (f32.ent L N))
theorem Φ32_ok (L N : Nat) : TellsOk Tryz.prog (Φ32 L N) := addT_ok (Φ86_ok L N) (f32.ok L N (Φ86_ok L N))
def f158.j0' {R : Type} (L N : Nat) (self158 : Tree → Bool → Option (Int)) (k0_e0 : Int → Option R) (rec0 : Bool → Int → Int → Int → Int → LT → Option R) (v14 : Bool) (v15 : Int) (v16 : Int) (v17 : Int) (v18 : Int) (v19 : LT) : Option R :=
  bif (decide (0 ≤ v16) && decide (v16 < (v19.length : Int))) then
    (self158 (listAt v19 (Ty.dflt (.st 1)) v16.toNat) v14).bind fun y20 =>
    rec0 v14 (bif decide (y20 > v15) then y20 else v15) (wi (v16 + (1 : Int))) v17 v18 v19
  else none
def f158.s0' {R : Type} (L N : Nat) (self158 : Tree → Bool → Option (Int)) (k0_e0 : Int → Option R) (rec0 : Bool → Int → Int → Int → Int → LT → Option R) (s0 : Bool) (s1 : Int) (s2 : Int) (s3 : Int) (s4 : Int) (s5 : LT) : Option R :=
  bif (decide (s2 < (s5.length : Int))) then
    bif s0 then
      bif (!(s3 == (1 : Int))) then
        f158.j0' L N self158 k0_e0 rec0 s0 s1 s2 s3 s4 s5
      else k0_e0 s1
    else bif (!false) then
      f158.j0' L N self158 k0_e0 rec0 s0 s1 s2 s3 s4 s5
    else k0_e0 s1
  else k0_e0 s1
def f158.s0 {R : Type} (L N : Nat) (self158 : Tree → Bool → Option (Int)) (k0_e0 : Int → Option R) (rec0 : Bool → Int → Int → Int → Int → LT → Option R) (s0 : Bool) (s1 : Int) (s2 : Int) (s3 : Int) (s4 : Int) (s5 : LT) : Option R :=
  f158.s0' L N self158 k0_e0 rec0 s0 s1 s2 s3 s4 s5
def f158.l0 {R : Type} (L N : Nat) (self158 : Tree → Bool → Option (Int)) (k0_e0 : Int → Option R) : Nat → Bool → Int → Int → Int → Int → LT → Option R
  | 0, _, _, _, _, _, _ => none
  | n + 1, s0, s1, s2, s3, s4, s5 => f158.s0 L N self158 k0_e0 (f158.l0 L N self158 k0_e0 n) s0 s1 s2 s3 s4 s5
def f158.T0 (s0 : Bool) (s1 : Int) (s2 : Int) (s3 : Int) (s4 : Int) (s5 : LT) : T := mkT 38 [(1, (.tv .bool s0)), (2, (.ptr 1002 0)), (5, (.tv i64 s1)), (6, (.tv i64 s2))]
def f158.H0 (s0 : Bool) (s1 : Int) (s2 : Int) (s3 : Int) (s4 : Int) (s5 : LT) : H := [(1002, (.box [(.tv i64 s3), (.tv i64 s4), (.tv (.sl (.st 1)) s5)]))]
def f158.T0_e0 (z13 : Int) : T := mkT 38 [(5, (.tv i64 z13))]
def f158.H0_e0 (z13 : Int) : H := []
def f158.p0_e0' {R : Type} (L N : Nat) (self158 : Tree → Bool → Option (Int)) (k : Int → Option R) (z13 : Int) : Option R :=
  k z13
def f158.p0_e0 {R : Type} (L N : Nat) (self158 : Tree → Bool → Option (Int)) (k : Int → Option R) (z13 : Int) : Option R :=
  f158.p0_e0' L N self158 k z13
def f158.b' {R : Type} (L N : Nat) (self158 : Tree → Bool → Option (Int)) (k : Int → Option R) (w0 : Bool → Int → Int → Int → Int → LT → Option R) (x0 : Tree) (x1 : Bool) : Option R :=
  bif (x0.op == (5 : Int)) then
    k x0.n
  else w0 x1 (-1 : Int) (0 : Int) x0.op x0.n x0.parts
def f158.b {R : Type} (L N : Nat) (self158 : Tree → Bool → Option (Int)) (k : Int → Option R) (x0 : Tree) (x1 : Bool) : Option R :=
  f158.b' L N self158 k (fun s0 s1 s2 s3 s4 s5 => f158.l0 L N self158 (fun z13 => f158.p0_e0 L N self158 k z13) L s0 s1 s2 s3 s4 s5) x0 x1
def f158 (L N : Nat) : Nat → Tree → Bool → Option (Int)
  | 0, _, _ => none
  | n + 1, x0, x1 => f158.b L N (f158 L N n) some x0 x1
def f158.ent (L N m : Nat) := entRo [(.st 1), .bool] (.one i64) fun d => f158 L N m d.1 d.2.1
def Φ158s (L N m : Nat) : Tells := (addT (Φ32 L N) 158 (f158.ent L N m))
noncomputable def E158 (L N m : Nat) : Env := { P := Tryz.prog, ty := tyOf, Φ := Φ158s L N m, inl := inlT, live := lives, liveX := livesX, L := L, dp := none, prom := promT, heal := healT, ren := renT }
noncomputable def f158.c0 : Code := loopAt 0 (codeOf Tryz.f158)
def f158.X0_e0 {R : Type} (κ : KX R) := fun z13 => κ (.exit 0) (f158.T0_e0 z13) (f158.H0_e0 z13)
def f158.R0 {R : Type} (rec : KT R) := fun s0 s1 s2 s3 s4 s5 => rec (f158.T0 s0 s1 s2 s3 s4 s5) (f158.H0 s0 s1 s2 s3 s4 s5)
theorem f158.s0_eq {R : Type} (L N m : Nat) (κ : KX R) (rec : KT R) (s0 : Bool) (s1 : Int) (s2 : Int) (s3 : Int) (s4 : Int) (s5 : LT) :
    evRd (E158 L N m) (evCallI (E158 L N m) 1 2000) 1000 158 38 0 f158.c0 κ rec (f158.T0 s0 s1 s2 s3 s4 s5) (f158.H0 s0 s1 s2 s3 s4 s5)
    = f158.s0 L N (f158 L N m) (f158.X0_e0 κ) (f158.R0 rec) s0 s1 s2 s3 s4 s5 := by kernel_rfl
theorem f158.l0_eq {R : Type} (L N m : Nat) (κ : KX R) : ∀ (n : Nat) (s0 : Bool) (s1 : Int) (s2 : Int) (s3 : Int) (s4 : Int) (s5 : LT),
    evLp (E158 L N m) (evCallI (E158 L N m) 1 2000) 1000 158 38 0 f158.c0 κ n (f158.T0 s0 s1 s2 s3 s4 s5) (f158.H0 s0 s1 s2 s3 s4 s5)
    = f158.l0 L N (f158 L N m) (f158.X0_e0 κ) n s0 s1 s2 s3 s4 s5 := by
  intro n
  induction n with
  | zero => intros; rfl
  | succ n ih =>
    intro s0 s1 s2 s3 s4 s5
    rw [evLp_succ, f158.s0_eq]
    delta f158.R0
    simp only [ih]
    rfl
theorem f158.p0_e0_eq {R : Type} (L N m : Nat) (κ : AV → Option R) (z13 : Int) :
    (contAt (E158 L N m) (evCallI (E158 L N m) 1 2000) 1000 158 38 0 (codeOf Tryz.f158) (finK (E158 L N m) 1000 Tryz.f158 (finC (.one i64) κ))) (.exit 0) (f158.T0_e0 z13) (f158.H0_e0 z13)
    = f158.p0_e0 L N (f158 L N m) (fun a0 => κ (.tv i64 a0)) z13 := by kernel_rfl
theorem f158.b_eq {R : Type} (L N m : Nat) (κ : AV → Option R) (x0 : Tree) (x1 : Bool) :
    evBody (E158 L N m) (evCallI (E158 L N m) 1 2000) 1000 158 Tryz.f158 [(.tv (.st 1) x0), (.tv .bool x1)] [] [] (finC (.one i64) κ)
    = f158.b L N (f158 L N m) (fun a0 => κ (.tv i64 a0)) x0 x1 := by
  refine Eq.trans (b := f158.b' L N (f158 L N m) (fun a0 => κ (.tv i64 a0)) (fun s0 s1 s2 s3 s4 s5 => evLp (E158 L N m) (evCallI (E158 L N m) 1 2000) 1000 158 38 0 f158.c0 (contAt (E158 L N m) (evCallI (E158 L N m) 1 2000) 1000 158 38 0 (codeOf Tryz.f158) (finK (E158 L N m) 1000 Tryz.f158 (finC (.one i64) κ))) L (f158.T0 s0 s1 s2 s3 s4 s5) (f158.H0 s0 s1 s2 s3 s4 s5)) x0 x1) (by kernel_rfl) ?_
  unfold f158.b
  simp only [f158.l0_eq]
  delta f158.X0_e0
  simp only [f158.p0_e0_eq]
theorem f158.ok (L N m : Nat) (hΦ : TellsOk Tryz.prog (Φ158s L N m)) : EntOk Tryz.prog 158 (f158.ent L N (m + 1)) := entRo_ok (E := (E158 L N m)) (dep := 1000) (f := Tryz.f158) (sound_of hΦ) okP (callI_sound (sound_of hΦ) okP 1 2000) rfl rfl fun d _ hy => (f158.b_eq L N m (unR (.one i64)) d.1 d.2.1).trans (Eq.trans (b := f158.b L N (f158 L N m) some d.1 d.2.1) (by kernel_rfl) hy)
theorem Φ158s_ok (L N : Nat) : ∀ m, TellsOk Tryz.prog (Φ158s L N m) := by
  intro m
  induction m with
  | zero => exact (addT_ok (Φ32_ok L N) (entRo_no fun _ => rfl))
  | succ m ih => exact (addT_ok (Φ32_ok L N) (f158.ok L N m ih))
def Φ158 (L N : Nat) : Tells := (addT (Φ32 L N) 158 (f158.ent L N N))
theorem Φ158_ok (L N : Nat) : TellsOk Tryz.prog (Φ158 L N) := Φ158s_ok L N N
def f33.b' {R : Type} (L N : Nat) (k : Bool → Option R) (x0 : Int) : Option R :=
  (f32 L N x0 (-4 : Int) (4 : Int)).bind fun y0 =>
  k y0
def f33.b {R : Type} (L N : Nat) (k : Bool → Option R) (x0 : Int) : Option R :=
  f33.b' L N k x0
def f33 (L N : Nat) (x0 : Int) : Option (Bool) := f33.b L N some x0
def f33.ent (L N : Nat) := entRo [i64] (.one .bool) fun d => f33 L N d.1
noncomputable def E33 (L N : Nat) : Env := { P := Tryz.prog, ty := tyOf, Φ := (Φ158 L N), inl := inlT, live := lives, liveX := livesX, L := L, dp := none, prom := promT, heal := healT, ren := renT }
theorem f33.b_eq {R : Type} (L N : Nat) (κ : AV → Option R) (x0 : Int) :
    evBody (E33 L N) (evCallI (E33 L N) 1 2000) 1000 33 Tryz.f33 [(.tv i64 x0)] [] [] (finC (.one .bool) κ)
    = f33.b L N (fun a0 => κ (.tv .bool a0)) x0 := by kernel_rfl
theorem f33.ok (L N : Nat) (hΦ : TellsOk Tryz.prog ((Φ158 L N))) : EntOk Tryz.prog 33 (f33.ent L N) := entRo_ok (E := (E33 L N)) (dep := 1000) (f := Tryz.f33) (sound_of hΦ) okP (callI_sound (sound_of hΦ) okP 1 2000) rfl rfl fun d _ hy => (f33.b_eq L N (unR (.one .bool)) d.1).trans (Eq.trans (b := f33.b L N some d.1) (by kernel_rfl) hy)
def Φ33 (L N : Nat) : Tells := (addT (Φ158 L N) 33 (f33.ent L N))
theorem Φ33_ok (L N : Nat) : TellsOk Tryz.prog (Φ33 L N) := addT_ok (Φ158_ok L N) (f33.ok L N (Φ158_ok L N))
def f143.s0' {R : Type} (L N : Nat) (self143 : Tree → Option (Int)) (k0_e1 : Int → Option R) (k0_r : Int → Int → Option R) (rec0 : Int → Int → Int → Int → Int → LT → Option R) (s24 : Int) (s25 : Int) (s26 : Int) (s27 : Int) (s28 : Int) (s29 : LT) : Option R :=
  bif (decide (s26 < s24)) then
    bif (decide (0 ≤ s26) && decide (s26 < (s29.length : Int))) then
      (self143 (listAt s29 (Ty.dflt (.st 1)) s26.toNat)).bind fun y31 =>
      bif (y31 == (0 : Int)) then
        k0_r (0 : Int) s25
      else rec0 s24 (bif decide ((wi (s25 + y31)) < (1000 : Int)) then (wi (s25 + y31)) else (1000 : Int)) (wi (s26 + (1 : Int))) s27 s28 s29
    else none
  else k0_e1 s25
def f143.s0 {R : Type} (L N : Nat) (self143 : Tree → Option (Int)) (k0_e1 : Int → Option R) (k0_r : Int → Int → Option R) (rec0 : Int → Int → Int → Int → Int → LT → Option R) (s24 : Int) (s25 : Int) (s26 : Int) (s27 : Int) (s28 : Int) (s29 : LT) : Option R :=
  f143.s0' L N self143 k0_e1 k0_r rec0 s24 s25 s26 s27 s28 s29
def f143.l0 {R : Type} (L N : Nat) (self143 : Tree → Option (Int)) (k0_e1 : Int → Option R) (k0_r : Int → Int → Option R) : Nat → Int → Int → Int → Int → Int → LT → Option R
  | 0, _, _, _, _, _, _ => none
  | n + 1, s24, s25, s26, s27, s28, s29 => f143.s0 L N self143 k0_e1 k0_r (f143.l0 L N self143 k0_e1 k0_r n) s24 s25 s26 s27 s28 s29
def f143.T0 (s24 : Int) (s25 : Int) (s26 : Int) (s27 : Int) (s28 : Int) (s29 : LT) : T := mkT 60 [(1, (.ptr 1001 0)), (3, (.tv i64 s24)), (5, (.tv i64 s25)), (6, (.tv i64 s26))]
def f143.H0 (s24 : Int) (s25 : Int) (s26 : Int) (s27 : Int) (s28 : Int) (s29 : LT) : H := [(1001, (.box [(.tv i64 s27), (.tv i64 s28), (.tv (.sl (.st 1)) s29)]))]
def f143.T0_e1 (z30 : Int) : T := mkT 60 [(5, (.tv i64 z30))]
def f143.H0_e1 (z30 : Int) : H := []
def f143.T0_r (z32 : Int) (z33 : Int) : T := mkT 60 [(2, (.tv i64 z32)), (5, (.tv i64 z33))]
def f143.H0_r (z32 : Int) (z33 : Int) : H := []
def f143.p0_e1' {R : Type} (L N : Nat) (self143 : Tree → Option (Int)) (k : Int → Option R) (z30 : Int) : Option R :=
  k z30
def f143.p0_e1 {R : Type} (L N : Nat) (self143 : Tree → Option (Int)) (k : Int → Option R) (z30 : Int) : Option R :=
  f143.p0_e1' L N self143 k z30
def f143.p0_r' {R : Type} (L N : Nat) (self143 : Tree → Option (Int)) (k : Int → Option R) (z32 : Int) (z33 : Int) : Option R :=
  k z32
def f143.p0_r {R : Type} (L N : Nat) (self143 : Tree → Option (Int)) (k : Int → Option R) (z32 : Int) (z33 : Int) : Option R :=
  f143.p0_r' L N self143 k z32 z33
def f143.j1' {R : Type} (L N : Nat) (self143 : Tree → Option (Int)) (k : Int → Option R) (w0 : Int → Int → Int → Int → Int → LT → Option R) (v20 : Int) (v21 : Int) (v22 : Int) (v23 : LT) : Option R :=
  w0 v20 (1 : Int) (0 : Int) v21 v22 v23
def f143.j2' {R : Type} (L N : Nat) (self143 : Tree → Option (Int)) (k : Int → Option R) (w0 : Int → Int → Int → Int → Int → LT → Option R) (v10 : Int) (v11 : Bool) (v12 : Int) (v13 : Int) (v14 : LT) : Option R :=
  bif (!v11) then
    k (0 : Int)
  else bif ((v14.length : Int) != v10) then
    k (0 : Int)
  else f143.j1' L N self143 k w0 v10 v12 v13 v14
def f143.j0' {R : Type} (L N : Nat) (self143 : Tree → Option (Int)) (k : Int → Option R) (w0 : Int → Int → Int → Int → Int → LT → Option R) (v1 : Int) (v2 : Bool) (v3 : Int) (v4 : Bool) (v5 : Int) (v6 : Int) (v7 : LT) : Option R :=
  bif v4 then
    f143.j2' L N self143 k w0 (2 : Int) v2 v5 v6 v7
  else bif (v3 == (4 : Int)) then
    (f32 L N v6 (0 : Int) (3 : Int)).bind fun y8 =>
    f143.j2' L N self143 k w0 (1 : Int) y8 v5 v6 v7
  else bif (v3 == (5 : Int)) then
    (f32 L N v6 (0 : Int) (2 : Int)).bind fun y9 =>
    f143.j2' L N self143 k w0 v1 y9 v5 v6 v7
  else f143.j2' L N self143 k w0 v1 false v5 v6 v7
def f143.b' {R : Type} (L N : Nat) (self143 : Tree → Option (Int)) (k : Int → Option R) (w0 : Int → Int → Int → Int → Int → LT → Option R) (x0 : Tree) : Option R :=
  bif (x0.op == (0 : Int)) then
    f143.j2' L N self143 k w0 (0 : Int) (x0.n == (0 : Int)) x0.op x0.n x0.parts
  else bif (x0.op == (1 : Int)) then
    (f33 L N x0.n).bind fun y0 =>
    f143.j2' L N self143 k w0 (1 : Int) y0 x0.op x0.n x0.parts
  else bif (x0.op == (2 : Int)) then
    f143.j0' L N self143 k w0 (0 : Int) (x0.n == (0 : Int)) x0.op (x0.op == (2 : Int)) x0.op x0.n x0.parts
  else f143.j0' L N self143 k w0 (0 : Int) (x0.n == (0 : Int)) x0.op (x0.op == (3 : Int)) x0.op x0.n x0.parts
def f143.b {R : Type} (L N : Nat) (self143 : Tree → Option (Int)) (k : Int → Option R) (x0 : Tree) : Option R :=
  f143.b' L N self143 k (fun s24 s25 s26 s27 s28 s29 => f143.l0 L N self143 (fun z30 => f143.p0_e1 L N self143 k z30) (fun z32 z33 => f143.p0_r L N self143 k z32 z33) L s24 s25 s26 s27 s28 s29) x0
def f143 (L N : Nat) : Nat → Tree → Option (Int)
  | 0, _ => none
  | n + 1, x0 => f143.b L N (f143 L N n) some x0
def f143.ent (L N m : Nat) := entRo [(.st 1)] (.one i64) fun d => f143 L N m d.1
def Φ143s (L N m : Nat) : Tells := (addT (Φ33 L N) 143 (f143.ent L N m))
noncomputable def E143 (L N m : Nat) : Env := { P := Tryz.prog, ty := tyOf, Φ := Φ143s L N m, inl := inlT, live := lives, liveX := livesX, L := L, dp := none, prom := promT, heal := healT, ren := renT }
noncomputable def f143.c0 : Code := loopAt 1 (codeOf Tryz.f143)
def f143.X0_e1 {R : Type} (κ : KX R) := fun z30 => κ (.exit 1) (f143.T0_e1 z30) (f143.H0_e1 z30)
def f143.X0_r {R : Type} (κ : KX R) := fun z32 z33 => κ .ret (f143.T0_r z32 z33) (f143.H0_r z32 z33)
def f143.R0 {R : Type} (rec : KT R) := fun s24 s25 s26 s27 s28 s29 => rec (f143.T0 s24 s25 s26 s27 s28 s29) (f143.H0 s24 s25 s26 s27 s28 s29)
theorem f143.s0_eq {R : Type} (L N m : Nat) (κ : KX R) (rec : KT R) (s24 : Int) (s25 : Int) (s26 : Int) (s27 : Int) (s28 : Int) (s29 : LT) :
    evRd (E143 L N m) (evCallI (E143 L N m) 1 2000) 1000 143 60 1 f143.c0 κ rec (f143.T0 s24 s25 s26 s27 s28 s29) (f143.H0 s24 s25 s26 s27 s28 s29)
    = f143.s0 L N (f143 L N m) (f143.X0_e1 κ) (f143.X0_r κ) (f143.R0 rec) s24 s25 s26 s27 s28 s29 := by kernel_rfl
theorem f143.l0_eq {R : Type} (L N m : Nat) (κ : KX R) : ∀ (n : Nat) (s24 : Int) (s25 : Int) (s26 : Int) (s27 : Int) (s28 : Int) (s29 : LT),
    evLp (E143 L N m) (evCallI (E143 L N m) 1 2000) 1000 143 60 1 f143.c0 κ n (f143.T0 s24 s25 s26 s27 s28 s29) (f143.H0 s24 s25 s26 s27 s28 s29)
    = f143.l0 L N (f143 L N m) (f143.X0_e1 κ) (f143.X0_r κ) n s24 s25 s26 s27 s28 s29 := by
  intro n
  induction n with
  | zero => intros; rfl
  | succ n ih =>
    intro s24 s25 s26 s27 s28 s29
    rw [evLp_succ, f143.s0_eq]
    delta f143.R0
    simp only [ih]
    rfl
theorem f143.p0_e1_eq {R : Type} (L N m : Nat) (κ : AV → Option R) (z30 : Int) :
    (contAt (E143 L N m) (evCallI (E143 L N m) 1 2000) 1000 143 60 1 (codeOf Tryz.f143) (finK (E143 L N m) 1000 Tryz.f143 (finC (.one i64) κ))) (.exit 1) (f143.T0_e1 z30) (f143.H0_e1 z30)
    = f143.p0_e1 L N (f143 L N m) (fun a0 => κ (.tv i64 a0)) z30 := by kernel_rfl
theorem f143.p0_r_eq {R : Type} (L N m : Nat) (κ : AV → Option R) (z32 : Int) (z33 : Int) :
    (contAt (E143 L N m) (evCallI (E143 L N m) 1 2000) 1000 143 60 1 (codeOf Tryz.f143) (finK (E143 L N m) 1000 Tryz.f143 (finC (.one i64) κ))) .ret (f143.T0_r z32 z33) (f143.H0_r z32 z33)
    = f143.p0_r L N (f143 L N m) (fun a0 => κ (.tv i64 a0)) z32 z33 := by kernel_rfl
theorem f143.b_eq {R : Type} (L N m : Nat) (κ : AV → Option R) (x0 : Tree) :
    evBody (E143 L N m) (evCallI (E143 L N m) 1 2000) 1000 143 Tryz.f143 [(.tv (.st 1) x0)] [] [] (finC (.one i64) κ)
    = f143.b L N (f143 L N m) (fun a0 => κ (.tv i64 a0)) x0 := by
  refine Eq.trans (b := f143.b' L N (f143 L N m) (fun a0 => κ (.tv i64 a0)) (fun s24 s25 s26 s27 s28 s29 => evLp (E143 L N m) (evCallI (E143 L N m) 1 2000) 1000 143 60 1 f143.c0 (contAt (E143 L N m) (evCallI (E143 L N m) 1 2000) 1000 143 60 1 (codeOf Tryz.f143) (finK (E143 L N m) 1000 Tryz.f143 (finC (.one i64) κ))) L (f143.T0 s24 s25 s26 s27 s28 s29) (f143.H0 s24 s25 s26 s27 s28 s29)) x0) (by kernel_rfl) ?_
  unfold f143.b
  simp only [f143.l0_eq]
  delta f143.X0_e1 f143.X0_r
  simp only [f143.p0_e1_eq, f143.p0_r_eq]
theorem f143.ok (L N m : Nat) (hΦ : TellsOk Tryz.prog (Φ143s L N m)) : EntOk Tryz.prog 143 (f143.ent L N (m + 1)) := entRo_ok (E := (E143 L N m)) (dep := 1000) (f := Tryz.f143) (sound_of hΦ) okP (callI_sound (sound_of hΦ) okP 1 2000) rfl rfl fun d _ hy => (f143.b_eq L N m (unR (.one i64)) d.1).trans (Eq.trans (b := f143.b L N (f143 L N m) some d.1) (by kernel_rfl) hy)
theorem Φ143s_ok (L N : Nat) : ∀ m, TellsOk Tryz.prog (Φ143s L N m) := by
  intro m
  induction m with
  | zero => exact (addT_ok (Φ33_ok L N) (entRo_no fun _ => rfl))
  | succ m ih => exact (addT_ok (Φ33_ok L N) (f143.ok L N m ih))
def Φ143 (L N : Nat) : Tells := (addT (Φ33 L N) 143 (f143.ent L N N))
theorem Φ143_ok (L N : Nat) : TellsOk Tryz.prog (Φ143 L N) := Φ143s_ok L N N
def f159.b' {R : Type} (L N : Nat) (k : Bool → Option R) (x0 : Tree) : Option R :=
  (f143 L N N (Tree.mk x0.op x0.n x0.parts)).bind fun y0 =>
  (f32 L N y0 (1 : Int) (24 : Int)).bind fun y1 =>
  k y1
def f159.b {R : Type} (L N : Nat) (k : Bool → Option R) (x0 : Tree) : Option R :=
  f159.b' L N k x0
def f159 (L N : Nat) (x0 : Tree) : Option (Bool) := f159.b L N some x0
def f159.ent (L N : Nat) := entRo [(.st 1)] (.one .bool) fun d => f159 L N d.1
noncomputable def E159 (L N : Nat) : Env := { P := Tryz.prog, ty := tyOf, Φ := (Φ143 L N), inl := inlT, live := lives, liveX := livesX, L := L, dp := none, prom := promT, heal := healT, ren := renT }
theorem f159.b_eq {R : Type} (L N : Nat) (κ : AV → Option R) (x0 : Tree) :
    evBody (E159 L N) (evCallI (E159 L N) 1 2000) 1000 159 Tryz.f159 [(.tv (.st 1) x0)] [] [] (finC (.one .bool) κ)
    = f159.b L N (fun a0 => κ (.tv .bool a0)) x0 := by kernel_rfl
theorem f159.ok (L N : Nat) (hΦ : TellsOk Tryz.prog ((Φ143 L N))) : EntOk Tryz.prog 159 (f159.ent L N) := entRo_ok (E := (E159 L N)) (dep := 1000) (f := Tryz.f159) (sound_of hΦ) okP (callI_sound (sound_of hΦ) okP 1 2000) rfl rfl fun d _ hy => (f159.b_eq L N (unR (.one .bool)) d.1).trans (Eq.trans (b := f159.b L N some d.1) (by kernel_rfl) hy)
def Φ159 (L N : Nat) : Tells := (addT (Φ143 L N) 159 (f159.ent L N))
theorem Φ159_ok (L N : Nat) : TellsOk Tryz.prog (Φ159 L N) := addT_ok (Φ143_ok L N) (f159.ok L N (Φ143_ok L N))
def f140.b' {R : Type} (L N : Nat) (k : Bool → Option R) (x0 : Tree) (x1 : Int) : Option R :=
  (f159 L N (Tree.mk x0.op x0.n x0.parts)).bind fun y0 =>
  bif y0 then
    (f32 L N x1 (0 : Int) (3 : Int)).bind fun y1 =>
    bif y1 then
      (f158 L N N (Tree.mk x0.op x0.n x0.parts) false).bind fun y2 =>
      k (decide (y2 < x1))
    else k false
  else k false
def f140.b {R : Type} (L N : Nat) (k : Bool → Option R) (x0 : Tree) (x1 : Int) : Option R :=
  f140.b' L N k x0 x1
def f140 (L N : Nat) (x0 : Tree) (x1 : Int) : Option (Bool) := f140.b L N some x0 x1
def f140.ent (L N : Nat) := entRo [(.st 1), i64] (.one .bool) fun d => f140 L N d.1 d.2.1
noncomputable def E140 (L N : Nat) : Env := { P := Tryz.prog, ty := tyOf, Φ := (Φ159 L N), inl := inlT, live := lives, liveX := livesX, L := L, dp := none, prom := promT, heal := healT, ren := renT }
theorem f140.b_eq {R : Type} (L N : Nat) (κ : AV → Option R) (x0 : Tree) (x1 : Int) :
    evBody (E140 L N) (evCallI (E140 L N) 1 2000) 1000 140 Tryz.f140 [(.tv (.st 1) x0), (.tv i64 x1)] [] [] (finC (.one .bool) κ)
    = f140.b L N (fun a0 => κ (.tv .bool a0)) x0 x1 := by kernel_rfl
theorem f140.ok (L N : Nat) (hΦ : TellsOk Tryz.prog ((Φ159 L N))) : EntOk Tryz.prog 140 (f140.ent L N) := entRo_ok (E := (E140 L N)) (dep := 1000) (f := Tryz.f140) (sound_of hΦ) okP (callI_sound (sound_of hΦ) okP 1 2000) rfl rfl fun d _ hy => (f140.b_eq L N (unR (.one .bool)) d.1 d.2.1).trans (Eq.trans (b := f140.b L N some d.1 d.2.1) (by kernel_rfl) hy)
def Φ140 (L N : Nat) : Tells := (addT (Φ159 L N) 140 (f140.ent L N))
theorem Φ140_ok (L N : Nat) : TellsOk Tryz.prog (Φ140 L N) := addT_ok (Φ159_ok L N) (f140.ok L N (Φ159_ok L N))
def f139.s0' {R : Type} (L N : Nat) (k0_e0 : LT → Option R) (k0_r : LT → Bool → Option R) (rec0 : LT → Int → Option R) (s0 : LT) (s1 : Int) : Option R :=
  bif (decide (s1 < (s0.length : Int))) then
    bif (decide (0 ≤ s1) && decide (s1 < (s0.length : Int))) then
      (f140 L N (listAt s0 (Ty.dflt (.st 1)) s1.toNat) (s0.length : Int)).bind fun y3 =>
      bif (!y3) then
        k0_r s0 false
      else bif (decide (0 ≤ s1) && decide (s1 < (s0.length : Int))) then
        (f158 L N N (listAt s0 (Ty.dflt (.st 1)) s1.toNat) true).bind fun y4 =>
        bif (decide (y4 ≥ (0 : Int))) then
          k0_r s0 false
        else rec0 s0 (wi (s1 + (1 : Int)))
      else none
    else none
  else k0_e0 s0
def f139.s0 {R : Type} (L N : Nat) (k0_e0 : LT → Option R) (k0_r : LT → Bool → Option R) (rec0 : LT → Int → Option R) (s0 : LT) (s1 : Int) : Option R :=
  f139.s0' L N k0_e0 k0_r rec0 s0 s1
def f139.l0 {R : Type} (L N : Nat) (k0_e0 : LT → Option R) (k0_r : LT → Bool → Option R) : Nat → LT → Int → Option R
  | 0, _, _ => none
  | n + 1, s0, s1 => f139.s0 L N k0_e0 k0_r (f139.l0 L N k0_e0 k0_r n) s0 s1
def f139.T0 (s0 : LT) (s1 : Int) : T := mkT 29 [(0, (.tv (.sl (.st 1)) s0)), (3, (.tv i64 s1))]
def f139.H0 (s0 : LT) (s1 : Int) : H := []
def f139.T0_e0 (z2 : LT) : T := mkT 29 [(0, (.tv (.sl (.st 1)) z2))]
def f139.H0_e0 (z2 : LT) : H := []
def f139.T0_r (z8 : LT) (z9 : Bool) : T := mkT 29 [(0, (.tv (.sl (.st 1)) z8)), (2, (.tv .bool z9))]
def f139.H0_r (z8 : LT) (z9 : Bool) : H := []
def f139.p0_e0' {R : Type} (L N : Nat) (k : Bool → Option R) (z2 : LT) : Option R :=
  k (decide ((z2.length : Int) ≤ (3 : Int)))
def f139.p0_e0 {R : Type} (L N : Nat) (k : Bool → Option R) (z2 : LT) : Option R :=
  f139.p0_e0' L N k z2
def f139.p0_r' {R : Type} (L N : Nat) (k : Bool → Option R) (z8 : LT) (z9 : Bool) : Option R :=
  k z9
def f139.p0_r {R : Type} (L N : Nat) (k : Bool → Option R) (z8 : LT) (z9 : Bool) : Option R :=
  f139.p0_r' L N k z8 z9
def f139.b' {R : Type} (L N : Nat) (k : Bool → Option R) (w0 : LT → Int → Option R) (x0 : LT) : Option R :=
  w0 x0 (0 : Int)
def f139.b {R : Type} (L N : Nat) (k : Bool → Option R) (x0 : LT) : Option R :=
  f139.b' L N k (fun s0 s1 => f139.l0 L N (fun z2 => f139.p0_e0 L N k z2) (fun z8 z9 => f139.p0_r L N k z8 z9) L s0 s1) x0
def f139 (L N : Nat) (x0 : LT) : Option (Bool) := f139.b L N some x0
def f139.ent (L N : Nat) := entRo [(.sl (.st 1))] (.one .bool) fun d => f139 L N d.1
noncomputable def E139 (L N : Nat) : Env := { P := Tryz.prog, ty := tyOf, Φ := (Φ140 L N), inl := inlT, live := lives, liveX := livesX, L := L, dp := none, prom := promT, heal := healT, ren := renT }
noncomputable def f139.c0 : Code := loopAt 0 (codeOf Tryz.f139)
def f139.X0_e0 {R : Type} (κ : KX R) := fun z2 => κ (.exit 0) (f139.T0_e0 z2) (f139.H0_e0 z2)
def f139.X0_r {R : Type} (κ : KX R) := fun z8 z9 => κ .ret (f139.T0_r z8 z9) (f139.H0_r z8 z9)
def f139.R0 {R : Type} (rec : KT R) := fun s0 s1 => rec (f139.T0 s0 s1) (f139.H0 s0 s1)
theorem f139.s0_eq {R : Type} (L N : Nat) (κ : KX R) (rec : KT R) (s0 : LT) (s1 : Int) :
    evRd (E139 L N) (evCallI (E139 L N) 1 2000) 1000 139 29 0 f139.c0 κ rec (f139.T0 s0 s1) (f139.H0 s0 s1)
    = f139.s0 L N (f139.X0_e0 κ) (f139.X0_r κ) (f139.R0 rec) s0 s1 := by kernel_rfl
theorem f139.l0_eq {R : Type} (L N : Nat) (κ : KX R) : ∀ (n : Nat) (s0 : LT) (s1 : Int),
    evLp (E139 L N) (evCallI (E139 L N) 1 2000) 1000 139 29 0 f139.c0 κ n (f139.T0 s0 s1) (f139.H0 s0 s1)
    = f139.l0 L N (f139.X0_e0 κ) (f139.X0_r κ) n s0 s1 := by
  intro n
  induction n with
  | zero => intros; rfl
  | succ n ih =>
    intro s0 s1
    rw [evLp_succ, f139.s0_eq]
    delta f139.R0
    simp only [ih]
    rfl
theorem f139.p0_e0_eq {R : Type} (L N : Nat) (κ : AV → Option R) (z2 : LT) :
    (contAt (E139 L N) (evCallI (E139 L N) 1 2000) 1000 139 29 0 (codeOf Tryz.f139) (finK (E139 L N) 1000 Tryz.f139 (finC (.one .bool) κ))) (.exit 0) (f139.T0_e0 z2) (f139.H0_e0 z2)
    = f139.p0_e0 L N (fun a0 => κ (.tv .bool a0)) z2 := by kernel_rfl
theorem f139.p0_r_eq {R : Type} (L N : Nat) (κ : AV → Option R) (z8 : LT) (z9 : Bool) :
    (contAt (E139 L N) (evCallI (E139 L N) 1 2000) 1000 139 29 0 (codeOf Tryz.f139) (finK (E139 L N) 1000 Tryz.f139 (finC (.one .bool) κ))) .ret (f139.T0_r z8 z9) (f139.H0_r z8 z9)
    = f139.p0_r L N (fun a0 => κ (.tv .bool a0)) z8 z9 := by kernel_rfl
theorem f139.b_eq {R : Type} (L N : Nat) (κ : AV → Option R) (x0 : LT) :
    evBody (E139 L N) (evCallI (E139 L N) 1 2000) 1000 139 Tryz.f139 [(.tv (.sl (.st 1)) x0)] [] [] (finC (.one .bool) κ)
    = f139.b L N (fun a0 => κ (.tv .bool a0)) x0 := by
  refine Eq.trans (b := f139.b' L N (fun a0 => κ (.tv .bool a0)) (fun s0 s1 => evLp (E139 L N) (evCallI (E139 L N) 1 2000) 1000 139 29 0 f139.c0 (contAt (E139 L N) (evCallI (E139 L N) 1 2000) 1000 139 29 0 (codeOf Tryz.f139) (finK (E139 L N) 1000 Tryz.f139 (finC (.one .bool) κ))) L (f139.T0 s0 s1) (f139.H0 s0 s1)) x0) (by kernel_rfl) ?_
  unfold f139.b
  simp only [f139.l0_eq]
  delta f139.X0_e0 f139.X0_r
  simp only [f139.p0_e0_eq, f139.p0_r_eq]
theorem f139.ok (L N : Nat) (hΦ : TellsOk Tryz.prog ((Φ140 L N))) : EntOk Tryz.prog 139 (f139.ent L N) := entRo_ok (E := (E139 L N)) (dep := 1000) (f := Tryz.f139) (sound_of hΦ) okP (callI_sound (sound_of hΦ) okP 1 2000) rfl rfl fun d _ hy => (f139.b_eq L N (unR (.one .bool)) d.1).trans (Eq.trans (b := f139.b L N some d.1) (by kernel_rfl) hy)
def Φ139 (L N : Nat) : Tells := (addT (Φ140 L N) 139 (f139.ent L N))
theorem Φ139_ok (L N : Nat) : TellsOk Tryz.prog (Φ139 L N) := addT_ok (Φ140_ok L N) (f139.ok L N (Φ140_ok L N))
def f111.b' {R : Type} (L N : Nat) (k : Bool → Option R) (x0 : Tree) (x1 : LT) : Option R :=
  (f139 L N x1).bind fun y0 =>
  bif y0 then
    (f140 L N (Tree.mk x0.op x0.n x0.parts) (x1.length : Int)).bind fun y1 =>
    k y1
  else k false
def f111.b {R : Type} (L N : Nat) (k : Bool → Option R) (x0 : Tree) (x1 : LT) : Option R :=
  f111.b' L N k x0 x1
def f111 (L N : Nat) (x0 : Tree) (x1 : LT) : Option (Bool) := f111.b L N some x0 x1
def f111.ent (L N : Nat) := entRo [(.st 1), (.sl (.st 1))] (.one .bool) fun d => f111 L N d.1 d.2.1
noncomputable def E111 (L N : Nat) : Env := { P := Tryz.prog, ty := tyOf, Φ := (Φ139 L N), inl := inlT, live := lives, liveX := livesX, L := L, dp := none, prom := promT, heal := healT, ren := renT }
theorem f111.b_eq {R : Type} (L N : Nat) (κ : AV → Option R) (x0 : Tree) (x1 : LT) :
    evBody (E111 L N) (evCallI (E111 L N) 1 2000) 1000 111 Tryz.f111 [(.tv (.st 1) x0), (.tv (.sl (.st 1)) x1)] [] [] (finC (.one .bool) κ)
    = f111.b L N (fun a0 => κ (.tv .bool a0)) x0 x1 := by kernel_rfl
theorem f111.ok (L N : Nat) (hΦ : TellsOk Tryz.prog ((Φ139 L N))) : EntOk Tryz.prog 111 (f111.ent L N) := entRo_ok (E := (E111 L N)) (dep := 1000) (f := Tryz.f111) (sound_of hΦ) okP (callI_sound (sound_of hΦ) okP 1 2000) rfl rfl fun d _ hy => (f111.b_eq L N (unR (.one .bool)) d.1 d.2.1).trans (Eq.trans (b := f111.b L N some d.1 d.2.1) (by kernel_rfl) hy)
def Φ111 (L N : Nat) : Tells := (addT (Φ139 L N) 111 (f111.ent L N))
theorem Φ111_ok (L N : Nat) : TellsOk Tryz.prog (Φ111 L N) := addT_ok (Φ139_ok L N) (f111.ok L N (Φ139_ok L N))
def f34.b' {R : Type} (L N : Nat) (k : Bool → Option R) (x0 : Move) (x1 : Move) : Option R :=
  bif (decide (x0.act < x1.act)) then
    k true
  else bif (x0.act == x1.act) then
    k (decide (x0.to < x1.to))
  else k false
def f34.b {R : Type} (L N : Nat) (k : Bool → Option R) (x0 : Move) (x1 : Move) : Option R :=
  f34.b' L N k x0 x1
def f34 (L N : Nat) (x0 : Move) (x1 : Move) : Option (Bool) := f34.b L N some x0 x1
def f34.ent (L N : Nat) := entRo [(.st 0), (.st 0)] (.one .bool) fun d => f34 L N d.1 d.2.1
noncomputable def E34 (L N : Nat) : Env := { P := Tryz.prog, ty := tyOf, Φ := (Φ111 L N), inl := inlT, live := lives, liveX := livesX, L := L, dp := none, prom := promT, heal := healT, ren := renT }
theorem f34.b_eq {R : Type} (L N : Nat) (κ : AV → Option R) (x0 : Move) (x1 : Move) :
    evBody (E34 L N) (evCallI (E34 L N) 1 2000) 1000 34 Tryz.f34 [(.tv (.st 0) x0), (.tv (.st 0) x1)] [] [] (finC (.one .bool) κ)
    = f34.b L N (fun a0 => κ (.tv .bool a0)) x0 x1 := by kernel_rfl
theorem f34.ok (L N : Nat) (hΦ : TellsOk Tryz.prog ((Φ111 L N))) : EntOk Tryz.prog 34 (f34.ent L N) := entRo_ok (E := (E34 L N)) (dep := 1000) (f := Tryz.f34) (sound_of hΦ) okP (callI_sound (sound_of hΦ) okP 1 2000) rfl rfl fun d _ hy => (f34.b_eq L N (unR (.one .bool)) d.1 d.2.1).trans (Eq.trans (b := f34.b L N some d.1 d.2.1) (by kernel_rfl) hy)
def Φ34 (L N : Nat) : Tells := (addT (Φ111 L N) 34 (f34.ent L N))
theorem Φ34_ok (L N : Nat) : TellsOk Tryz.prog (Φ34 L N) := addT_ok (Φ111_ok L N) (f34.ok L N (Φ111_ok L N))
def f28.s1' {R : Type} (L N : Nat) (k1_e2 : LM → Int → Int → LM → Option R) (rec1 : LM → Int → Int → LM → Option R) (s4 : LM) (s5 : Int) (s6 : Int) (s7 : LM) : Option R :=
  bif (decide (s6 > (0 : Int))) then
    bif (decide (0 ≤ s5) && decide (s5 < (s4.length : Int))) then
      bif (decide (0 ≤ (wi (s6 - (1 : Int)))) && decide ((wi (s6 - (1 : Int))) < (s7.length : Int))) then
        (f34 L N (listAt s4 (Ty.dflt (.st 0)) s5.toNat) (listAt s7 (Ty.dflt (.st 0)) (wi (s6 - (1 : Int))).toNat)).bind fun y8 =>
        bif y8 then
          rec1 s4 s5 (wi (s6 - (1 : Int))) s7
        else k1_e2 s4 s5 s6 s7
      else none
    else none
  else k1_e2 s4 s5 s6 s7
def f28.s1 {R : Type} (L N : Nat) (k1_e2 : LM → Int → Int → LM → Option R) (rec1 : LM → Int → Int → LM → Option R) (s4 : LM) (s5 : Int) (s6 : Int) (s7 : LM) : Option R :=
  f28.s1' L N k1_e2 rec1 s4 s5 s6 s7
def f28.l1 {R : Type} (L N : Nat) (k1_e2 : LM → Int → Int → LM → Option R) : Nat → LM → Int → Int → LM → Option R
  | 0, _, _, _, _ => none
  | n + 1, s4, s5, s6, s7 => f28.s1 L N k1_e2 (f28.l1 L N k1_e2 n) s4 s5 s6 s7
def f28.T1 (s4 : LM) (s5 : Int) (s6 : Int) (s7 : LM) : T := mkT 74 [(0, (.tv (.sl (.st 0)) s4)), (3, (.row 1007)), (4, (.tv i64 s5)), (5, (.tv i64 s6))]
def f28.H1 (s4 : LM) (s5 : Int) (s6 : Int) (s7 : LM) : H := [(1007, (.row 48 (.st 0) s7))]
def f28.T1_e2 (z14 : LM) (z15 : Int) (z16 : Int) (z17 : LM) : T := mkT 74 [(0, (.tv (.sl (.st 0)) z14)), (3, (.row 1007)), (4, (.tv i64 z15)), (5, (.tv i64 z16))]
def f28.H1_e2 (z14 : LM) (z15 : Int) (z16 : Int) (z17 : LM) : H := [(1007, (.row 48 (.st 0) z17))]
def f28.s2' {R : Type} (L N : Nat) (k2_e4 : LM → Int → Int → LM → Option R) (rec2 : LM → Int → Int → Int → LM → Option R) (s31 : LM) (s32 : Int) (s33 : Int) (s34 : Int) (s35 : LM) : Option R :=
  bif (decide (s34 > s33)) then
    bif (decide (0 ≤ (wi (s34 - (1 : Int)))) && decide ((wi (s34 - (1 : Int))) < (s35.length : Int))) then
      bif (decide (0 ≤ s34) && decide (s34 < (s35.length : Int))) then
        rec2 s31 s32 s33 (wi (s34 - (1 : Int))) (s35.set s34.toNat (listAt s35 (Ty.dflt (.st 0)) (wi (s34 - (1 : Int))).toNat))
      else none
    else none
  else k2_e4 s31 s32 s33 s35
def f28.s2 {R : Type} (L N : Nat) (k2_e4 : LM → Int → Int → LM → Option R) (rec2 : LM → Int → Int → Int → LM → Option R) (s31 : LM) (s32 : Int) (s33 : Int) (s34 : Int) (s35 : LM) : Option R :=
  f28.s2' L N k2_e4 rec2 s31 s32 s33 s34 s35
def f28.l2 {R : Type} (L N : Nat) (k2_e4 : LM → Int → Int → LM → Option R) : Nat → LM → Int → Int → Int → LM → Option R
  | 0, _, _, _, _, _ => none
  | n + 1, s31, s32, s33, s34, s35 => f28.s2 L N k2_e4 (f28.l2 L N k2_e4 n) s31 s32 s33 s34 s35
def f28.T2 (s31 : LM) (s32 : Int) (s33 : Int) (s34 : Int) (s35 : LM) : T := mkT 74 [(0, (.tv (.sl (.st 0)) s31)), (3, (.row 1007)), (4, (.tv i64 s32)), (5, (.tv i64 s33)), (6, (.tv i64 s34))]
def f28.H2 (s31 : LM) (s32 : Int) (s33 : Int) (s34 : Int) (s35 : LM) : H := [(1007, (.row 48 (.st 0) s35))]
def f28.T2_e4 (z36 : LM) (z37 : Int) (z38 : Int) (z39 : LM) : T := mkT 74 [(0, (.tv (.sl (.st 0)) z36)), (3, (.row 1007)), (4, (.tv i64 z37)), (5, (.tv i64 z38))]
def f28.H2_e4 (z36 : LM) (z37 : Int) (z38 : Int) (z39 : LM) : H := [(1007, (.row 48 (.st 0) z39))]
def f28.p2_e4' {R : Type} (L N : Nat) (k0_e0 : LM → Option R) (rec0 : LM → Int → LM → Option R) (z36 : LM) (z37 : Int) (z38 : Int) (z39 : LM) : Option R :=
  bif (decide (0 ≤ z37) && decide (z37 < (z36.length : Int))) then
    bif (decide (0 ≤ z38) && decide (z38 < (z39.length : Int))) then
      rec0 z36 (wi (z37 + (1 : Int))) (z39.set z38.toNat (listAt z36 (Ty.dflt (.st 0)) z37.toNat))
    else none
  else none
def f28.p2_e4 {R : Type} (L N : Nat) (k0_e0 : LM → Option R) (rec0 : LM → Int → LM → Option R) (z36 : LM) (z37 : Int) (z38 : Int) (z39 : LM) : Option R :=
  f28.p2_e4' L N k0_e0 rec0 z36 z37 z38 z39
def f28.j0' {R : Type} (L N : Nat) (k0_e0 : LM → Option R) (rec0 : LM → Int → LM → Option R) (w2 : LM → Int → Int → Int → LM → Option R) (v27 : LM) (v28 : Int) (v29 : Int) (v30 : LM) : Option R :=
  bif (decide (v30.length + ([(Move.mk (0 : Int) (0 : Int))] : LM).length ≤ lim)) then
    w2 v27 v28 v29 (wi (((v30 ++ ([(Move.mk (0 : Int) (0 : Int))] : LM)).length : Int) - (1 : Int))) (v30 ++ ([(Move.mk (0 : Int) (0 : Int))] : LM))
  else none
def f28.p1_e2' {R : Type} (L N : Nat) (k0_e0 : LM → Option R) (rec0 : LM → Int → LM → Option R) (w2 : LM → Int → Int → Int → LM → Option R) (z14 : LM) (z15 : Int) (z16 : Int) (z17 : LM) : Option R :=
  bif (decide (z16 > (0 : Int))) then
    bif (decide (0 ≤ (wi (z16 - (1 : Int)))) && decide ((wi (z16 - (1 : Int))) < (z17.length : Int))) then
      bif (decide (0 ≤ z15) && decide (z15 < (z14.length : Int))) then
        bif (Move.eqb (listAt z17 (Ty.dflt (.st 0)) (wi (z16 - (1 : Int))).toNat) (listAt z14 (Ty.dflt (.st 0)) z15.toNat)) then
          rec0 z14 (wi (z15 + (1 : Int))) z17
        else f28.j0' L N k0_e0 rec0 w2 z14 z15 z16 z17
      else none
    else none
  else f28.j0' L N k0_e0 rec0 w2 z14 z15 z16 z17
def f28.p1_e2 {R : Type} (L N : Nat) (k0_e0 : LM → Option R) (rec0 : LM → Int → LM → Option R) (z14 : LM) (z15 : Int) (z16 : Int) (z17 : LM) : Option R :=
  f28.p1_e2' L N k0_e0 rec0 (fun s31 s32 s33 s34 s35 => f28.l2 L N (fun z36 z37 z38 z39 => f28.p2_e4 L N k0_e0 rec0 z36 z37 z38 z39) L s31 s32 s33 s34 s35) z14 z15 z16 z17
def f28.s0' {R : Type} (L N : Nat) (k0_e0 : LM → Option R) (rec0 : LM → Int → LM → Option R) (w1 : LM → Int → Int → LM → Option R) (s0 : LM) (s1 : Int) (s2 : LM) : Option R :=
  bif (decide (s1 < (s0.length : Int))) then
    w1 s0 s1 (s2.length : Int) s2
  else k0_e0 s2
def f28.s0 {R : Type} (L N : Nat) (k0_e0 : LM → Option R) (rec0 : LM → Int → LM → Option R) (s0 : LM) (s1 : Int) (s2 : LM) : Option R :=
  f28.s0' L N k0_e0 rec0 (fun s4 s5 s6 s7 => f28.l1 L N (fun z14 z15 z16 z17 => f28.p1_e2 L N k0_e0 rec0 z14 z15 z16 z17) L s4 s5 s6 s7) s0 s1 s2
def f28.l0 {R : Type} (L N : Nat) (k0_e0 : LM → Option R) : Nat → LM → Int → LM → Option R
  | 0, _, _, _ => none
  | n + 1, s0, s1, s2 => f28.s0 L N k0_e0 (f28.l0 L N k0_e0 n) s0 s1 s2
def f28.T0 (s0 : LM) (s1 : Int) (s2 : LM) : T := mkT 74 [(0, (.tv (.sl (.st 0)) s0)), (3, (.row 1007)), (4, (.tv i64 s1))]
def f28.H0 (s0 : LM) (s1 : Int) (s2 : LM) : H := [(1007, (.row 48 (.st 0) s2))]
def f28.T0_e0 (z3 : LM) : T := mkT 74 [(3, (.row 1007))]
def f28.H0_e0 (z3 : LM) : H := [(1007, (.row 48 (.st 0) z3))]
def f28.p0_e0' {R : Type} (L N : Nat) (k : LM → Option R) (z3 : LM) : Option R :=
  k z3
def f28.p0_e0 {R : Type} (L N : Nat) (k : LM → Option R) (z3 : LM) : Option R :=
  f28.p0_e0' L N k z3
def f28.b' {R : Type} (L N : Nat) (k : LM → Option R) (w0 : LM → Int → LM → Option R) (x0 : LM) : Option R :=
  w0 x0 (0 : Int) ([] : LM)
def f28.b {R : Type} (L N : Nat) (k : LM → Option R) (x0 : LM) : Option R :=
  f28.b' L N k (fun s0 s1 s2 => f28.l0 L N (fun z3 => f28.p0_e0 L N k z3) L s0 s1 s2) x0
def f28 (L N : Nat) (x0 : LM) : Option (LM) := f28.b L N some x0
def f28.ent (L N : Nat) (args : List AV) (vw : View) (site : Nat) : Ans := match roD [(.sl (.st 0))] vw args with
  | some d => ⟨LM, f28 L N d.1, fun y => (RN.av site .row (), [(site, some (mkO none 48 (.st 0) y))], [])⟩
  | none => Ans.no
noncomputable def E28 (L N : Nat) : Env := { P := Tryz.prog, ty := tyOf, Φ := (Φ34 L N), inl := inlT, live := lives, liveX := livesX, L := L, dp := none, prom := promT, heal := healT, ren := renT }
noncomputable def f28.c0 : Code := loopAt 0 (codeOf Tryz.f28)
noncomputable def f28.c1 : Code := loopAt 2 f28.c0
def f28.X1_e2 {R : Type} (κ : KX R) := fun z14 z15 z16 z17 => κ (.exit 2) (f28.T1_e2 z14 z15 z16 z17) (f28.H1_e2 z14 z15 z16 z17)
def f28.R1 {R : Type} (rec : KT R) := fun s4 s5 s6 s7 => rec (f28.T1 s4 s5 s6 s7) (f28.H1 s4 s5 s6 s7)
theorem f28.s1_eq {R : Type} (L N : Nat) (κ : KX R) (rec : KT R) (s4 : LM) (s5 : Int) (s6 : Int) (s7 : LM) :
    evRd (E28 L N) (evCallI (E28 L N) 1 2000) 1000 28 74 2 f28.c1 κ rec (f28.T1 s4 s5 s6 s7) (f28.H1 s4 s5 s6 s7)
    = f28.s1 L N (f28.X1_e2 κ) (f28.R1 rec) s4 s5 s6 s7 := by kernel_rfl
theorem f28.l1_eq {R : Type} (L N : Nat) (κ : KX R) : ∀ (n : Nat) (s4 : LM) (s5 : Int) (s6 : Int) (s7 : LM),
    evLp (E28 L N) (evCallI (E28 L N) 1 2000) 1000 28 74 2 f28.c1 κ n (f28.T1 s4 s5 s6 s7) (f28.H1 s4 s5 s6 s7)
    = f28.l1 L N (f28.X1_e2 κ) n s4 s5 s6 s7 := by
  intro n
  induction n with
  | zero => intros; rfl
  | succ n ih =>
    intro s4 s5 s6 s7
    rw [evLp_succ, f28.s1_eq]
    delta f28.R1
    simp only [ih]
    rfl
noncomputable def f28.c2 : Code := loopAt 4 f28.c0
def f28.X2_e4 {R : Type} (κ : KX R) := fun z36 z37 z38 z39 => κ (.exit 4) (f28.T2_e4 z36 z37 z38 z39) (f28.H2_e4 z36 z37 z38 z39)
def f28.R2 {R : Type} (rec : KT R) := fun s31 s32 s33 s34 s35 => rec (f28.T2 s31 s32 s33 s34 s35) (f28.H2 s31 s32 s33 s34 s35)
theorem f28.s2_eq {R : Type} (L N : Nat) (κ : KX R) (rec : KT R) (s31 : LM) (s32 : Int) (s33 : Int) (s34 : Int) (s35 : LM) :
    evRd (E28 L N) (evCallI (E28 L N) 1 2000) 1000 28 74 4 f28.c2 κ rec (f28.T2 s31 s32 s33 s34 s35) (f28.H2 s31 s32 s33 s34 s35)
    = f28.s2 L N (f28.X2_e4 κ) (f28.R2 rec) s31 s32 s33 s34 s35 := by kernel_rfl
theorem f28.l2_eq {R : Type} (L N : Nat) (κ : KX R) : ∀ (n : Nat) (s31 : LM) (s32 : Int) (s33 : Int) (s34 : Int) (s35 : LM),
    evLp (E28 L N) (evCallI (E28 L N) 1 2000) 1000 28 74 4 f28.c2 κ n (f28.T2 s31 s32 s33 s34 s35) (f28.H2 s31 s32 s33 s34 s35)
    = f28.l2 L N (f28.X2_e4 κ) n s31 s32 s33 s34 s35 := by
  intro n
  induction n with
  | zero => intros; rfl
  | succ n ih =>
    intro s31 s32 s33 s34 s35
    rw [evLp_succ, f28.s2_eq]
    delta f28.R2
    simp only [ih]
    rfl
def f28.X0_e0 {R : Type} (κ : KX R) := fun z3 => κ (.exit 0) (f28.T0_e0 z3) (f28.H0_e0 z3)
def f28.R0 {R : Type} (rec : KT R) := fun s0 s1 s2 => rec (f28.T0 s0 s1 s2) (f28.H0 s0 s1 s2)
theorem f28.p2_e4_eq {R : Type} (L N : Nat) (κ : KX R) (rec : KT R) (z36 : LM) (z37 : Int) (z38 : Int) (z39 : LM) :
    (contAt (E28 L N) (evCallI (E28 L N) 1 2000) 1000 28 74 4 f28.c0 (rdK (E28 L N) 1000 28 74 0 κ rec)) (.exit 4) (f28.T2_e4 z36 z37 z38 z39) (f28.H2_e4 z36 z37 z38 z39)
    = f28.p2_e4 L N (f28.X0_e0 κ) (f28.R0 rec) z36 z37 z38 z39 := by kernel_rfl
theorem f28.p1_e2_eq {R : Type} (L N : Nat) (κ : KX R) (rec : KT R) (z14 : LM) (z15 : Int) (z16 : Int) (z17 : LM) :
    (contAt (E28 L N) (evCallI (E28 L N) 1 2000) 1000 28 74 2 f28.c0 (rdK (E28 L N) 1000 28 74 0 κ rec)) (.exit 2) (f28.T1_e2 z14 z15 z16 z17) (f28.H1_e2 z14 z15 z16 z17)
    = f28.p1_e2 L N (f28.X0_e0 κ) (f28.R0 rec) z14 z15 z16 z17 := by
  refine Eq.trans (b := f28.p1_e2' L N (f28.X0_e0 κ) (f28.R0 rec) (fun s31 s32 s33 s34 s35 => evLp (E28 L N) (evCallI (E28 L N) 1 2000) 1000 28 74 4 f28.c2 (contAt (E28 L N) (evCallI (E28 L N) 1 2000) 1000 28 74 4 f28.c0 (rdK (E28 L N) 1000 28 74 0 κ rec)) L (f28.T2 s31 s32 s33 s34 s35) (f28.H2 s31 s32 s33 s34 s35)) z14 z15 z16 z17) (by kernel_rfl) ?_
  unfold f28.p1_e2
  simp only [f28.l2_eq]
  delta f28.X2_e4
  simp only [f28.p2_e4_eq]
theorem f28.s0_eq {R : Type} (L N : Nat) (κ : KX R) (rec : KT R) (s0 : LM) (s1 : Int) (s2 : LM) :
    evRd (E28 L N) (evCallI (E28 L N) 1 2000) 1000 28 74 0 f28.c0 κ rec (f28.T0 s0 s1 s2) (f28.H0 s0 s1 s2)
    = f28.s0 L N (f28.X0_e0 κ) (f28.R0 rec) s0 s1 s2 := by
  refine Eq.trans (b := f28.s0' L N (f28.X0_e0 κ) (f28.R0 rec) (fun s4 s5 s6 s7 => evLp (E28 L N) (evCallI (E28 L N) 1 2000) 1000 28 74 2 f28.c1 (contAt (E28 L N) (evCallI (E28 L N) 1 2000) 1000 28 74 2 f28.c0 (rdK (E28 L N) 1000 28 74 0 κ rec)) L (f28.T1 s4 s5 s6 s7) (f28.H1 s4 s5 s6 s7)) s0 s1 s2) (by kernel_rfl) ?_
  unfold f28.s0
  simp only [f28.l1_eq]
  delta f28.X1_e2
  simp only [f28.p1_e2_eq]
theorem f28.l0_eq {R : Type} (L N : Nat) (κ : KX R) : ∀ (n : Nat) (s0 : LM) (s1 : Int) (s2 : LM),
    evLp (E28 L N) (evCallI (E28 L N) 1 2000) 1000 28 74 0 f28.c0 κ n (f28.T0 s0 s1 s2) (f28.H0 s0 s1 s2)
    = f28.l0 L N (f28.X0_e0 κ) n s0 s1 s2 := by
  intro n
  induction n with
  | zero => intros; rfl
  | succ n ih =>
    intro s0 s1 s2
    rw [evLp_succ, f28.s0_eq]
    delta f28.R0
    simp only [ih]
    rfl
theorem f28.p0_e0_eq {R : Type} (L N : Nat) (κ : RN.Den .row → List Move → Option R) (z3 : LM) :
    (contAt (E28 L N) (evCallI (E28 L N) 1 2000) 1000 28 74 0 (codeOf Tryz.f28) (finK (E28 L N) 1000 Tryz.f28 (finN .row none 48 (.st 0) κ))) (.exit 0) (f28.T0_e0 z3) (f28.H0_e0 z3)
    = f28.p0_e0 L N (fun a0 => κ () a0) z3 := by kernel_rfl
theorem f28.b_eq {R : Type} (L N : Nat) (κ : RN.Den .row → List Move → Option R) (x0 : LM) :
    evBody (E28 L N) (evCallI (E28 L N) 1 2000) 1000 28 Tryz.f28 [(.tv (.sl (.st 0)) x0)] [] [] (finN .row none 48 (.st 0) κ)
    = f28.b L N (fun a0 => κ () a0) x0 := by
  refine Eq.trans (b := f28.b' L N (fun a0 => κ () a0) (fun s0 s1 s2 => evLp (E28 L N) (evCallI (E28 L N) 1 2000) 1000 28 74 0 f28.c0 (contAt (E28 L N) (evCallI (E28 L N) 1 2000) 1000 28 74 0 (codeOf Tryz.f28) (finK (E28 L N) 1000 Tryz.f28 (finN .row none 48 (.st 0) κ))) L (f28.T0 s0 s1 s2) (f28.H0 s0 s1 s2)) x0) (by kernel_rfl) ?_
  unfold f28.b
  simp only [f28.l0_eq]
  delta f28.X0_e0
  simp only [f28.p0_e0_eq]
theorem f28.ok (L N : Nat) (hΦ : TellsOk Tryz.prog ((Φ34 L N))) : EntOk Tryz.prog 28 (f28.ent L N) := by
  intro args vw site h
  unfold f28.ent
  split
  · rename_i d ha
    intro y hy hs
    refine call_ron (y := y) (dep := 1000) (E := (E28 L N)) (ts := [(.sl (.st 0))]) (rn := .row) (q := none) (el := 48) (ty := (.st 0)) (d1 := ()) (xs := y) (κ := (fun d xs => some xs)) (sound_of hΦ) okP (callI_sound (sound_of hΦ) okP 1 2000) (f := Tryz.f28) rfl hs ha ?_ (fun _ _ h => by obtain rfl := Option.some.inj h; exact ⟨rfl, rfl⟩) rfl site
    exact (f28.b_eq L N (fun d xs => some xs) d.1).trans (Eq.trans (b := f28.b L N some d.1) (by kernel_rfl) hy)
  · intro y hy
    cases hy
def Φ28 (L N : Nat) : Tells := (addT (Φ34 L N) 28 (f28.ent L N))
theorem Φ28_ok (L N : Nat) : TellsOk Tryz.prog (Φ28 L N) := addT_ok (Φ34_ok L N) (f28.ok L N (Φ34_ok L N))
def f160.b' {R : Type} (L N : Nat) (self160 : Int → Option (ByteArray)) (k : ByteArray → Option R) (x0 : Int) : Option R :=
  bif (decide (x0 < (-9223372036854775807 : Int))) then
    k (ByteArray.mk #[45, 57, 50, 50, 51, 51, 55, 50, 48, 51, 54, 56, 53, 52, 55, 55, 53, 56, 48, 56])
  else bif (decide (x0 < (0 : Int))) then
    (self160 (wi (0 - x0))).bind fun y0 =>
    bif (decide ((ByteArray.mk #[45]).size + y0.size ≤ 4611686018427387904)) then
      k ((ByteArray.mk #[45]) ++ y0)
    else none
  else bif (decide (x0 < (10 : Int))) then
    k (strOfNums ([(IntKind.wrap .u8 ((wi ((48 : Int) + x0))))] : LI))
  else bif (decide ((10 : Int) = 0)) then
    none
  else (self160 (wi (Int.tdiv x0 (10 : Int)))).bind fun y1 =>
  bif (decide ((10 : Int) = 0)) then
    none
  else bif (decide (y1.size + (strOfNums ([(IntKind.wrap .u8 ((wi ((48 : Int) + (Int.tmod x0 (10 : Int))))))] : LI)).size ≤ 4611686018427387904)) then
    k (y1 ++ (strOfNums ([(IntKind.wrap .u8 ((wi ((48 : Int) + (Int.tmod x0 (10 : Int))))))] : LI)))
  else none
def f160.b {R : Type} (L N : Nat) (self160 : Int → Option (ByteArray)) (k : ByteArray → Option R) (x0 : Int) : Option R :=
  f160.b' L N self160 k x0
def f160 (L N : Nat) : Nat → Int → Option (ByteArray)
  | 0, _ => none
  | n + 1, x0 => f160.b L N (f160 L N n) some x0
def f160.ent (L N m : Nat) := entRo [i64] (.one .str) fun d => f160 L N m d.1
def Φ160s (L N m : Nat) : Tells := (addT (Φ28 L N) 160 (f160.ent L N m))
noncomputable def E160 (L N m : Nat) : Env := { P := Tryz.prog, ty := tyOf, Φ := Φ160s L N m, inl := inlT, live := lives, liveX := livesX, L := L, dp := none, prom := promT, heal := healT, ren := renT }
theorem f160.b_eq {R : Type} (L N m : Nat) (κ : AV → Option R) (x0 : Int) :
    evBody (E160 L N m) (evCallI (E160 L N m) 1 2000) 1000 160 Tryz.f160 [(.tv i64 x0)] [] [] (finC (.one .str) κ)
    = f160.b L N (f160 L N m) (fun a0 => κ (.tv .str a0)) x0 := by kernel_rfl
theorem f160.ok (L N m : Nat) (hΦ : TellsOk Tryz.prog (Φ160s L N m)) : EntOk Tryz.prog 160 (f160.ent L N (m + 1)) := entRo_ok (E := (E160 L N m)) (dep := 1000) (f := Tryz.f160) (sound_of hΦ) okP (callI_sound (sound_of hΦ) okP 1 2000) rfl rfl fun d _ hy => (f160.b_eq L N m (unR (.one .str)) d.1).trans (Eq.trans (b := f160.b L N (f160 L N m) some d.1) (by kernel_rfl) hy)
theorem Φ160s_ok (L N : Nat) : ∀ m, TellsOk Tryz.prog (Φ160s L N m) := by
  intro m
  induction m with
  | zero => exact (addT_ok (Φ28_ok L N) (entRo_no fun _ => rfl))
  | succ m ih => exact (addT_ok (Φ28_ok L N) (f160.ok L N m ih))
def Φ160 (L N : Nat) : Tells := (addT (Φ28 L N) 160 (f160.ent L N N))
theorem Φ160_ok (L N : Nat) : TellsOk Tryz.prog (Φ160 L N) := Φ160s_ok L N N
def f161.b' {R : Type} (L N : Nat) (k : LY → Option R) : Option R :=
  k ([(ByteArray.mk #[]), (ByteArray.mk #[97, 99, 116]), (ByteArray.mk #[115, 117, 109]), (ByteArray.mk #[112, 97, 114]), (ByteArray.mk #[104, 105, 100, 101])] : LY)
def f161.b {R : Type} (L N : Nat) (k : LY → Option R) : Option R :=
  f161.b' L N k
def f161 (L N : Nat) : Option (LY) := f161.b L N some
def f161.ent (L N : Nat) := entDa [] (.one (.sl .str)) fun d => f161 L N
noncomputable def E161 (L N : Nat) : Env := { P := Tryz.prog, ty := tyOf, Φ := (Φ160 L N), inl := inlT, live := lives, liveX := livesX, L := L, dp := none, prom := promT, heal := healT, ren := renT }
theorem f161.b_eq {R : Type} (L N : Nat) (κ : AV → Option R) :
    evBody (E161 L N) (evCallI (E161 L N) 1 2000) 1000 161 Tryz.f161 [] [] [] (finC (.one (.sl .str)) κ)
    = f161.b L N (fun a0 => κ (.tv (.sl .str) a0)) := by kernel_rfl
theorem f161.ok (L N : Nat) (hΦ : TellsOk Tryz.prog ((Φ160 L N))) : EntOk Tryz.prog 161 (f161.ent L N) := entDa_ok (E := (E161 L N)) (dep := 1000) (f := Tryz.f161) (sound_of hΦ) okP (callI_sound (sound_of hΦ) okP 1 2000) rfl fun _ _ hy => (f161.b_eq L N (unR (.one (.sl .str)))).trans (Eq.trans (b := f161.b L N some) (by kernel_rfl) hy)
def Φ161 (L N : Nat) : Tells := (addT (Φ160 L N) 161 (f161.ent L N))
theorem Φ161_ok (L N : Nat) : TellsOk Tryz.prog (Φ161 L N) := addT_ok (Φ160_ok L N) (f161.ok L N (Φ160_ok L N))
def f163.b' {R : Type} (L N : Nat) (k : Int → Option R) (x0 : Int) : Option R :=
  k (wi ((bif decide ((wi (0 - x0)) > x0) then (wi (0 - x0)) else x0) - (1 : Int)))
def f163.b {R : Type} (L N : Nat) (k : Int → Option R) (x0 : Int) : Option R :=
  f163.b' L N k x0
def f163 (L N : Nat) (x0 : Int) : Option (Int) := f163.b L N some x0
def f163.ent (L N : Nat) := entRo [i64] (.one i64) fun d => f163 L N d.1
noncomputable def E163 (L N : Nat) : Env := { P := Tryz.prog, ty := tyOf, Φ := (Φ161 L N), inl := inlT, live := lives, liveX := livesX, L := L, dp := none, prom := promT, heal := healT, ren := renT }
theorem f163.b_eq {R : Type} (L N : Nat) (κ : AV → Option R) (x0 : Int) :
    evBody (E163 L N) (evCallI (E163 L N) 1 2000) 1000 163 Tryz.f163 [(.tv i64 x0)] [] [] (finC (.one i64) κ)
    = f163.b L N (fun a0 => κ (.tv i64 a0)) x0 := by kernel_rfl
theorem f163.ok (L N : Nat) (hΦ : TellsOk Tryz.prog ((Φ161 L N))) : EntOk Tryz.prog 163 (f163.ent L N) := entRo_ok (E := (E163 L N)) (dep := 1000) (f := Tryz.f163) (sound_of hΦ) okP (callI_sound (sound_of hΦ) okP 1 2000) rfl rfl fun d _ hy => (f163.b_eq L N (unR (.one i64)) d.1).trans (Eq.trans (b := f163.b L N some d.1) (by kernel_rfl) hy)
def Φ163 (L N : Nat) : Tells := (addT (Φ161 L N) 163 (f163.ent L N))
theorem Φ163_ok (L N : Nat) : TellsOk Tryz.prog (Φ163 L N) := addT_ok (Φ161_ok L N) (f163.ok L N (Φ161_ok L N))
def f162.b' {R : Type} (L N : Nat) (k : ByteArray → Option R) (x0 : Int) : Option R :=
  bif (x0 == (0 : Int)) then
    k (ByteArray.mk #[116, 97, 117])
  else bif (decide (x0 < (0 : Int))) then
    (f163 L N x0).bind fun y0 =>
    (f163 L N x0).bind fun y1 =>
    bif (slB y0 (wi (y1 + (1 : Int))) (ByteArray.mk #[97, 98, 99, 100]).size) then
      bif (decide ((ByteArray.mk #[33]).size + ((ByteArray.mk #[97, 98, 99, 100]).extract y0.toNat (wi (y1 + (1 : Int))).toNat).size ≤ 4611686018427387904)) then
        k ((ByteArray.mk #[33]) ++ ((ByteArray.mk #[97, 98, 99, 100]).extract y0.toNat (wi (y1 + (1 : Int))).toNat))
      else none
    else none
  else (f163 L N x0).bind fun y2 =>
  (f163 L N x0).bind fun y3 =>
  bif (slB y2 (wi (y3 + (1 : Int))) (ByteArray.mk #[97, 98, 99, 100]).size) then
    k ((ByteArray.mk #[97, 98, 99, 100]).extract y2.toNat (wi (y3 + (1 : Int))).toNat)
  else none
def f162.b {R : Type} (L N : Nat) (k : ByteArray → Option R) (x0 : Int) : Option R :=
  f162.b' L N k x0
def f162 (L N : Nat) (x0 : Int) : Option (ByteArray) := f162.b L N some x0
def f162.ent (L N : Nat) := entRo [i64] (.one .str) fun d => f162 L N d.1
noncomputable def E162 (L N : Nat) : Env := { P := Tryz.prog, ty := tyOf, Φ := (Φ163 L N), inl := inlT, live := lives, liveX := livesX, L := L, dp := none, prom := promT, heal := healT, ren := renT }
theorem f162.b_eq {R : Type} (L N : Nat) (κ : AV → Option R) (x0 : Int) :
    evBody (E162 L N) (evCallI (E162 L N) 1 2000) 1000 162 Tryz.f162 [(.tv i64 x0)] [] [] (finC (.one .str) κ)
    = f162.b L N (fun a0 => κ (.tv .str a0)) x0 := by kernel_rfl
theorem f162.ok (L N : Nat) (hΦ : TellsOk Tryz.prog ((Φ163 L N))) : EntOk Tryz.prog 162 (f162.ent L N) := entRo_ok (E := (E162 L N)) (dep := 1000) (f := Tryz.f162) (sound_of hΦ) okP (callI_sound (sound_of hΦ) okP 1 2000) rfl rfl fun d _ hy => (f162.b_eq L N (unR (.one .str)) d.1).trans (Eq.trans (b := f162.b L N some d.1) (by kernel_rfl) hy)
def Φ162 (L N : Nat) : Tells := (addT (Φ163 L N) 162 (f162.ent L N))
theorem Φ162_ok (L N : Nat) : TellsOk Tryz.prog (Φ162 L N) := addT_ok (Φ163_ok L N) (f162.ok L N (Φ163_ok L N))
def f141.s0' {R : Type} (L N : Nat) (self141 : Tree → Option (ByteArray)) (k0_e1 : ByteArray → Option R) (rec0 : ByteArray → Int → Int → Int → LT → Option R) (s12 : ByteArray) (s13 : Int) (s14 : Int) (s15 : Int) (s16 : LT) : Option R :=
  bif (decide (s13 < (s16.length : Int))) then
    bif (decide (s12.size + (ByteArray.mk #[32]).size ≤ 4611686018427387904)) then
      bif (decide (0 ≤ s13) && decide (s13 < (s16.length : Int))) then
        (self141 (listAt s16 (Ty.dflt (.st 1)) s13.toNat)).bind fun y18 =>
        bif (decide ((s12 ++ (ByteArray.mk #[32])).size + y18.size ≤ 4611686018427387904)) then
          rec0 ((s12 ++ (ByteArray.mk #[32])) ++ y18) (wi (s13 + (1 : Int))) s14 s15 s16
        else none
      else none
    else none
  else k0_e1 s12
def f141.s0 {R : Type} (L N : Nat) (self141 : Tree → Option (ByteArray)) (k0_e1 : ByteArray → Option R) (rec0 : ByteArray → Int → Int → Int → LT → Option R) (s12 : ByteArray) (s13 : Int) (s14 : Int) (s15 : Int) (s16 : LT) : Option R :=
  f141.s0' L N self141 k0_e1 rec0 s12 s13 s14 s15 s16
def f141.l0 {R : Type} (L N : Nat) (self141 : Tree → Option (ByteArray)) (k0_e1 : ByteArray → Option R) : Nat → ByteArray → Int → Int → Int → LT → Option R
  | 0, _, _, _, _, _ => none
  | n + 1, s12, s13, s14, s15, s16 => f141.s0 L N self141 k0_e1 (f141.l0 L N self141 k0_e1 n) s12 s13 s14 s15 s16
def f141.T0 (s12 : ByteArray) (s13 : Int) (s14 : Int) (s15 : Int) (s16 : LT) : T := mkT 58 [(1, (.ptr 1001 0)), (3, (.tv .str s12)), (4, (.tv i64 s13))]
def f141.H0 (s12 : ByteArray) (s13 : Int) (s14 : Int) (s15 : Int) (s16 : LT) : H := [(1001, (.box [(.tv i64 s14), (.tv i64 s15), (.tv (.sl (.st 1)) s16)]))]
def f141.T0_e1 (z17 : ByteArray) : T := mkT 58 [(3, (.tv .str z17))]
def f141.H0_e1 (z17 : ByteArray) : H := []
def f141.p0_e1' {R : Type} (L N : Nat) (self141 : Tree → Option (ByteArray)) (k : ByteArray → Option R) (z17 : ByteArray) : Option R :=
  bif (decide (z17.size + (ByteArray.mk #[41]).size ≤ 4611686018427387904)) then
    k (z17 ++ (ByteArray.mk #[41]))
  else none
def f141.p0_e1 {R : Type} (L N : Nat) (self141 : Tree → Option (ByteArray)) (k : ByteArray → Option R) (z17 : ByteArray) : Option R :=
  f141.p0_e1' L N self141 k z17
def f141.j0' {R : Type} (L N : Nat) (self141 : Tree → Option (ByteArray)) (k : ByteArray → Option R) (w0 : ByteArray → Int → Int → Int → LT → Option R) (v8 : ByteArray) (v9 : Int) (v10 : Int) (v11 : LT) : Option R :=
  w0 v8 (0 : Int) v9 v10 v11
def f141.j1' {R : Type} (L N : Nat) (self141 : Tree → Option (ByteArray)) (k : ByteArray → Option R) (w0 : ByteArray → Int → Int → Int → LT → Option R) (v3 : ByteArray) (v4 : Int) (v5 : Int) (v6 : LT) : Option R :=
  bif (v4 == (4 : Int)) then
    bif (decide (v3.size + (ByteArray.mk #[32]).size ≤ 4611686018427387904)) then
      (f162 L N (wi (v5 + (1 : Int)))).bind fun y7 =>
      bif (decide ((v3 ++ (ByteArray.mk #[32])).size + y7.size ≤ 4611686018427387904)) then
        f141.j0' L N self141 k w0 ((v3 ++ (ByteArray.mk #[32])) ++ y7) v4 v5 v6
      else none
    else none
  else f141.j0' L N self141 k w0 v3 v4 v5 v6
def f141.b' {R : Type} (L N : Nat) (self141 : Tree → Option (ByteArray)) (k : ByteArray → Option R) (w0 : ByteArray → Int → Int → Int → LT → Option R) (x0 : Tree) : Option R :=
  bif (x0.op == (0 : Int)) then
    k (ByteArray.mk #[48])
  else bif (x0.op == (5 : Int)) then
    (f160 L N N x0.n).bind fun y0 =>
    bif (decide ((ByteArray.mk #[88]).size + y0.size ≤ 4611686018427387904)) then
      k ((ByteArray.mk #[88]) ++ y0)
    else none
  else (f161 L N).bind fun y1 =>
  bif (decide (0 ≤ x0.op) && decide (x0.op < (y1.length : Int))) then
    bif (decide ((ByteArray.mk #[40]).size + (listAt y1 ByteArray.empty x0.op.toNat).size ≤ 4611686018427387904)) then
      bif (x0.op == (1 : Int)) then
        bif (decide (((ByteArray.mk #[40]) ++ (listAt y1 ByteArray.empty x0.op.toNat)).size + (ByteArray.mk #[32]).size ≤ 4611686018427387904)) then
          (f162 L N x0.n).bind fun y2 =>
          bif (decide ((((ByteArray.mk #[40]) ++ (listAt y1 ByteArray.empty x0.op.toNat)) ++ (ByteArray.mk #[32])).size + y2.size ≤ 4611686018427387904)) then
            f141.j1' L N self141 k w0 ((((ByteArray.mk #[40]) ++ (listAt y1 ByteArray.empty x0.op.toNat)) ++ (ByteArray.mk #[32])) ++ y2) x0.op x0.n x0.parts
          else none
        else none
      else f141.j1' L N self141 k w0 ((ByteArray.mk #[40]) ++ (listAt y1 ByteArray.empty x0.op.toNat)) x0.op x0.n x0.parts
    else none
  else none
def f141.b {R : Type} (L N : Nat) (self141 : Tree → Option (ByteArray)) (k : ByteArray → Option R) (x0 : Tree) : Option R :=
  f141.b' L N self141 k (fun s12 s13 s14 s15 s16 => f141.l0 L N self141 (fun z17 => f141.p0_e1 L N self141 k z17) L s12 s13 s14 s15 s16) x0
def f141 (L N : Nat) : Nat → Tree → Option (ByteArray)
  | 0, _ => none
  | n + 1, x0 => f141.b L N (f141 L N n) some x0
def f141.ent (L N m : Nat) := entRo [(.st 1)] (.one .str) fun d => f141 L N m d.1
def Φ141s (L N m : Nat) : Tells := (addT (Φ162 L N) 141 (f141.ent L N m))
noncomputable def E141 (L N m : Nat) : Env := { P := Tryz.prog, ty := tyOf, Φ := Φ141s L N m, inl := inlT, live := lives, liveX := livesX, L := L, dp := none, prom := promT, heal := healT, ren := renT }
noncomputable def f141.c0 : Code := loopAt 1 (codeOf Tryz.f141)
def f141.X0_e1 {R : Type} (κ : KX R) := fun z17 => κ (.exit 1) (f141.T0_e1 z17) (f141.H0_e1 z17)
def f141.R0 {R : Type} (rec : KT R) := fun s12 s13 s14 s15 s16 => rec (f141.T0 s12 s13 s14 s15 s16) (f141.H0 s12 s13 s14 s15 s16)
theorem f141.s0_eq {R : Type} (L N m : Nat) (κ : KX R) (rec : KT R) (s12 : ByteArray) (s13 : Int) (s14 : Int) (s15 : Int) (s16 : LT) :
    evRd (E141 L N m) (evCallI (E141 L N m) 1 2000) 1000 141 58 1 f141.c0 κ rec (f141.T0 s12 s13 s14 s15 s16) (f141.H0 s12 s13 s14 s15 s16)
    = f141.s0 L N (f141 L N m) (f141.X0_e1 κ) (f141.R0 rec) s12 s13 s14 s15 s16 := by kernel_rfl
theorem f141.l0_eq {R : Type} (L N m : Nat) (κ : KX R) : ∀ (n : Nat) (s12 : ByteArray) (s13 : Int) (s14 : Int) (s15 : Int) (s16 : LT),
    evLp (E141 L N m) (evCallI (E141 L N m) 1 2000) 1000 141 58 1 f141.c0 κ n (f141.T0 s12 s13 s14 s15 s16) (f141.H0 s12 s13 s14 s15 s16)
    = f141.l0 L N (f141 L N m) (f141.X0_e1 κ) n s12 s13 s14 s15 s16 := by
  intro n
  induction n with
  | zero => intros; rfl
  | succ n ih =>
    intro s12 s13 s14 s15 s16
    rw [evLp_succ, f141.s0_eq]
    delta f141.R0
    simp only [ih]
    rfl
theorem f141.p0_e1_eq {R : Type} (L N m : Nat) (κ : AV → Option R) (z17 : ByteArray) :
    (contAt (E141 L N m) (evCallI (E141 L N m) 1 2000) 1000 141 58 1 (codeOf Tryz.f141) (finK (E141 L N m) 1000 Tryz.f141 (finC (.one .str) κ))) (.exit 1) (f141.T0_e1 z17) (f141.H0_e1 z17)
    = f141.p0_e1 L N (f141 L N m) (fun a0 => κ (.tv .str a0)) z17 := by kernel_rfl
theorem f141.b_eq {R : Type} (L N m : Nat) (κ : AV → Option R) (x0 : Tree) :
    evBody (E141 L N m) (evCallI (E141 L N m) 1 2000) 1000 141 Tryz.f141 [(.tv (.st 1) x0)] [] [] (finC (.one .str) κ)
    = f141.b L N (f141 L N m) (fun a0 => κ (.tv .str a0)) x0 := by
  refine Eq.trans (b := f141.b' L N (f141 L N m) (fun a0 => κ (.tv .str a0)) (fun s12 s13 s14 s15 s16 => evLp (E141 L N m) (evCallI (E141 L N m) 1 2000) 1000 141 58 1 f141.c0 (contAt (E141 L N m) (evCallI (E141 L N m) 1 2000) 1000 141 58 1 (codeOf Tryz.f141) (finK (E141 L N m) 1000 Tryz.f141 (finC (.one .str) κ))) L (f141.T0 s12 s13 s14 s15 s16) (f141.H0 s12 s13 s14 s15 s16)) x0) (by kernel_rfl) ?_
  unfold f141.b
  simp only [f141.l0_eq]
  delta f141.X0_e1
  simp only [f141.p0_e1_eq]
theorem f141.ok (L N m : Nat) (hΦ : TellsOk Tryz.prog (Φ141s L N m)) : EntOk Tryz.prog 141 (f141.ent L N (m + 1)) := entRo_ok (E := (E141 L N m)) (dep := 1000) (f := Tryz.f141) (sound_of hΦ) okP (callI_sound (sound_of hΦ) okP 1 2000) rfl rfl fun d _ hy => (f141.b_eq L N m (unR (.one .str)) d.1).trans (Eq.trans (b := f141.b L N (f141 L N m) some d.1) (by kernel_rfl) hy)
theorem Φ141s_ok (L N : Nat) : ∀ m, TellsOk Tryz.prog (Φ141s L N m) := by
  intro m
  induction m with
  | zero => exact (addT_ok (Φ162_ok L N) (entRo_no fun _ => rfl))
  | succ m ih => exact (addT_ok (Φ162_ok L N) (f141.ok L N m ih))
def Φ141 (L N : Nat) : Tells := (addT (Φ162 L N) 141 (f141.ent L N N))
theorem Φ141_ok (L N : Nat) : TellsOk Tryz.prog (Φ141 L N) := Φ141s_ok L N N
def f142.s0' {R : Type} (L N : Nat) (self142 : Tree → LT → Option (LS)) (k0_e1 : Int → Int → LT → LS → LS → LS → Option R) (rec0 : Int → Int → Int → LT → LS → LS → LS → Option R) (s4 : Int) (s5 : Int) (s6 : Int) (s7 : LT) (s8 : LS) (s9 : LS) (s10 : LS) : Option R :=
  bif (decide (s4 < (s9.length : Int))) then
    bif (decide (0 ≤ s4) && decide (s4 < (s9.length : Int))) then
      bif (decide (0 ≤ s4) && decide (s4 < (s9.length : Int))) then
        bif (decide (0 ≤ (1 : Int)) && decide ((1 : Int) < (s7.length : Int))) then
          bif (decide (s8.length + ([(Step.mk ((listAt s9 (Ty.dflt (.st 3)) s4.toNat).act) (Tree.mk (3 : Int) (0 : Int) ([(Tree.mk ((listAt s9 (Ty.dflt (.st 3)) s4.toNat).thn.op) ((listAt s9 (Ty.dflt (.st 3)) s4.toNat).thn.n) ((listAt s9 (Ty.dflt (.st 3)) s4.toNat).thn.parts)), (listAt s7 (Ty.dflt (.st 1)) (1 : Int).toNat)] : LT)))] : LS).length ≤ lim)) then
            rec0 (wi (s4 + (1 : Int))) s5 s6 s7 (s8 ++ ([(Step.mk ((listAt s9 (Ty.dflt (.st 3)) s4.toNat).act) (Tree.mk (3 : Int) (0 : Int) ([(Tree.mk ((listAt s9 (Ty.dflt (.st 3)) s4.toNat).thn.op) ((listAt s9 (Ty.dflt (.st 3)) s4.toNat).thn.n) ((listAt s9 (Ty.dflt (.st 3)) s4.toNat).thn.parts)), (listAt s7 (Ty.dflt (.st 1)) (1 : Int).toNat)] : LT)))] : LS)) s9 s10
          else none
        else none
      else none
    else none
  else k0_e1 s5 s6 s7 s8 s9 s10
def f142.s0 {R : Type} (L N : Nat) (self142 : Tree → LT → Option (LS)) (k0_e1 : Int → Int → LT → LS → LS → LS → Option R) (rec0 : Int → Int → Int → LT → LS → LS → LS → Option R) (s4 : Int) (s5 : Int) (s6 : Int) (s7 : LT) (s8 : LS) (s9 : LS) (s10 : LS) : Option R :=
  f142.s0' L N self142 k0_e1 rec0 s4 s5 s6 s7 s8 s9 s10
def f142.l0 {R : Type} (L N : Nat) (self142 : Tree → LT → Option (LS)) (k0_e1 : Int → Int → LT → LS → LS → LS → Option R) : Nat → Int → Int → Int → LT → LS → LS → LS → Option R
  | 0, _, _, _, _, _, _, _ => none
  | n + 1, s4, s5, s6, s7, s8, s9, s10 => f142.s0 L N self142 k0_e1 (f142.l0 L N self142 k0_e1 n) s4 s5 s6 s7 s8 s9 s10
def f142.T0 (s4 : Int) (s5 : Int) (s6 : Int) (s7 : LT) (s8 : LS) (s9 : LS) (s10 : LS) : T := mkT 217 [(2, (.ptr 1002 0)), (5, (.row 1014)), (6, (.row 1051)), (7, (.row 1057)), (8, (.tv i64 s4))]
def f142.H0 (s4 : Int) (s5 : Int) (s6 : Int) (s7 : LT) (s8 : LS) (s9 : LS) (s10 : LS) : H := [(1002, (.box [(.tv i64 s5), (.tv i64 s6), (.tv (.sl (.st 1)) s7)])), (1014, (.row 156 (.st 3) s8)), (1051, (.row 156 (.st 3) s9)), (1057, (.row 156 (.st 3) s10))]
def f142.T0_e1 (z11 : Int) (z12 : Int) (z13 : LT) (z14 : LS) (z15 : LS) (z16 : LS) : T := mkT 217 [(2, (.ptr 1002 0)), (5, (.row 1014)), (6, (.row 1051)), (7, (.row 1057))]
def f142.H0_e1 (z11 : Int) (z12 : Int) (z13 : LT) (z14 : LS) (z15 : LS) (z16 : LS) : H := [(1002, (.box [(.tv i64 z11), (.tv i64 z12), (.tv (.sl (.st 1)) z13)])), (1014, (.row 156 (.st 3) z14)), (1051, (.row 156 (.st 3) z15)), (1057, (.row 156 (.st 3) z16))]
end Go.Proofs.YtffkhhblppfbfaaGreatDoor.Ev
