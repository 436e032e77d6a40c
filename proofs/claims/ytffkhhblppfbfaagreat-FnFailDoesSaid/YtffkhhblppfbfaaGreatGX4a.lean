/- The seat's functions as plain functions: made by program (wip/gen/gen.py). -/
import Derived.Test.YtffkhhblppfbfaaGreatEvYa
import Derived.Test.YtffkhhblppfbfaaGreatShelf
namespace Go.Proofs.YtffkhhblppfbfaaGreat.Ev
open Go
set_option linter.unusedVariables false
set_option maxRecDepth 20000
def tyTab : List (Nat × Ty) := [(2, i64), (3, i64), (4, .bool), (5, (.int .u8)), (6, (.int .u8)), (9, .str), (10, .str), (11, .str), (12, (.int .u64)), (21, (.int .i32)), (22, (.sl (.int .u8))), (23, (.sl (.sl (.st 0)))), (24, (.st 2)), (25, (.st 2)), (26, (.sl i64)), (33, (.sl .bool)), (48, (.sl (.st 0))), (49, (.st 0)), (50, (.st 0)), (61, (.sl (.st 1))), (62, (.st 1)), (63, (.st 1)), (73, (.sl (.sl i64))), (93, (.int .u64)), (102, (.sl .str)), (103, (.sl (.st 3))), (106, (.st 3)), (112, i64), (120, (.int .u32)), (122, (.int .u64)), (129, (.int .u64)), (154, (.int .u8)), (155, (.int .u8)), (158, (.int .i32)), (159, (.int .i32))]
def tyOf (t : Nat) : Option Ty := tyFind t tyTab
def lives (f i : Nat) : List Nat × List Nat :=
  bif Nat.beq f 9 && Nat.beq i 0 then ([1, 2, 4, 5, 21, 22, 23], [1, 2, 19, 20]) else
  bif Nat.beq f 9 && Nat.beq i 2 then ([1, 2, 4, 5, 8, 37, 38, 39], [1, 2, 8, 19, 20, 920]) else
  bif Nat.beq f 9 && Nat.beq i 4 then ([1, 2, 4, 5, 8, 11, 37, 38, 39, 48, 49, 50], [1, 2, 8, 19, 20, 43, 920]) else
  bif Nat.beq f 15 && Nat.beq i 0 then ([0, 3, 5, 6, 7], [3, 10]) else
  bif Nat.beq f 17 && Nat.beq i 0 then ([1, 3], [1]) else
  bif Nat.beq f 17 && Nat.beq i 2 then ([1, 3, 4], [1]) else
  bif Nat.beq f 18 && Nat.beq i 0 then ([0, 3], []) else
  bif Nat.beq f 20 && Nat.beq i 0 then ([1, 2, 5, 6], [2]) else
  bif Nat.beq f 21 && Nat.beq i 0 then ([1, 18, 19, 20], [1]) else
  bif Nat.beq f 21 && Nat.beq i 2 then ([1, 4, 18, 19, 20, 24, 25, 26], [1]) else
  bif Nat.beq f 24 && Nat.beq i 0 then ([0, 1, 7, 8], []) else
  bif Nat.beq f 26 && Nat.beq i 0 then ([0, 1, 5, 6], [7]) else
  bif Nat.beq f 30 && Nat.beq i 0 then ([2, 5, 11, 12, 13], [2, 10]) else
  bif Nat.beq f 34 && Nat.beq i 0 then ([1, 2, 3, 7], [3]) else
  bif Nat.beq f 38 && Nat.beq i 0 then ([0, 4, 5, 6, 7, 8], [4, 5, 900, 901]) else
  bif Nat.beq f 38 && Nat.beq i 2 then ([0, 4, 5, 6, 7, 8, 9, 10], [4, 5, 25, 900, 901]) else
  bif Nat.beq f 44 && Nat.beq i 0 then ([1, 2, 3, 7, 8], [3, 12]) else
  bif Nat.beq f 44 && Nat.beq i 2 then ([1, 2, 3, 7, 8, 9], [3, 12]) else
  bif Nat.beq f 54 && Nat.beq i 0 then ([0, 1, 7, 8], []) else
  bif Nat.beq f 55 && Nat.beq i 0 then ([2, 5, 6, 17, 18, 19], [2, 15, 16]) else
  bif Nat.beq f 55 && Nat.beq i 2 then ([2, 5, 6, 9], [2, 15, 16]) else
  bif Nat.beq f 55 && Nat.beq i 4 then ([2, 5, 6, 9, 49, 50, 51], [2, 15, 16]) else
  bif Nat.beq f 56 && Nat.beq i 0 then ([2, 3, 7, 13, 14, 15], [3, 12]) else
  bif Nat.beq f 56 && Nat.beq i 2 then ([2, 3, 7, 13, 14, 15, 23, 24, 25], [3, 12]) else
  bif Nat.beq f 61 && Nat.beq i 0 then ([2, 7, 8, 9], []) else
  bif Nat.beq f 62 && Nat.beq i 0 then ([0, 3, 4, 5], [8]) else
  bif Nat.beq f 65 && Nat.beq i 0 then ([1, 4, 6, 7, 8, 9], [4, 8, 16, 19, 900]) else
  bif Nat.beq f 65 && Nat.beq i 2 then ([1, 4, 6, 7, 8, 9, 10, 11, 12], [4, 8, 16, 19, 32, 33, 900]) else
  bif Nat.beq f 65 && Nat.beq i 4 then ([1, 4, 6, 7, 8, 9, 10, 11, 12, 13, 14], [4, 8, 16, 19, 32, 33, 900]) else
  bif Nat.beq f 67 && Nat.beq i 0 then ([0, 3, 4], [7]) else
  bif Nat.beq f 67 && Nat.beq i 2 then ([0, 3, 4, 5], [7]) else
  bif Nat.beq f 67 && Nat.beq i 4 then ([0, 3, 4, 5, 6], [7]) else
  bif Nat.beq f 68 && Nat.beq i 0 then ([2, 5, 6], [2, 10]) else
  bif Nat.beq f 68 && Nat.beq i 2 then ([2, 5, 6, 7], [2, 10]) else
  bif Nat.beq f 68 && Nat.beq i 4 then ([2, 5, 6, 7, 8], [2, 10]) else
  bif Nat.beq f 70 && Nat.beq i 0 then ([3, 5], [3, 10]) else
  bif Nat.beq f 71 && Nat.beq i 0 then ([0, 6, 14, 15, 16], [9]) else
  bif Nat.beq f 76 && Nat.beq i 0 then ([0, 1, 7, 8], []) else
  bif Nat.beq f 78 && Nat.beq i 0 then ([1, 2, 6, 7, 8], [2, 10]) else
  bif Nat.beq f 80 && Nat.beq i 0 then ([0, 3], []) else
  bif Nat.beq f 82 && Nat.beq i 1 then ([1, 3, 4], [1]) else
  bif Nat.beq f 83 && Nat.beq i 1 then ([2, 5, 6, 7, 8], [2, 14, 51, 57]) else
  bif Nat.beq f 83 && Nat.beq i 3 then ([2, 5, 6, 7, 9], [2, 14, 51, 57]) else
  bif Nat.beq f 83 && Nat.beq i 5 then ([5, 6, 7, 10], [14, 51, 57]) else
  bif Nat.beq f 83 && Nat.beq i 7 then ([5, 6, 7, 10, 11], [14, 51, 57]) else
  bif Nat.beq f 83 && Nat.beq i 9 then ([2, 5, 12, 13], [2, 14, 165]) else
  bif Nat.beq f 84 && Nat.beq i 1 then ([1, 3, 5, 6], [1]) else
  bif Nat.beq f 86 && Nat.beq i 0 then ([0, 1, 5, 6, 16, 17], [11, 14]) else
  bif Nat.beq f 86 && Nat.beq i 2 then ([0, 1, 5, 6, 7, 8, 16, 17], [11, 14]) else
  bif Nat.beq f 88 && Nat.beq i 0 then ([0, 1, 12, 13], []) else
  bif Nat.beq f 101 && Nat.beq i 0 then ([1, 2, 5, 6], [2]) else
  bif Nat.beq f 107 && Nat.beq i 0 then ([0, 1, 12, 13], []) else
  ([], [])
def livesX (f i : Nat) : List Nat × List Nat :=
  bif Nat.beq f 9 && Nat.beq i 0 then ([1, 2, 4, 5], [1, 2, 19, 20]) else
  bif Nat.beq f 9 && Nat.beq i 2 then ([2, 8], [2, 8, 920]) else
  bif Nat.beq f 9 && Nat.beq i 4 then ([1, 2, 4, 5, 8, 11, 37, 38, 39], [1, 2, 8, 19, 20, 43, 920]) else
  bif Nat.beq f 15 && Nat.beq i 0 then ([5], [10]) else
  bif Nat.beq f 17 && Nat.beq i 0 then ([2], []) else
  bif Nat.beq f 17 && Nat.beq i 2 then ([1, 2, 3], [1]) else
  bif Nat.beq f 18 && Nat.beq i 0 then ([0, 2], []) else
  bif Nat.beq f 20 && Nat.beq i 0 then ([5], []) else
  bif Nat.beq f 21 && Nat.beq i 0 then ([2], []) else
  bif Nat.beq f 21 && Nat.beq i 2 then ([1, 2, 18, 19, 20], [1]) else
  bif Nat.beq f 24 && Nat.beq i 0 then ([4], []) else
  bif Nat.beq f 26 && Nat.beq i 0 then ([0, 1, 5], [7]) else
  bif Nat.beq f 30 && Nat.beq i 0 then ([5], [10]) else
  bif Nat.beq f 34 && Nat.beq i 0 then ([6], []) else
  bif Nat.beq f 38 && Nat.beq i 0 then ([0, 4, 5, 6], [4, 5, 900, 901]) else
  bif Nat.beq f 38 && Nat.beq i 2 then ([0, 4, 5, 6, 7, 8, 9], [4, 5, 25, 900, 901]) else
  bif Nat.beq f 44 && Nat.beq i 0 then ([3, 7], [3, 12]) else
  bif Nat.beq f 44 && Nat.beq i 2 then ([1, 2, 3, 7, 8], [3, 12]) else
  bif Nat.beq f 54 && Nat.beq i 0 then ([4], []) else
  bif Nat.beq f 55 && Nat.beq i 0 then ([2, 5, 6], [2, 15, 16]) else
  bif Nat.beq f 55 && Nat.beq i 2 then ([6], [16]) else
  bif Nat.beq f 55 && Nat.beq i 4 then ([2, 5, 6, 9], [2, 15, 16]) else
  bif Nat.beq f 56 && Nat.beq i 0 then ([3, 7], [3, 12]) else
  bif Nat.beq f 56 && Nat.beq i 2 then ([2, 3, 7, 13, 14, 15], [3, 12]) else
  bif Nat.beq f 61 && Nat.beq i 0 then ([6, 8], []) else
  bif Nat.beq f 62 && Nat.beq i 0 then ([0, 3, 4], [8]) else
  bif Nat.beq f 65 && Nat.beq i 0 then ([4, 5, 8], [4, 8, 900]) else
  bif Nat.beq f 65 && Nat.beq i 2 then ([1, 4, 5, 6, 7, 8, 9, 11], [4, 8, 16, 19, 33, 900]) else
  bif Nat.beq f 65 && Nat.beq i 4 then ([1, 4, 6, 7, 8, 9, 10, 11, 12, 13, 14], [4, 8, 16, 19, 32, 33, 900]) else
  bif Nat.beq f 67 && Nat.beq i 0 then ([3], [7]) else
  bif Nat.beq f 67 && Nat.beq i 2 then ([0, 3, 4, 5], [7]) else
  bif Nat.beq f 67 && Nat.beq i 4 then ([0, 3, 4, 5], [7]) else
  bif Nat.beq f 68 && Nat.beq i 0 then ([5], [10]) else
  bif Nat.beq f 68 && Nat.beq i 2 then ([2, 5, 6], [2, 10]) else
  bif Nat.beq f 68 && Nat.beq i 4 then ([2, 5, 6, 7], [2, 10]) else
  bif Nat.beq f 70 && Nat.beq i 0 then ([4], [10]) else
  bif Nat.beq f 71 && Nat.beq i 0 then ([6], [9]) else
  bif Nat.beq f 76 && Nat.beq i 0 then ([4], []) else
  bif Nat.beq f 78 && Nat.beq i 0 then ([6, 7], [10]) else
  bif Nat.beq f 80 && Nat.beq i 0 then ([0, 2], []) else
  bif Nat.beq f 82 && Nat.beq i 1 then ([3], []) else
  bif Nat.beq f 83 && Nat.beq i 1 then ([2, 5, 6, 7], [2, 14, 51, 57]) else
  bif Nat.beq f 83 && Nat.beq i 3 then ([5, 6, 7], [14, 51, 57]) else
  bif Nat.beq f 83 && Nat.beq i 5 then ([5], [14]) else
  bif Nat.beq f 83 && Nat.beq i 7 then ([5, 6, 7, 10], [14, 51, 57]) else
  bif Nat.beq f 83 && Nat.beq i 9 then ([5], [14]) else
  bif Nat.beq f 84 && Nat.beq i 1 then ([2, 5], []) else
  bif Nat.beq f 86 && Nat.beq i 0 then ([5], [11]) else
  bif Nat.beq f 86 && Nat.beq i 2 then ([0, 1, 5, 6, 16, 17], [11, 14]) else
  bif Nat.beq f 88 && Nat.beq i 0 then ([4], []) else
  bif Nat.beq f 101 && Nat.beq i 0 then ([5], []) else
  bif Nat.beq f 107 && Nat.beq i 0 then ([4], []) else
  ([], [])
def promT (f i : Nat) : List (Nat × Nat × Nat × Option Nat × Nat × Ty) :=
  bif Nat.beq f 9 && Nat.beq i 2 then [(8, 0, 920, none, 48, (.sl (.st 0)))] else
  bif Nat.beq f 38 && Nat.beq i 0 then [(4, 0, 900, (some 0), 0, (.sl (.st 0))), (5, 0, 901, (some 0), 0, (.sl (.st 0)))] else
  bif Nat.beq f 65 && Nat.beq i 0 then [(8, 0, 900, none, 48, (.sl (.st 0)))] else
  []
def healT (f i : Nat) : List Nat :=
  []
def renT (f i : Nat) : List (Nat × Nat) :=
  bif Nat.beq f 30 && Nat.beq i 0 then [(10, 20)] else
  []
def inlT (f : Nat) : Bool := memN f []
theorem okP : OkP Tryz.prog := OkP.mk' (by kernel_rfl) (by kernel_rfl)
def Φx (L N : Nat) : Tells := addT (addT (addT noTells 74 sortEnt) 25 tidyEnt) 49 (cloneEnt 3)
theorem Φx_ok (L N : Nat) : TellsOk Tryz.prog (Φx L N) := addT_ok (addT_ok (addT_ok (no_ok _) (sort_ok ⟨Tryz.f74, rfl, by kernel_rfl, by kernel_rfl⟩ sortC sortNone)) (tidy_ok ⟨Tryz.f25, rfl, by kernel_rfl, by kernel_rfl⟩ tidyC tidyNone)) (clone_ok ⟨Tryz.f49, rfl, by kernel_rfl, by kernel_rfl⟩ cloneC cloneZero cloneNil)
def f45.b' {R : Type} (L N : Nat) (k : Bool → Option R) (x0 : Int) : Option R :=
  bif (decide (x0 ≥ (-4 : Int))) then
    k (decide (x0 ≤ (4 : Int)))
  else k false
def f45.b {R : Type} (L N : Nat) (k : Bool → Option R) (x0 : Int) : Option R :=
  f45.b' L N k x0
def f45 (L N : Nat) (x0 : Int) : Option (Bool) := f45.b L N some x0
def f45.ent (L N : Nat) := entRo [i64] (.one .bool) fun d => f45 L N d.1
noncomputable def E45 (L N : Nat) : Env := { P := Tryz.prog, ty := tyOf, Φ := (Φx L N), inl := inlT, live := lives, liveX := livesX, L := L, dp := none, prom := promT, heal := healT, ren := renT }
theorem f45.b_eq {R : Type} (L N : Nat) (κ : AV → Option R) (x0 : Int) :
    evBody (E45 L N) (evCallI (E45 L N) 0 1000) 1000 45 Tryz.f45 [(.tv i64 x0)] [] [] (finC (.one .bool) κ)
    = f45.b L N (fun a0 => κ (.tv .bool a0)) x0 := by kernel_rfl
theorem f45.ok (L N : Nat) (hΦ : TellsOk Tryz.prog ((Φx L N))) : EntOk Tryz.prog 45 (f45.ent L N) := entRo_ok (E := (E45 L N)) (dep := 1000) (f := Tryz.f45) (sound_of hΦ) okP (callI_sound (sound_of hΦ) okP 0 1000) rfl rfl fun d _ hy => (f45.b_eq L N (unR (.one .bool)) d.1).trans (Eq.trans (b := f45.b L N some d.1) (by kernel_rfl) hy)
def Φ45 (L N : Nat) : Tells := (addT (Φx L N) 45 (f45.ent L N))
theorem Φ45_ok (L N : Nat) : TellsOk Tryz.prog (Φ45 L N) := addT_ok (Φx_ok L N) (f45.ok L N (Φx_ok L N))
def f85.b' {R : Type} (L N : Nat) (k : Bool → Option R) (x0 : Int) : Option R :=
  k (x0 != x0)
def f85.b {R : Type} (L N : Nat) (k : Bool → Option R) (x0 : Int) : Option R :=
  f85.b' L N k x0
def f85 (L N : Nat) (x0 : Int) : Option (Bool) := f85.b L N some x0
def f85.ent (L N : Nat) := entRo [i64] (.one .bool) fun d => f85 L N d.1
noncomputable def E85 (L N : Nat) : Env := { P := Tryz.prog, ty := tyOf, Φ := (Φ45 L N), inl := inlT, live := lives, liveX := livesX, L := L, dp := none, prom := promT, heal := healT, ren := renT }
theorem f85.b_eq {R : Type} (L N : Nat) (κ : AV → Option R) (x0 : Int) :
    evBody (E85 L N) (evCallI (E85 L N) 0 1000) 1000 85 Tryz.f85 [(.tv i64 x0)] [] [] (finC (.one .bool) κ)
    = f85.b L N (fun a0 => κ (.tv .bool a0)) x0 := by kernel_rfl
theorem f85.ok (L N : Nat) (hΦ : TellsOk Tryz.prog ((Φ45 L N))) : EntOk Tryz.prog 85 (f85.ent L N) := entRo_ok (E := (E85 L N)) (dep := 1000) (f := Tryz.f85) (sound_of hΦ) okP (callI_sound (sound_of hΦ) okP 0 1000) rfl rfl fun d _ hy => (f85.b_eq L N (unR (.one .bool)) d.1).trans (Eq.trans (b := f85.b L N some d.1) (by kernel_rfl) hy)
def Φ85 (L N : Nat) : Tells := (addT (Φ45 L N) 85 (f85.ent L N))
theorem Φ85_ok (L N : Nat) : TellsOk Tryz.prog (Φ85 L N) := addT_ok (Φ45_ok L N) (f85.ok L N (Φ45_ok L N))
def f69.b' {R : Type} (L N : Nat) (k : Int → Option R) (x0 : Int) (x1 : Int) : Option R :=
  (f85 L N x0).bind fun y0 =>
  (f85 L N x1).bind fun y1 =>
  bif y0 then
    bif y1 then
      k (0 : Int)
    else k (-1 : Int)
  else bif y1 then
    k (1 : Int)
  else bif (decide (x0 < x1)) then
    k (-1 : Int)
  else bif (decide (x0 > x1)) then
    k (1 : Int)
  else k (0 : Int)
def f69.b {R : Type} (L N : Nat) (k : Int → Option R) (x0 : Int) (x1 : Int) : Option R :=
  f69.b' L N k x0 x1
def f69 (L N : Nat) (x0 : Int) (x1 : Int) : Option (Int) := f69.b L N some x0 x1
def f69.ent (L N : Nat) := entRo [i64, i64] (.one i64) fun d => f69 L N d.1 d.2.1
noncomputable def E69 (L N : Nat) : Env := { P := Tryz.prog, ty := tyOf, Φ := (Φ85 L N), inl := inlT, live := lives, liveX := livesX, L := L, dp := none, prom := promT, heal := healT, ren := renT }
theorem f69.b_eq {R : Type} (L N : Nat) (κ : AV → Option R) (x0 : Int) (x1 : Int) :
    evBody (E69 L N) (evCallI (E69 L N) 0 1000) 1000 69 Tryz.f69 [(.tv i64 x0), (.tv i64 x1)] [] [] (finC (.one i64) κ)
    = f69.b L N (fun a0 => κ (.tv i64 a0)) x0 x1 := by kernel_rfl
theorem f69.ok (L N : Nat) (hΦ : TellsOk Tryz.prog ((Φ85 L N))) : EntOk Tryz.prog 69 (f69.ent L N) := entRo_ok (E := (E69 L N)) (dep := 1000) (f := Tryz.f69) (sound_of hΦ) okP (callI_sound (sound_of hΦ) okP 0 1000) rfl rfl fun d _ hy => (f69.b_eq L N (unR (.one i64)) d.1 d.2.1).trans (Eq.trans (b := f69.b L N some d.1 d.2.1) (by kernel_rfl) hy)
def Φ69 (L N : Nat) : Tells := (addT (Φ85 L N) 69 (f69.ent L N))
theorem Φ69_ok (L N : Nat) : TellsOk Tryz.prog (Φ69 L N) := addT_ok (Φ85_ok L N) (f69.ok L N (Φ85_ok L N))
def f46.b' {R : Type} (L N : Nat) (k : Int → Option R) (x0 : Move) (x1 : Move) : Option R :=
  (f69 L N x0.act x1.act).bind fun y0 =>
  bif (y0 != (0 : Int)) then
    k y0
  else (f69 L N x0.to x1.to).bind fun y1 =>
  k y1
def f46.b {R : Type} (L N : Nat) (k : Int → Option R) (x0 : Move) (x1 : Move) : Option R :=
  f46.b' L N k x0 x1
def f46 (L N : Nat) (x0 : Move) (x1 : Move) : Option (Int) := f46.b L N some x0 x1
def f46.ent (L N : Nat) := entRo [(.st 0), (.st 0)] (.one i64) fun d => f46 L N d.1 d.2.1
noncomputable def E46 (L N : Nat) : Env := { P := Tryz.prog, ty := tyOf, Φ := (Φ69 L N), inl := inlT, live := lives, liveX := livesX, L := L, dp := none, prom := promT, heal := healT, ren := renT }
theorem f46.b_eq {R : Type} (L N : Nat) (κ : AV → Option R) (x0 : Move) (x1 : Move) :
    evBody (E46 L N) (evCallI (E46 L N) 0 1000) 1000 46 Tryz.f46 [(.tv (.st 0) x0), (.tv (.st 0) x1)] [] [] (finC (.one i64) κ)
    = f46.b L N (fun a0 => κ (.tv i64 a0)) x0 x1 := by kernel_rfl
theorem f46.ok (L N : Nat) (hΦ : TellsOk Tryz.prog ((Φ69 L N))) : EntOk Tryz.prog 46 (f46.ent L N) := entRo_ok (E := (E46 L N)) (dep := 1000) (f := Tryz.f46) (sound_of hΦ) okP (callI_sound (sound_of hΦ) okP 0 1000) rfl rfl fun d _ hy => (f46.b_eq L N (unR (.one i64)) d.1 d.2.1).trans (Eq.trans (b := f46.b L N some d.1 d.2.1) (by kernel_rfl) hy)
def Φ46 (L N : Nat) : Tells := (addT (Φ69 L N) 46 (f46.ent L N))
theorem Φ46_ok (L N : Nat) : TellsOk Tryz.prog (Φ46 L N) := addT_ok (Φ69_ok L N) (f46.ok L N (Φ69_ok L N))
def f21.s1' {R : Type} (L N : Nat) (k1_e2 : LLM → Int → Int → LLM → Option R) (k1_r : Bool → LLM → Int → Int → LLM → Option R) (rec1 : LM → LLM → Int → Int → LM → Int → Int → LLM → Option R) (s7 : LM) (s8 : LLM) (s9 : Int) (s10 : Int) (s11 : LM) (s12 : Int) (s13 : Int) (s14 : LLM) : Option R :=
  bif (decide (s13 < s12)) then
    bif (decide (0 ≤ s13) && decide (s13 < (s11.length : Int))) then
      (f45 L N ((listAt s11 (Ty.dflt (.st 0)) s13.toNat).act)).bind fun y19 =>
      bif (!y19) then
        k1_r false s8 s9 s10 s14
      else bif (decide ((listAt s11 (Ty.dflt (.st 0)) s13.toNat).to < (0 : Int))) then
        k1_r false s8 s9 s10 s14
      else bif (decide ((listAt s11 (Ty.dflt (.st 0)) s13.toNat).to ≥ (s14.length : Int))) then
        k1_r false s8 s9 s10 s14
      else bif (decide (s13 > (0 : Int))) then
        bif (decide (0 ≤ (wi (s13 - (1 : Int)))) && decide ((wi (s13 - (1 : Int))) < (s7.length : Int))) then
          (f46 L N (listAt s7 (Ty.dflt (.st 0)) (wi (s13 - (1 : Int))).toNat) (Move.mk ((listAt s11 (Ty.dflt (.st 0)) s13.toNat).act) ((listAt s11 (Ty.dflt (.st 0)) s13.toNat).to))).bind fun y20 =>
          bif (decide (y20 ≥ (0 : Int))) then
            k1_r false s8 s9 s10 s14
          else rec1 s7 s8 s9 s10 s11 s12 (wi (s13 + (1 : Int))) s14
        else none
      else rec1 s7 s8 s9 s10 s11 s12 (wi (s13 + (1 : Int))) s14
    else none
  else k1_e2 s8 s9 s10 s14
def f21.s1 {R : Type} (L N : Nat) (k1_e2 : LLM → Int → Int → LLM → Option R) (k1_r : Bool → LLM → Int → Int → LLM → Option R) (rec1 : LM → LLM → Int → Int → LM → Int → Int → LLM → Option R) (s7 : LM) (s8 : LLM) (s9 : Int) (s10 : Int) (s11 : LM) (s12 : Int) (s13 : Int) (s14 : LLM) : Option R :=
  f21.s1' L N k1_e2 k1_r rec1 s7 s8 s9 s10 s11 s12 s13 s14
def f21.l1 {R : Type} (L N : Nat) (k1_e2 : LLM → Int → Int → LLM → Option R) (k1_r : Bool → LLM → Int → Int → LLM → Option R) : Nat → LM → LLM → Int → Int → LM → Int → Int → LLM → Option R
  | 0, _, _, _, _, _, _, _, _ => none
  | n + 1, s7, s8, s9, s10, s11, s12, s13, s14 => f21.s1 L N k1_e2 k1_r (f21.l1 L N k1_e2 k1_r n) s7 s8 s9 s10 s11 s12 s13 s14
def f21.T1 (s7 : LM) (s8 : LLM) (s9 : Int) (s10 : Int) (s11 : LM) (s12 : Int) (s13 : Int) (s14 : LLM) : T := mkT 64 [(1, (.ptr 1001 0)), (4, (.tv (.sl (.st 0)) s7)), (18, (.tv (.sl (.sl (.st 0))) s8)), (19, (.tv i64 s9)), (20, (.tv i64 s10)), (24, (.tv (.sl (.st 0)) s11)), (25, (.tv i64 s12)), (26, (.tv i64 s13))]
def f21.H1 (s7 : LM) (s8 : LLM) (s9 : Int) (s10 : Int) (s11 : LM) (s12 : Int) (s13 : Int) (s14 : LLM) : H := [(1001, (.box [(.tv (.sl (.sl (.st 0))) s14)]))]
def f21.T1_e2 (z15 : LLM) (z16 : Int) (z17 : Int) (z18 : LLM) : T := mkT 64 [(1, (.ptr 1001 0)), (18, (.tv (.sl (.sl (.st 0))) z15)), (19, (.tv i64 z16)), (20, (.tv i64 z17))]
def f21.H1_e2 (z15 : LLM) (z16 : Int) (z17 : Int) (z18 : LLM) : H := [(1001, (.box [(.tv (.sl (.sl (.st 0))) z18)]))]
def f21.T1_r (z30 : Bool) (z31 : LLM) (z32 : Int) (z33 : Int) (z34 : LLM) : T := mkT 64 [(1, (.ptr 1001 0)), (2, (.tv .bool z30)), (18, (.tv (.sl (.sl (.st 0))) z31)), (19, (.tv i64 z32)), (20, (.tv i64 z33))]
def f21.H1_r (z30 : Bool) (z31 : LLM) (z32 : Int) (z33 : Int) (z34 : LLM) : H := [(1001, (.box [(.tv (.sl (.sl (.st 0))) z34)]))]
def f21.p1_e2' {R : Type} (L N : Nat) (k0_e0 : Option R) (k0_r : Bool → Option R) (rec0 : LLM → Int → Int → LLM → Option R) (z15 : LLM) (z16 : Int) (z17 : Int) (z18 : LLM) : Option R :=
  rec0 z15 z16 (wi (z17 + (1 : Int))) z18
def f21.p1_e2 {R : Type} (L N : Nat) (k0_e0 : Option R) (k0_r : Bool → Option R) (rec0 : LLM → Int → Int → LLM → Option R) (z15 : LLM) (z16 : Int) (z17 : Int) (z18 : LLM) : Option R :=
  f21.p1_e2' L N k0_e0 k0_r rec0 z15 z16 z17 z18
def f21.p1_r' {R : Type} (L N : Nat) (k0_e0 : Option R) (k0_r : Bool → Option R) (rec0 : LLM → Int → Int → LLM → Option R) (z30 : Bool) (z31 : LLM) (z32 : Int) (z33 : Int) (z34 : LLM) : Option R :=
  k0_r z30
def f21.p1_r {R : Type} (L N : Nat) (k0_e0 : Option R) (k0_r : Bool → Option R) (rec0 : LLM → Int → Int → LLM → Option R) (z30 : Bool) (z31 : LLM) (z32 : Int) (z33 : Int) (z34 : LLM) : Option R :=
  f21.p1_r' L N k0_e0 k0_r rec0 z30 z31 z32 z33 z34
def f21.s0' {R : Type} (L N : Nat) (k0_e0 : Option R) (k0_r : Bool → Option R) (rec0 : LLM → Int → Int → LLM → Option R) (w1 : LM → LLM → Int → Int → LM → Int → Int → LLM → Option R) (s3 : LLM) (s4 : Int) (s5 : Int) (s6 : LLM) : Option R :=
  bif (decide (s5 < s4)) then
    bif (decide (0 ≤ s5) && decide (s5 < (s3.length : Int))) then
      w1 (listAt s3 [] s5.toNat) s3 s4 s5 (listAt s3 [] s5.toNat) ((listAt s3 [] s5.toNat).length : Int) (0 : Int) s6
    else none
  else k0_e0
def f21.s0 {R : Type} (L N : Nat) (k0_e0 : Option R) (k0_r : Bool → Option R) (rec0 : LLM → Int → Int → LLM → Option R) (s3 : LLM) (s4 : Int) (s5 : Int) (s6 : LLM) : Option R :=
  f21.s0' L N k0_e0 k0_r rec0 (fun s7 s8 s9 s10 s11 s12 s13 s14 => f21.l1 L N (fun z15 z16 z17 z18 => f21.p1_e2 L N k0_e0 k0_r rec0 z15 z16 z17 z18) (fun z30 z31 z32 z33 z34 => f21.p1_r L N k0_e0 k0_r rec0 z30 z31 z32 z33 z34) L s7 s8 s9 s10 s11 s12 s13 s14) s3 s4 s5 s6
def f21.l0 {R : Type} (L N : Nat) (k0_e0 : Option R) (k0_r : Bool → Option R) : Nat → LLM → Int → Int → LLM → Option R
  | 0, _, _, _, _ => none
  | n + 1, s3, s4, s5, s6 => f21.s0 L N k0_e0 k0_r (f21.l0 L N k0_e0 k0_r n) s3 s4 s5 s6
def f21.T0 (s3 : LLM) (s4 : Int) (s5 : Int) (s6 : LLM) : T := mkT 64 [(1, (.ptr 1001 0)), (18, (.tv (.sl (.sl (.st 0))) s3)), (19, (.tv i64 s4)), (20, (.tv i64 s5))]
def f21.H0 (s3 : LLM) (s4 : Int) (s5 : Int) (s6 : LLM) : H := [(1001, (.box [(.tv (.sl (.sl (.st 0))) s6)]))]
def f21.T0_e0 : T := mkT 64 []
def f21.H0_e0 : H := []
def f21.T0_r (z43 : Bool) : T := mkT 64 [(2, (.tv .bool z43))]
def f21.H0_r (z43 : Bool) : H := []
def f21.p0_e0' {R : Type} (L N : Nat) (k : Bool → Option R) : Option R :=
  k true
def f21.p0_e0 {R : Type} (L N : Nat) (k : Bool → Option R) : Option R :=
  f21.p0_e0' L N k
def f21.p0_r' {R : Type} (L N : Nat) (k : Bool → Option R) (z43 : Bool) : Option R :=
  k z43
def f21.p0_r {R : Type} (L N : Nat) (k : Bool → Option R) (z43 : Bool) : Option R :=
  f21.p0_r' L N k z43
def f21.j0' {R : Type} (L N : Nat) (k : Bool → Option R) (w0 : LLM → Int → Int → LLM → Option R) (v2 : LLM) : Option R :=
  w0 v2 (v2.length : Int) (0 : Int) v2
def f21.b' {R : Type} (L N : Nat) (k : Bool → Option R) (w0 : LLM → Int → Int → LLM → Option R) (x0 : Graph) : Option R :=
  bif (decide ((x0.moves.length : Int) < (1 : Int))) then
    k false
  else bif (decide ((x0.moves.length : Int) > (60 : Int))) then
    k false
  else f21.j0' L N k w0 x0.moves
def f21.b {R : Type} (L N : Nat) (k : Bool → Option R) (x0 : Graph) : Option R :=
  f21.b' L N k (fun s3 s4 s5 s6 => f21.l0 L N (f21.p0_e0 L N k) (fun z43 => f21.p0_r L N k z43) L s3 s4 s5 s6) x0
def f21 (L N : Nat) (x0 : Graph) : Option (Bool) := f21.b L N some x0
def f21.ent (L N : Nat) := entRo [(.st 2)] (.one .bool) fun d => f21 L N d.1
noncomputable def E21 (L N : Nat) : Env := { P := Tryz.prog, ty := tyOf, Φ := (Φ46 L N), inl := inlT, live := lives, liveX := livesX, L := L, dp := none, prom := promT, heal := healT, ren := renT }
noncomputable def f21.c0 : Code := loopAt 0 (codeOf Tryz.f21)
noncomputable def f21.c1 : Code := loopAt 2 f21.c0
def f21.X1_e2 {R : Type} (κ : KX R) := fun z15 z16 z17 z18 => κ (.exit 2) (f21.T1_e2 z15 z16 z17 z18) (f21.H1_e2 z15 z16 z17 z18)
def f21.X1_r {R : Type} (κ : KX R) := fun z30 z31 z32 z33 z34 => κ .ret (f21.T1_r z30 z31 z32 z33 z34) (f21.H1_r z30 z31 z32 z33 z34)
def f21.R1 {R : Type} (rec : KT R) := fun s7 s8 s9 s10 s11 s12 s13 s14 => rec (f21.T1 s7 s8 s9 s10 s11 s12 s13 s14) (f21.H1 s7 s8 s9 s10 s11 s12 s13 s14)
theorem f21.s1_eq {R : Type} (L N : Nat) (κ : KX R) (rec : KT R) (s7 : LM) (s8 : LLM) (s9 : Int) (s10 : Int) (s11 : LM) (s12 : Int) (s13 : Int) (s14 : LLM) :
    evRd (E21 L N) (evCallI (E21 L N) 0 1000) 1000 21 64 2 f21.c1 κ rec (f21.T1 s7 s8 s9 s10 s11 s12 s13 s14) (f21.H1 s7 s8 s9 s10 s11 s12 s13 s14)
    = f21.s1 L N (f21.X1_e2 κ) (f21.X1_r κ) (f21.R1 rec) s7 s8 s9 s10 s11 s12 s13 s14 := by kernel_rfl
theorem f21.l1_eq {R : Type} (L N : Nat) (κ : KX R) : ∀ (n : Nat) (s7 : LM) (s8 : LLM) (s9 : Int) (s10 : Int) (s11 : LM) (s12 : Int) (s13 : Int) (s14 : LLM),
    evLp (E21 L N) (evCallI (E21 L N) 0 1000) 1000 21 64 2 f21.c1 κ n (f21.T1 s7 s8 s9 s10 s11 s12 s13 s14) (f21.H1 s7 s8 s9 s10 s11 s12 s13 s14)
    = f21.l1 L N (f21.X1_e2 κ) (f21.X1_r κ) n s7 s8 s9 s10 s11 s12 s13 s14 := by
  intro n
  induction n with
  | zero => intros; rfl
  | succ n ih =>
    intro s7 s8 s9 s10 s11 s12 s13 s14
    rw [evLp_succ, f21.s1_eq]
    delta f21.R1
    simp only [ih]
    rfl
def f21.X0_e0 {R : Type} (κ : KX R) := κ (.exit 0) f21.T0_e0 f21.H0_e0
def f21.X0_r {R : Type} (κ : KX R) := fun z43 => κ .ret (f21.T0_r z43) (f21.H0_r z43)
def f21.R0 {R : Type} (rec : KT R) := fun s3 s4 s5 s6 => rec (f21.T0 s3 s4 s5 s6) (f21.H0 s3 s4 s5 s6)
theorem f21.p1_e2_eq {R : Type} (L N : Nat) (κ : KX R) (rec : KT R) (z15 : LLM) (z16 : Int) (z17 : Int) (z18 : LLM) :
    (contAt (E21 L N) (evCallI (E21 L N) 0 1000) 1000 21 64 2 f21.c0 (rdK (E21 L N) 1000 21 64 0 κ rec)) (.exit 2) (f21.T1_e2 z15 z16 z17 z18) (f21.H1_e2 z15 z16 z17 z18)
    = f21.p1_e2 L N (f21.X0_e0 κ) (f21.X0_r κ) (f21.R0 rec) z15 z16 z17 z18 := by kernel_rfl
theorem f21.p1_r_eq {R : Type} (L N : Nat) (κ : KX R) (rec : KT R) (z30 : Bool) (z31 : LLM) (z32 : Int) (z33 : Int) (z34 : LLM) :
    (contAt (E21 L N) (evCallI (E21 L N) 0 1000) 1000 21 64 2 f21.c0 (rdK (E21 L N) 1000 21 64 0 κ rec)) .ret (f21.T1_r z30 z31 z32 z33 z34) (f21.H1_r z30 z31 z32 z33 z34)
    = f21.p1_r L N (f21.X0_e0 κ) (f21.X0_r κ) (f21.R0 rec) z30 z31 z32 z33 z34 := by kernel_rfl
theorem f21.s0_eq {R : Type} (L N : Nat) (κ : KX R) (rec : KT R) (s3 : LLM) (s4 : Int) (s5 : Int) (s6 : LLM) :
    evRd (E21 L N) (evCallI (E21 L N) 0 1000) 1000 21 64 0 f21.c0 κ rec (f21.T0 s3 s4 s5 s6) (f21.H0 s3 s4 s5 s6)
    = f21.s0 L N (f21.X0_e0 κ) (f21.X0_r κ) (f21.R0 rec) s3 s4 s5 s6 := by
  refine Eq.trans (b := f21.s0' L N (f21.X0_e0 κ) (f21.X0_r κ) (f21.R0 rec) (fun s7 s8 s9 s10 s11 s12 s13 s14 => evLp (E21 L N) (evCallI (E21 L N) 0 1000) 1000 21 64 2 f21.c1 (contAt (E21 L N) (evCallI (E21 L N) 0 1000) 1000 21 64 2 f21.c0 (rdK (E21 L N) 1000 21 64 0 κ rec)) L (f21.T1 s7 s8 s9 s10 s11 s12 s13 s14) (f21.H1 s7 s8 s9 s10 s11 s12 s13 s14)) s3 s4 s5 s6) (by kernel_rfl) ?_
  unfold f21.s0
  simp only [f21.l1_eq]
  delta f21.X1_e2 f21.X1_r
  simp only [f21.p1_e2_eq, f21.p1_r_eq]
theorem f21.l0_eq {R : Type} (L N : Nat) (κ : KX R) : ∀ (n : Nat) (s3 : LLM) (s4 : Int) (s5 : Int) (s6 : LLM),
    evLp (E21 L N) (evCallI (E21 L N) 0 1000) 1000 21 64 0 f21.c0 κ n (f21.T0 s3 s4 s5 s6) (f21.H0 s3 s4 s5 s6)
    = f21.l0 L N (f21.X0_e0 κ) (f21.X0_r κ) n s3 s4 s5 s6 := by
  intro n
  induction n with
  | zero => intros; rfl
  | succ n ih =>
    intro s3 s4 s5 s6
    rw [evLp_succ, f21.s0_eq]
    delta f21.R0
    simp only [ih]
    rfl
theorem f21.p0_e0_eq {R : Type} (L N : Nat) (κ : AV → Option R) :
    (contAt (E21 L N) (evCallI (E21 L N) 0 1000) 1000 21 64 0 (codeOf Tryz.f21) (finK (E21 L N) 1000 Tryz.f21 (finC (.one .bool) κ))) (.exit 0) f21.T0_e0 f21.H0_e0
    = f21.p0_e0 L N (fun a0 => κ (.tv .bool a0)) := by kernel_rfl
theorem f21.p0_r_eq {R : Type} (L N : Nat) (κ : AV → Option R) (z43 : Bool) :
    (contAt (E21 L N) (evCallI (E21 L N) 0 1000) 1000 21 64 0 (codeOf Tryz.f21) (finK (E21 L N) 1000 Tryz.f21 (finC (.one .bool) κ))) .ret (f21.T0_r z43) (f21.H0_r z43)
    = f21.p0_r L N (fun a0 => κ (.tv .bool a0)) z43 := by kernel_rfl
theorem f21.b_eq {R : Type} (L N : Nat) (κ : AV → Option R) (x0 : Graph) :
    evBody (E21 L N) (evCallI (E21 L N) 0 1000) 1000 21 Tryz.f21 [(.tv (.st 2) x0)] [] [] (finC (.one .bool) κ)
    = f21.b L N (fun a0 => κ (.tv .bool a0)) x0 := by
  refine Eq.trans (b := f21.b' L N (fun a0 => κ (.tv .bool a0)) (fun s3 s4 s5 s6 => evLp (E21 L N) (evCallI (E21 L N) 0 1000) 1000 21 64 0 f21.c0 (contAt (E21 L N) (evCallI (E21 L N) 0 1000) 1000 21 64 0 (codeOf Tryz.f21) (finK (E21 L N) 1000 Tryz.f21 (finC (.one .bool) κ))) L (f21.T0 s3 s4 s5 s6) (f21.H0 s3 s4 s5 s6)) x0) (by kernel_rfl) ?_
  unfold f21.b
  simp only [f21.l0_eq]
  delta f21.X0_e0 f21.X0_r
  simp only [f21.p0_e0_eq, f21.p0_r_eq]
theorem f21.ok (L N : Nat) (hΦ : TellsOk Tryz.prog ((Φ46 L N))) : EntOk Tryz.prog 21 (f21.ent L N) := entRo_ok (E := (E21 L N)) (dep := 1000) (f := Tryz.f21) (sound_of hΦ) okP (callI_sound (sound_of hΦ) okP 0 1000) rfl rfl fun d _ hy => (f21.b_eq L N (unR (.one .bool)) d.1).trans (Eq.trans (b := f21.b L N some d.1) (by kernel_rfl) hy)
def Φ21 (L N : Nat) : Tells := (addT (Φ46 L N) 21 (f21.ent L N))
theorem Φ21_ok (L N : Nat) : TellsOk Tryz.prog (Φ21 L N) := addT_ok (Φ46_ok L N) (f21.ok L N (Φ46_ok L N))
def f55.s0' {R : Type} (L N : Nat) (k0_e0 : LLM → LB → LI → Option R) (rec0 : LI → Int → Int → LLM → LB → LI → Option R) (s0 : LI) (s1 : Int) (s2 : Int) (s3 : LLM) (s4 : LB) (s5 : LI) : Option R :=
  bif (decide (s2 < s1)) then
    bif (decide (0 ≤ s2) && decide (s2 < (s0.length : Int))) then
      bif (decide (0 ≤ (listAt s0 (0 : Int) s2.toNat)) && decide ((listAt s0 (0 : Int) s2.toNat) < (s4.length : Int))) then
        bif (!(listAt s4 false (listAt s0 (0 : Int) s2.toNat).toNat)) then
          bif (decide (0 ≤ (listAt s0 (0 : Int) s2.toNat)) && decide ((listAt s0 (0 : Int) s2.toNat) < (s4.length : Int))) then
            bif (decide (s5.length + ([(listAt s0 (0 : Int) s2.toNat)] : LI).length ≤ lim)) then
              rec0 s0 s1 (wi (s2 + (1 : Int))) s3 (s4.set ((listAt s0 (0 : Int) s2.toNat).toNat) true) (s5 ++ ([(listAt s0 (0 : Int) s2.toNat)] : LI))
            else none
          else none
        else rec0 s0 s1 (wi (s2 + (1 : Int))) s3 s4 s5
      else none
    else none
  else k0_e0 s3 s4 s5
def f55.s0 {R : Type} (L N : Nat) (k0_e0 : LLM → LB → LI → Option R) (rec0 : LI → Int → Int → LLM → LB → LI → Option R) (s0 : LI) (s1 : Int) (s2 : Int) (s3 : LLM) (s4 : LB) (s5 : LI) : Option R :=
  f55.s0' L N k0_e0 rec0 s0 s1 s2 s3 s4 s5
def f55.l0 {R : Type} (L N : Nat) (k0_e0 : LLM → LB → LI → Option R) : Nat → LI → Int → Int → LLM → LB → LI → Option R
  | 0, _, _, _, _, _, _ => none
  | n + 1, s0, s1, s2, s3, s4, s5 => f55.s0 L N k0_e0 (f55.l0 L N k0_e0 n) s0 s1 s2 s3 s4 s5
def f55.T0 (s0 : LI) (s1 : Int) (s2 : Int) (s3 : LLM) (s4 : LB) (s5 : LI) : T := mkT 79 [(2, (.ptr 1002 0)), (5, (.row 1015)), (6, (.row 1016)), (17, (.tv (.sl i64) s0)), (18, (.tv i64 s1)), (19, (.tv i64 s2))]
def f55.H0 (s0 : LI) (s1 : Int) (s2 : Int) (s3 : LLM) (s4 : LB) (s5 : LI) : H := [(1002, (.box [(.tv (.sl (.sl (.st 0))) s3)])), (1015, (.row 4 .bool s4)), (1016, (.row 3 i64 s5))]
def f55.T0_e0 (z6 : LLM) (z7 : LB) (z8 : LI) : T := mkT 79 [(2, (.ptr 1002 0)), (5, (.row 1015)), (6, (.row 1016))]
def f55.H0_e0 (z6 : LLM) (z7 : LB) (z8 : LI) : H := [(1002, (.box [(.tv (.sl (.sl (.st 0))) z6)])), (1015, (.row 4 .bool z7)), (1016, (.row 3 i64 z8))]
def f55.j0' {R : Type} (L N : Nat) (k2_e4 : Int → LLM → LB → LI → Option R) (rec2 : Int → LM → Int → Int → LLM → LB → LI → Option R) (v31 : Int) (v32 : LM) (v33 : Int) (v34 : Int) (v35 : Bool) (v36 : LLM) (v37 : Int) (v38 : Int) (v39 : LB) (v40 : LI) : Option R :=
  bif v35 then
    bif (decide (0 ≤ v38) && decide (v38 < (v39.length : Int))) then
      bif (decide (v40.length + ([v38] : LI).length ≤ lim)) then
        rec2 v31 v32 v33 (wi (v34 + (1 : Int))) v36 (v39.set v38.toNat true) (v40 ++ ([v38] : LI))
      else none
    else none
  else rec2 v31 v32 v33 (wi (v34 + (1 : Int))) v36 v39 v40
def f55.s2' {R : Type} (L N : Nat) (k2_e4 : Int → LLM → LB → LI → Option R) (rec2 : Int → LM → Int → Int → LLM → LB → LI → Option R) (s20 : Int) (s21 : LM) (s22 : Int) (s23 : Int) (s24 : LLM) (s25 : LB) (s26 : LI) : Option R :=
  bif (decide (s23 < s22)) then
    bif (decide (0 ≤ s23) && decide (s23 < (s21.length : Int))) then
      bif ((listAt s21 (Ty.dflt (.st 0)) s23.toNat).act == (0 : Int)) then
        bif (decide (0 ≤ (listAt s21 (Ty.dflt (.st 0)) s23.toNat).to) && decide ((listAt s21 (Ty.dflt (.st 0)) s23.toNat).to < (s25.length : Int))) then
          f55.j0' L N k2_e4 rec2 s20 s21 s22 s23 (!(listAt s25 false ((listAt s21 (Ty.dflt (.st 0)) s23.toNat).to).toNat)) s24 ((listAt s21 (Ty.dflt (.st 0)) s23.toNat).act) ((listAt s21 (Ty.dflt (.st 0)) s23.toNat).to) s25 s26
        else none
      else f55.j0' L N k2_e4 rec2 s20 s21 s22 s23 false s24 ((listAt s21 (Ty.dflt (.st 0)) s23.toNat).act) ((listAt s21 (Ty.dflt (.st 0)) s23.toNat).to) s25 s26
    else none
  else k2_e4 s20 s24 s25 s26
def f55.s2 {R : Type} (L N : Nat) (k2_e4 : Int → LLM → LB → LI → Option R) (rec2 : Int → LM → Int → Int → LLM → LB → LI → Option R) (s20 : Int) (s21 : LM) (s22 : Int) (s23 : Int) (s24 : LLM) (s25 : LB) (s26 : LI) : Option R :=
  f55.s2' L N k2_e4 rec2 s20 s21 s22 s23 s24 s25 s26
def f55.l2 {R : Type} (L N : Nat) (k2_e4 : Int → LLM → LB → LI → Option R) : Nat → Int → LM → Int → Int → LLM → LB → LI → Option R
  | 0, _, _, _, _, _, _, _ => none
  | n + 1, s20, s21, s22, s23, s24, s25, s26 => f55.s2 L N k2_e4 (f55.l2 L N k2_e4 n) s20 s21 s22 s23 s24 s25 s26
def f55.T2 (s20 : Int) (s21 : LM) (s22 : Int) (s23 : Int) (s24 : LLM) (s25 : LB) (s26 : LI) : T := mkT 79 [(2, (.ptr 1002 0)), (5, (.row 1015)), (6, (.row 1016)), (9, (.tv i64 s20)), (49, (.tv (.sl (.st 0)) s21)), (50, (.tv i64 s22)), (51, (.tv i64 s23))]
def f55.H2 (s20 : Int) (s21 : LM) (s22 : Int) (s23 : Int) (s24 : LLM) (s25 : LB) (s26 : LI) : H := [(1002, (.box [(.tv (.sl (.sl (.st 0))) s24)])), (1015, (.row 4 .bool s25)), (1016, (.row 3 i64 s26))]
def f55.T2_e4 (z27 : Int) (z28 : LLM) (z29 : LB) (z30 : LI) : T := mkT 79 [(2, (.ptr 1002 0)), (5, (.row 1015)), (6, (.row 1016)), (9, (.tv i64 z27))]
def f55.H2_e4 (z27 : Int) (z28 : LLM) (z29 : LB) (z30 : LI) : H := [(1002, (.box [(.tv (.sl (.sl (.st 0))) z28)])), (1015, (.row 4 .bool z29)), (1016, (.row 3 i64 z30))]
def f55.p2_e4' {R : Type} (L N : Nat) (k1_e2 : LI → Option R) (rec1 : Int → LLM → LB → LI → Option R) (z27 : Int) (z28 : LLM) (z29 : LB) (z30 : LI) : Option R :=
  rec1 (wi (z27 + (1 : Int))) z28 z29 z30
def f55.p2_e4 {R : Type} (L N : Nat) (k1_e2 : LI → Option R) (rec1 : Int → LLM → LB → LI → Option R) (z27 : Int) (z28 : LLM) (z29 : LB) (z30 : LI) : Option R :=
  f55.p2_e4' L N k1_e2 rec1 z27 z28 z29 z30
def f55.s1' {R : Type} (L N : Nat) (k1_e2 : LI → Option R) (rec1 : Int → LLM → LB → LI → Option R) (w2 : Int → LM → Int → Int → LLM → LB → LI → Option R) (s15 : Int) (s16 : LLM) (s17 : LB) (s18 : LI) : Option R :=
  bif (decide (s15 < (s18.length : Int))) then
    bif (decide (0 ≤ s15) && decide (s15 < (s18.length : Int))) then
      bif (decide (0 ≤ (listAt s18 (0 : Int) s15.toNat)) && decide ((listAt s18 (0 : Int) s15.toNat) < (s16.length : Int))) then
        w2 s15 (listAt s16 [] (listAt s18 (0 : Int) s15.toNat).toNat) ((listAt s16 [] (listAt s18 (0 : Int) s15.toNat).toNat).length : Int) (0 : Int) s16 s17 s18
      else none
    else none
  else k1_e2 s18
def f55.s1 {R : Type} (L N : Nat) (k1_e2 : LI → Option R) (rec1 : Int → LLM → LB → LI → Option R) (s15 : Int) (s16 : LLM) (s17 : LB) (s18 : LI) : Option R :=
  f55.s1' L N k1_e2 rec1 (fun s20 s21 s22 s23 s24 s25 s26 => f55.l2 L N (fun z27 z28 z29 z30 => f55.p2_e4 L N k1_e2 rec1 z27 z28 z29 z30) L s20 s21 s22 s23 s24 s25 s26) s15 s16 s17 s18
def f55.l1 {R : Type} (L N : Nat) (k1_e2 : LI → Option R) : Nat → Int → LLM → LB → LI → Option R
  | 0, _, _, _, _ => none
  | n + 1, s15, s16, s17, s18 => f55.s1 L N k1_e2 (f55.l1 L N k1_e2 n) s15 s16 s17 s18
def f55.T1 (s15 : Int) (s16 : LLM) (s17 : LB) (s18 : LI) : T := mkT 79 [(2, (.ptr 1002 0)), (5, (.row 1015)), (6, (.row 1016)), (9, (.tv i64 s15))]
def f55.H1 (s15 : Int) (s16 : LLM) (s17 : LB) (s18 : LI) : H := [(1002, (.box [(.tv (.sl (.sl (.st 0))) s16)])), (1015, (.row 4 .bool s17)), (1016, (.row 3 i64 s18))]
def f55.T1_e2 (z19 : LI) : T := mkT 79 [(6, (.row 1016))]
def f55.H1_e2 (z19 : LI) : H := [(1016, (.row 3 i64 z19))]
def f55.p1_e2' {R : Type} (L N : Nat) (k : LI → Option R) (z19 : LI) : Option R :=
  ((fsort z19)).bind fun y48 =>
  k (sortI z19)
def f55.p1_e2 {R : Type} (L N : Nat) (k : LI → Option R) (z19 : LI) : Option R :=
  f55.p1_e2' L N k z19
def f55.p0_e0' {R : Type} (L N : Nat) (k : LI → Option R) (w1 : Int → LLM → LB → LI → Option R) (z6 : LLM) (z7 : LB) (z8 : LI) : Option R :=
  w1 (0 : Int) z6 z7 z8
def f55.p0_e0 {R : Type} (L N : Nat) (k : LI → Option R) (z6 : LLM) (z7 : LB) (z8 : LI) : Option R :=
  f55.p0_e0' L N k (fun s15 s16 s17 s18 => f55.l1 L N (fun z19 => f55.p1_e2 L N k z19) L s15 s16 s17 s18) z6 z7 z8
def f55.b' {R : Type} (L N : Nat) (k : LI → Option R) (w0 : LI → Int → Int → LLM → LB → LI → Option R) (x0 : Graph) (x1 : LI) : Option R :=
  bif (decide (0 ≤ (x0.moves.length : Int)) && decide ((x0.moves.length : Int) ≤ (lim : Int))) then
    w0 x1 (x1.length : Int) (0 : Int) x0.moves (List.replicate (x0.moves.length : Int).toNat false) ([] : LI)
  else none
def f55.b {R : Type} (L N : Nat) (k : LI → Option R) (x0 : Graph) (x1 : LI) : Option R :=
  f55.b' L N k (fun s0 s1 s2 s3 s4 s5 => f55.l0 L N (fun z6 z7 z8 => f55.p0_e0 L N k z6 z7 z8) L s0 s1 s2 s3 s4 s5) x0 x1
def f55 (L N : Nat) (x0 : Graph) (x1 : LI) : Option (LI) := f55.b L N some x0 x1
def f55.ent (L N : Nat) (args : List AV) (vw : View) (site : Nat) : Ans := match roD [(.st 2), (.sl i64)] vw args with
  | some d => ⟨LI, f55 L N d.1 d.2.1, fun y => (RN.av site .row (), [(site, some (mkO none 3 i64 y))], [])⟩
  | none => Ans.no
noncomputable def E55 (L N : Nat) : Env := { P := Tryz.prog, ty := tyOf, Φ := (Φ21 L N), inl := inlT, live := lives, liveX := livesX, L := L, dp := none, prom := promT, heal := healT, ren := renT }
noncomputable def f55.c0 : Code := loopAt 0 (codeOf Tryz.f55)
def f55.X0_e0 {R : Type} (κ : KX R) := fun z6 z7 z8 => κ (.exit 0) (f55.T0_e0 z6 z7 z8) (f55.H0_e0 z6 z7 z8)
def f55.R0 {R : Type} (rec : KT R) := fun s0 s1 s2 s3 s4 s5 => rec (f55.T0 s0 s1 s2 s3 s4 s5) (f55.H0 s0 s1 s2 s3 s4 s5)
theorem f55.s0_eq {R : Type} (L N : Nat) (κ : KX R) (rec : KT R) (s0 : LI) (s1 : Int) (s2 : Int) (s3 : LLM) (s4 : LB) (s5 : LI) :
    evRd (E55 L N) (evCallI (E55 L N) 0 1000) 1000 55 79 0 f55.c0 κ rec (f55.T0 s0 s1 s2 s3 s4 s5) (f55.H0 s0 s1 s2 s3 s4 s5)
    = f55.s0 L N (f55.X0_e0 κ) (f55.R0 rec) s0 s1 s2 s3 s4 s5 := by kernel_rfl
theorem f55.l0_eq {R : Type} (L N : Nat) (κ : KX R) : ∀ (n : Nat) (s0 : LI) (s1 : Int) (s2 : Int) (s3 : LLM) (s4 : LB) (s5 : LI),
    evLp (E55 L N) (evCallI (E55 L N) 0 1000) 1000 55 79 0 f55.c0 κ n (f55.T0 s0 s1 s2 s3 s4 s5) (f55.H0 s0 s1 s2 s3 s4 s5)
    = f55.l0 L N (f55.X0_e0 κ) n s0 s1 s2 s3 s4 s5 := by
  intro n
  induction n with
  | zero => intros; rfl
  | succ n ih =>
    intro s0 s1 s2 s3 s4 s5
    rw [evLp_succ, f55.s0_eq]
    delta f55.R0
    simp only [ih]
    rfl
noncomputable def f55.c1 : Code := loopAt 2 (codeOf Tryz.f55)
noncomputable def f55.c2 : Code := loopAt 4 f55.c1
def f55.X2_e4 {R : Type} (κ : KX R) := fun z27 z28 z29 z30 => κ (.exit 4) (f55.T2_e4 z27 z28 z29 z30) (f55.H2_e4 z27 z28 z29 z30)
def f55.R2 {R : Type} (rec : KT R) := fun s20 s21 s22 s23 s24 s25 s26 => rec (f55.T2 s20 s21 s22 s23 s24 s25 s26) (f55.H2 s20 s21 s22 s23 s24 s25 s26)
theorem f55.s2_eq {R : Type} (L N : Nat) (κ : KX R) (rec : KT R) (s20 : Int) (s21 : LM) (s22 : Int) (s23 : Int) (s24 : LLM) (s25 : LB) (s26 : LI) :
    evRd (E55 L N) (evCallI (E55 L N) 0 1000) 1000 55 79 4 f55.c2 κ rec (f55.T2 s20 s21 s22 s23 s24 s25 s26) (f55.H2 s20 s21 s22 s23 s24 s25 s26)
    = f55.s2 L N (f55.X2_e4 κ) (f55.R2 rec) s20 s21 s22 s23 s24 s25 s26 := by kernel_rfl
theorem f55.l2_eq {R : Type} (L N : Nat) (κ : KX R) : ∀ (n : Nat) (s20 : Int) (s21 : LM) (s22 : Int) (s23 : Int) (s24 : LLM) (s25 : LB) (s26 : LI),
    evLp (E55 L N) (evCallI (E55 L N) 0 1000) 1000 55 79 4 f55.c2 κ n (f55.T2 s20 s21 s22 s23 s24 s25 s26) (f55.H2 s20 s21 s22 s23 s24 s25 s26)
    = f55.l2 L N (f55.X2_e4 κ) n s20 s21 s22 s23 s24 s25 s26 := by
  intro n
  induction n with
  | zero => intros; rfl
  | succ n ih =>
    intro s20 s21 s22 s23 s24 s25 s26
    rw [evLp_succ, f55.s2_eq]
    delta f55.R2
    simp only [ih]
    rfl
def f55.X1_e2 {R : Type} (κ : KX R) := fun z19 => κ (.exit 2) (f55.T1_e2 z19) (f55.H1_e2 z19)
def f55.R1 {R : Type} (rec : KT R) := fun s15 s16 s17 s18 => rec (f55.T1 s15 s16 s17 s18) (f55.H1 s15 s16 s17 s18)
theorem f55.p2_e4_eq {R : Type} (L N : Nat) (κ : KX R) (rec : KT R) (z27 : Int) (z28 : LLM) (z29 : LB) (z30 : LI) :
    (contAt (E55 L N) (evCallI (E55 L N) 0 1000) 1000 55 79 4 f55.c1 (rdK (E55 L N) 1000 55 79 2 κ rec)) (.exit 4) (f55.T2_e4 z27 z28 z29 z30) (f55.H2_e4 z27 z28 z29 z30)
    = f55.p2_e4 L N (f55.X1_e2 κ) (f55.R1 rec) z27 z28 z29 z30 := by kernel_rfl
theorem f55.s1_eq {R : Type} (L N : Nat) (κ : KX R) (rec : KT R) (s15 : Int) (s16 : LLM) (s17 : LB) (s18 : LI) :
    evRd (E55 L N) (evCallI (E55 L N) 0 1000) 1000 55 79 2 f55.c1 κ rec (f55.T1 s15 s16 s17 s18) (f55.H1 s15 s16 s17 s18)
    = f55.s1 L N (f55.X1_e2 κ) (f55.R1 rec) s15 s16 s17 s18 := by
  refine Eq.trans (b := f55.s1' L N (f55.X1_e2 κ) (f55.R1 rec) (fun s20 s21 s22 s23 s24 s25 s26 => evLp (E55 L N) (evCallI (E55 L N) 0 1000) 1000 55 79 4 f55.c2 (contAt (E55 L N) (evCallI (E55 L N) 0 1000) 1000 55 79 4 f55.c1 (rdK (E55 L N) 1000 55 79 2 κ rec)) L (f55.T2 s20 s21 s22 s23 s24 s25 s26) (f55.H2 s20 s21 s22 s23 s24 s25 s26)) s15 s16 s17 s18) (by kernel_rfl) ?_
  unfold f55.s1
  simp only [f55.l2_eq]
  delta f55.X2_e4
  simp only [f55.p2_e4_eq]
theorem f55.l1_eq {R : Type} (L N : Nat) (κ : KX R) : ∀ (n : Nat) (s15 : Int) (s16 : LLM) (s17 : LB) (s18 : LI),
    evLp (E55 L N) (evCallI (E55 L N) 0 1000) 1000 55 79 2 f55.c1 κ n (f55.T1 s15 s16 s17 s18) (f55.H1 s15 s16 s17 s18)
    = f55.l1 L N (f55.X1_e2 κ) n s15 s16 s17 s18 := by
  intro n
  induction n with
  | zero => intros; rfl
  | succ n ih =>
    intro s15 s16 s17 s18
    rw [evLp_succ, f55.s1_eq]
    delta f55.R1
    simp only [ih]
    rfl
theorem f55.p1_e2_eq {R : Type} (L N : Nat) (κ : RN.Den .row → List Int → Option R) (z19 : LI) :
    (contAt (E55 L N) (evCallI (E55 L N) 0 1000) 1000 55 79 2 (codeOf Tryz.f55) (finK (E55 L N) 1000 Tryz.f55 (finN .row none 3 i64 κ))) (.exit 2) (f55.T1_e2 z19) (f55.H1_e2 z19)
    = f55.p1_e2 L N (fun a0 => κ () a0) z19 := by kernel_rfl
theorem f55.p0_e0_eq {R : Type} (L N : Nat) (κ : RN.Den .row → List Int → Option R) (z6 : LLM) (z7 : LB) (z8 : LI) :
    (contAt (E55 L N) (evCallI (E55 L N) 0 1000) 1000 55 79 0 (codeOf Tryz.f55) (finK (E55 L N) 1000 Tryz.f55 (finN .row none 3 i64 κ))) (.exit 0) (f55.T0_e0 z6 z7 z8) (f55.H0_e0 z6 z7 z8)
    = f55.p0_e0 L N (fun a0 => κ () a0) z6 z7 z8 := by
  refine Eq.trans (b := f55.p0_e0' L N (fun a0 => κ () a0) (fun s15 s16 s17 s18 => evLp (E55 L N) (evCallI (E55 L N) 0 1000) 1000 55 79 2 f55.c1 (contAt (E55 L N) (evCallI (E55 L N) 0 1000) 1000 55 79 2 (codeOf Tryz.f55) (finK (E55 L N) 1000 Tryz.f55 (finN .row none 3 i64 κ))) L (f55.T1 s15 s16 s17 s18) (f55.H1 s15 s16 s17 s18)) z6 z7 z8) (by kernel_rfl) ?_
  unfold f55.p0_e0
  simp only [f55.l1_eq]
  delta f55.X1_e2
  simp only [f55.p1_e2_eq]
theorem f55.b_eq {R : Type} (L N : Nat) (κ : RN.Den .row → List Int → Option R) (x0 : Graph) (x1 : LI) :
    evBody (E55 L N) (evCallI (E55 L N) 0 1000) 1000 55 Tryz.f55 [(.tv (.st 2) x0), (.tv (.sl i64) x1)] [] [] (finN .row none 3 i64 κ)
    = f55.b L N (fun a0 => κ () a0) x0 x1 := by
  refine Eq.trans (b := f55.b' L N (fun a0 => κ () a0) (fun s0 s1 s2 s3 s4 s5 => evLp (E55 L N) (evCallI (E55 L N) 0 1000) 1000 55 79 0 f55.c0 (contAt (E55 L N) (evCallI (E55 L N) 0 1000) 1000 55 79 0 (codeOf Tryz.f55) (finK (E55 L N) 1000 Tryz.f55 (finN .row none 3 i64 κ))) L (f55.T0 s0 s1 s2 s3 s4 s5) (f55.H0 s0 s1 s2 s3 s4 s5)) x0 x1) (by kernel_rfl) ?_
  unfold f55.b
  simp only [f55.l0_eq]
  delta f55.X0_e0
  simp only [f55.p0_e0_eq]
theorem f55.ok (L N : Nat) (hΦ : TellsOk Tryz.prog ((Φ21 L N))) : EntOk Tryz.prog 55 (f55.ent L N) := by
  intro args vw site h
  unfold f55.ent
  split
  · rename_i d ha
    intro y hy hs
    refine call_ron (y := y) (dep := 1000) (E := (E55 L N)) (ts := [(.st 2), (.sl i64)]) (rn := .row) (q := none) (el := 3) (ty := i64) (d1 := ()) (xs := y) (κ := (fun d xs => some xs)) (sound_of hΦ) okP (callI_sound (sound_of hΦ) okP 0 1000) (f := Tryz.f55) rfl hs ha ?_ (fun _ _ h => by obtain rfl := Option.some.inj h; exact ⟨rfl, rfl⟩) rfl site
    exact (f55.b_eq L N (fun d xs => some xs) d.1 d.2.1).trans (Eq.trans (b := f55.b L N some d.1 d.2.1) (by kernel_rfl) hy)
  · intro y hy
    cases hy
def Φ55 (L N : Nat) : Tells := (addT (Φ21 L N) 55 (f55.ent L N))
theorem Φ55_ok (L N : Nat) : TellsOk Tryz.prog (Φ55 L N) := addT_ok (Φ21_ok L N) (f55.ok L N (Φ21_ok L N))
def f56.s1' {R : Type} (L N : Nat) (k1_e2 : Int → LI → Int → Int → LLM → LI → Option R) (rec1 : Int → LI → Int → Int → LM → Int → Int → LLM → LI → Option R) (s8 : Int) (s9 : LI) (s10 : Int) (s11 : Int) (s12 : LM) (s13 : Int) (s14 : Int) (s15 : LLM) (s16 : LI) : Option R :=
  bif (decide (s14 < s13)) then
    bif (decide (0 ≤ s14) && decide (s14 < (s12.length : Int))) then
      bif ((listAt s12 (Ty.dflt (.st 0)) s14.toNat).act == s8) then
        bif (decide (s16.length + ([(listAt s12 (Ty.dflt (.st 0)) s14.toNat).to] : LI).length ≤ lim)) then
          rec1 s8 s9 s10 s11 s12 s13 (wi (s14 + (1 : Int))) s15 (s16 ++ ([(listAt s12 (Ty.dflt (.st 0)) s14.toNat).to] : LI))
        else none
      else rec1 s8 s9 s10 s11 s12 s13 (wi (s14 + (1 : Int))) s15 s16
    else none
  else k1_e2 s8 s9 s10 s11 s15 s16
def f56.s1 {R : Type} (L N : Nat) (k1_e2 : Int → LI → Int → Int → LLM → LI → Option R) (rec1 : Int → LI → Int → Int → LM → Int → Int → LLM → LI → Option R) (s8 : Int) (s9 : LI) (s10 : Int) (s11 : Int) (s12 : LM) (s13 : Int) (s14 : Int) (s15 : LLM) (s16 : LI) : Option R :=
  f56.s1' L N k1_e2 rec1 s8 s9 s10 s11 s12 s13 s14 s15 s16
def f56.l1 {R : Type} (L N : Nat) (k1_e2 : Int → LI → Int → Int → LLM → LI → Option R) : Nat → Int → LI → Int → Int → LM → Int → Int → LLM → LI → Option R
  | 0, _, _, _, _, _, _, _, _, _ => none
  | n + 1, s8, s9, s10, s11, s12, s13, s14, s15, s16 => f56.s1 L N k1_e2 (f56.l1 L N k1_e2 n) s8 s9 s10 s11 s12 s13 s14 s15 s16
def f56.T1 (s8 : Int) (s9 : LI) (s10 : Int) (s11 : Int) (s12 : LM) (s13 : Int) (s14 : Int) (s15 : LLM) (s16 : LI) : T := mkT 43 [(2, (.tv i64 s8)), (3, (.ptr 1003 0)), (7, (.row 1012)), (13, (.tv (.sl i64) s9)), (14, (.tv i64 s10)), (15, (.tv i64 s11)), (23, (.tv (.sl (.st 0)) s12)), (24, (.tv i64 s13)), (25, (.tv i64 s14))]
def f56.H1 (s8 : Int) (s9 : LI) (s10 : Int) (s11 : Int) (s12 : LM) (s13 : Int) (s14 : Int) (s15 : LLM) (s16 : LI) : H := [(1003, (.box [(.tv (.sl (.sl (.st 0))) s15)])), (1012, (.row 3 i64 s16))]
def f56.T1_e2 (z17 : Int) (z18 : LI) (z19 : Int) (z20 : Int) (z21 : LLM) (z22 : LI) : T := mkT 43 [(2, (.tv i64 z17)), (3, (.ptr 1003 0)), (7, (.row 1012)), (13, (.tv (.sl i64) z18)), (14, (.tv i64 z19)), (15, (.tv i64 z20))]
def f56.H1_e2 (z17 : Int) (z18 : LI) (z19 : Int) (z20 : Int) (z21 : LLM) (z22 : LI) : H := [(1003, (.box [(.tv (.sl (.sl (.st 0))) z21)])), (1012, (.row 3 i64 z22))]
def f56.p1_e2' {R : Type} (L N : Nat) (k0_e0 : LLM → LI → Option R) (rec0 : Int → LI → Int → Int → LLM → LI → Option R) (z17 : Int) (z18 : LI) (z19 : Int) (z20 : Int) (z21 : LLM) (z22 : LI) : Option R :=
  rec0 z17 z18 z19 (wi (z20 + (1 : Int))) z21 z22
def f56.p1_e2 {R : Type} (L N : Nat) (k0_e0 : LLM → LI → Option R) (rec0 : Int → LI → Int → Int → LLM → LI → Option R) (z17 : Int) (z18 : LI) (z19 : Int) (z20 : Int) (z21 : LLM) (z22 : LI) : Option R :=
  f56.p1_e2' L N k0_e0 rec0 z17 z18 z19 z20 z21 z22
def f56.s0' {R : Type} (L N : Nat) (k0_e0 : LLM → LI → Option R) (rec0 : Int → LI → Int → Int → LLM → LI → Option R) (w1 : Int → LI → Int → Int → LM → Int → Int → LLM → LI → Option R) (s0 : Int) (s1 : LI) (s2 : Int) (s3 : Int) (s4 : LLM) (s5 : LI) : Option R :=
  bif (decide (s3 < s2)) then
    bif (decide (0 ≤ s3) && decide (s3 < (s1.length : Int))) then
      bif (decide (0 ≤ (listAt s1 (0 : Int) s3.toNat)) && decide ((listAt s1 (0 : Int) s3.toNat) < (s4.length : Int))) then
        w1 s0 s1 s2 s3 (listAt s4 [] (listAt s1 (0 : Int) s3.toNat).toNat) ((listAt s4 [] (listAt s1 (0 : Int) s3.toNat).toNat).length : Int) (0 : Int) s4 s5
      else none
    else none
  else k0_e0 s4 s5
def f56.s0 {R : Type} (L N : Nat) (k0_e0 : LLM → LI → Option R) (rec0 : Int → LI → Int → Int → LLM → LI → Option R) (s0 : Int) (s1 : LI) (s2 : Int) (s3 : Int) (s4 : LLM) (s5 : LI) : Option R :=
  f56.s0' L N k0_e0 rec0 (fun s8 s9 s10 s11 s12 s13 s14 s15 s16 => f56.l1 L N (fun z17 z18 z19 z20 z21 z22 => f56.p1_e2 L N k0_e0 rec0 z17 z18 z19 z20 z21 z22) L s8 s9 s10 s11 s12 s13 s14 s15 s16) s0 s1 s2 s3 s4 s5
def f56.l0 {R : Type} (L N : Nat) (k0_e0 : LLM → LI → Option R) : Nat → Int → LI → Int → Int → LLM → LI → Option R
  | 0, _, _, _, _, _, _ => none
  | n + 1, s0, s1, s2, s3, s4, s5 => f56.s0 L N k0_e0 (f56.l0 L N k0_e0 n) s0 s1 s2 s3 s4 s5
def f56.T0 (s0 : Int) (s1 : LI) (s2 : Int) (s3 : Int) (s4 : LLM) (s5 : LI) : T := mkT 43 [(2, (.tv i64 s0)), (3, (.ptr 1003 0)), (7, (.row 1012)), (13, (.tv (.sl i64) s1)), (14, (.tv i64 s2)), (15, (.tv i64 s3))]
def f56.H0 (s0 : Int) (s1 : LI) (s2 : Int) (s3 : Int) (s4 : LLM) (s5 : LI) : H := [(1003, (.box [(.tv (.sl (.sl (.st 0))) s4)])), (1012, (.row 3 i64 s5))]
def f56.T0_e0 (z6 : LLM) (z7 : LI) : T := mkT 43 [(3, (.ptr 1003 0)), (7, (.row 1012))]
def f56.H0_e0 (z6 : LLM) (z7 : LI) : H := [(1003, (.box [(.tv (.sl (.sl (.st 0))) z6)])), (1012, (.row 3 i64 z7))]
def f56.p0_e0' {R : Type} (L N : Nat) (k : LI → Option R) (z6 : LLM) (z7 : LI) : Option R :=
  (f55 L N (Graph.mk z6) z7).bind fun y32 =>
  k y32
def f56.p0_e0 {R : Type} (L N : Nat) (k : LI → Option R) (z6 : LLM) (z7 : LI) : Option R :=
  f56.p0_e0' L N k z6 z7
def f56.b' {R : Type} (L N : Nat) (k : LI → Option R) (w0 : Int → LI → Int → Int → LLM → LI → Option R) (x0 : Graph) (x1 : LI) (x2 : Int) : Option R :=
  w0 x2 x1 (x1.length : Int) (0 : Int) x0.moves ([] : LI)
def f56.b {R : Type} (L N : Nat) (k : LI → Option R) (x0 : Graph) (x1 : LI) (x2 : Int) : Option R :=
  f56.b' L N k (fun s0 s1 s2 s3 s4 s5 => f56.l0 L N (fun z6 z7 => f56.p0_e0 L N k z6 z7) L s0 s1 s2 s3 s4 s5) x0 x1 x2
def f56 (L N : Nat) (x0 : Graph) (x1 : LI) (x2 : Int) : Option (LI) := f56.b L N some x0 x1 x2
def f56.ent (L N : Nat) (args : List AV) (vw : View) (site : Nat) : Ans := match roD [(.st 2), (.sl i64), i64] vw args with
  | some d => ⟨LI, f56 L N d.1 d.2.1 d.2.2.1, fun y => (RN.av site .row (), [(site, some (mkO none 3 i64 y))], [])⟩
  | none => Ans.no
noncomputable def E56 (L N : Nat) : Env := { P := Tryz.prog, ty := tyOf, Φ := (Φ55 L N), inl := inlT, live := lives, liveX := livesX, L := L, dp := none, prom := promT, heal := healT, ren := renT }
noncomputable def f56.c0 : Code := loopAt 0 (codeOf Tryz.f56)
noncomputable def f56.c1 : Code := loopAt 2 f56.c0
def f56.X1_e2 {R : Type} (κ : KX R) := fun z17 z18 z19 z20 z21 z22 => κ (.exit 2) (f56.T1_e2 z17 z18 z19 z20 z21 z22) (f56.H1_e2 z17 z18 z19 z20 z21 z22)
def f56.R1 {R : Type} (rec : KT R) := fun s8 s9 s10 s11 s12 s13 s14 s15 s16 => rec (f56.T1 s8 s9 s10 s11 s12 s13 s14 s15 s16) (f56.H1 s8 s9 s10 s11 s12 s13 s14 s15 s16)
theorem f56.s1_eq {R : Type} (L N : Nat) (κ : KX R) (rec : KT R) (s8 : Int) (s9 : LI) (s10 : Int) (s11 : Int) (s12 : LM) (s13 : Int) (s14 : Int) (s15 : LLM) (s16 : LI) :
    evRd (E56 L N) (evCallI (E56 L N) 0 1000) 1000 56 43 2 f56.c1 κ rec (f56.T1 s8 s9 s10 s11 s12 s13 s14 s15 s16) (f56.H1 s8 s9 s10 s11 s12 s13 s14 s15 s16)
    = f56.s1 L N (f56.X1_e2 κ) (f56.R1 rec) s8 s9 s10 s11 s12 s13 s14 s15 s16 := by kernel_rfl
theorem f56.l1_eq {R : Type} (L N : Nat) (κ : KX R) : ∀ (n : Nat) (s8 : Int) (s9 : LI) (s10 : Int) (s11 : Int) (s12 : LM) (s13 : Int) (s14 : Int) (s15 : LLM) (s16 : LI),
    evLp (E56 L N) (evCallI (E56 L N) 0 1000) 1000 56 43 2 f56.c1 κ n (f56.T1 s8 s9 s10 s11 s12 s13 s14 s15 s16) (f56.H1 s8 s9 s10 s11 s12 s13 s14 s15 s16)
    = f56.l1 L N (f56.X1_e2 κ) n s8 s9 s10 s11 s12 s13 s14 s15 s16 := by
  intro n
  induction n with
  | zero => intros; rfl
  | succ n ih =>
    intro s8 s9 s10 s11 s12 s13 s14 s15 s16
    rw [evLp_succ, f56.s1_eq]
    delta f56.R1
    simp only [ih]
    rfl
def f56.X0_e0 {R : Type} (κ : KX R) := fun z6 z7 => κ (.exit 0) (f56.T0_e0 z6 z7) (f56.H0_e0 z6 z7)
def f56.R0 {R : Type} (rec : KT R) := fun s0 s1 s2 s3 s4 s5 => rec (f56.T0 s0 s1 s2 s3 s4 s5) (f56.H0 s0 s1 s2 s3 s4 s5)
theorem f56.p1_e2_eq {R : Type} (L N : Nat) (κ : KX R) (rec : KT R) (z17 : Int) (z18 : LI) (z19 : Int) (z20 : Int) (z21 : LLM) (z22 : LI) :
    (contAt (E56 L N) (evCallI (E56 L N) 0 1000) 1000 56 43 2 f56.c0 (rdK (E56 L N) 1000 56 43 0 κ rec)) (.exit 2) (f56.T1_e2 z17 z18 z19 z20 z21 z22) (f56.H1_e2 z17 z18 z19 z20 z21 z22)
    = f56.p1_e2 L N (f56.X0_e0 κ) (f56.R0 rec) z17 z18 z19 z20 z21 z22 := by kernel_rfl
theorem f56.s0_eq {R : Type} (L N : Nat) (κ : KX R) (rec : KT R) (s0 : Int) (s1 : LI) (s2 : Int) (s3 : Int) (s4 : LLM) (s5 : LI) :
    evRd (E56 L N) (evCallI (E56 L N) 0 1000) 1000 56 43 0 f56.c0 κ rec (f56.T0 s0 s1 s2 s3 s4 s5) (f56.H0 s0 s1 s2 s3 s4 s5)
    = f56.s0 L N (f56.X0_e0 κ) (f56.R0 rec) s0 s1 s2 s3 s4 s5 := by
  refine Eq.trans (b := f56.s0' L N (f56.X0_e0 κ) (f56.R0 rec) (fun s8 s9 s10 s11 s12 s13 s14 s15 s16 => evLp (E56 L N) (evCallI (E56 L N) 0 1000) 1000 56 43 2 f56.c1 (contAt (E56 L N) (evCallI (E56 L N) 0 1000) 1000 56 43 2 f56.c0 (rdK (E56 L N) 1000 56 43 0 κ rec)) L (f56.T1 s8 s9 s10 s11 s12 s13 s14 s15 s16) (f56.H1 s8 s9 s10 s11 s12 s13 s14 s15 s16)) s0 s1 s2 s3 s4 s5) (by kernel_rfl) ?_
  unfold f56.s0
  simp only [f56.l1_eq]
  delta f56.X1_e2
  simp only [f56.p1_e2_eq]
theorem f56.l0_eq {R : Type} (L N : Nat) (κ : KX R) : ∀ (n : Nat) (s0 : Int) (s1 : LI) (s2 : Int) (s3 : Int) (s4 : LLM) (s5 : LI),
    evLp (E56 L N) (evCallI (E56 L N) 0 1000) 1000 56 43 0 f56.c0 κ n (f56.T0 s0 s1 s2 s3 s4 s5) (f56.H0 s0 s1 s2 s3 s4 s5)
    = f56.l0 L N (f56.X0_e0 κ) n s0 s1 s2 s3 s4 s5 := by
  intro n
  induction n with
  | zero => intros; rfl
  | succ n ih =>
    intro s0 s1 s2 s3 s4 s5
    rw [evLp_succ, f56.s0_eq]
    delta f56.R0
    simp only [ih]
    rfl
theorem f56.p0_e0_eq {R : Type} (L N : Nat) (κ : RN.Den .row → List Int → Option R) (z6 : LLM) (z7 : LI) :
    (contAt (E56 L N) (evCallI (E56 L N) 0 1000) 1000 56 43 0 (codeOf Tryz.f56) (finK (E56 L N) 1000 Tryz.f56 (finN .row none 3 i64 κ))) (.exit 0) (f56.T0_e0 z6 z7) (f56.H0_e0 z6 z7)
    = f56.p0_e0 L N (fun a0 => κ () a0) z6 z7 := by kernel_rfl
theorem f56.b_eq {R : Type} (L N : Nat) (κ : RN.Den .row → List Int → Option R) (x0 : Graph) (x1 : LI) (x2 : Int) :
    evBody (E56 L N) (evCallI (E56 L N) 0 1000) 1000 56 Tryz.f56 [(.tv (.st 2) x0), (.tv (.sl i64) x1), (.tv i64 x2)] [] [] (finN .row none 3 i64 κ)
    = f56.b L N (fun a0 => κ () a0) x0 x1 x2 := by
  refine Eq.trans (b := f56.b' L N (fun a0 => κ () a0) (fun s0 s1 s2 s3 s4 s5 => evLp (E56 L N) (evCallI (E56 L N) 0 1000) 1000 56 43 0 f56.c0 (contAt (E56 L N) (evCallI (E56 L N) 0 1000) 1000 56 43 0 (codeOf Tryz.f56) (finK (E56 L N) 1000 Tryz.f56 (finN .row none 3 i64 κ))) L (f56.T0 s0 s1 s2 s3 s4 s5) (f56.H0 s0 s1 s2 s3 s4 s5)) x0 x1 x2) (by kernel_rfl) ?_
  unfold f56.b
  simp only [f56.l0_eq]
  delta f56.X0_e0
  simp only [f56.p0_e0_eq]
theorem f56.ok (L N : Nat) (hΦ : TellsOk Tryz.prog ((Φ55 L N))) : EntOk Tryz.prog 56 (f56.ent L N) := by
  intro args vw site h
  unfold f56.ent
  split
  · rename_i d ha
    intro y hy hs
    refine call_ron (y := y) (dep := 1000) (E := (E56 L N)) (ts := [(.st 2), (.sl i64), i64]) (rn := .row) (q := none) (el := 3) (ty := i64) (d1 := ()) (xs := y) (κ := (fun d xs => some xs)) (sound_of hΦ) okP (callI_sound (sound_of hΦ) okP 0 1000) (f := Tryz.f56) rfl hs ha ?_ (fun _ _ h => by obtain rfl := Option.some.inj h; exact ⟨rfl, rfl⟩) rfl site
    exact (f56.b_eq L N (fun d xs => some xs) d.1 d.2.1 d.2.2.1).trans (Eq.trans (b := f56.b L N some d.1 d.2.1 d.2.2.1) (by kernel_rfl) hy)
  · intro y hy
    cases hy
def Φ56 (L N : Nat) : Tells := (addT (Φ55 L N) 56 (f56.ent L N))
theorem Φ56_ok (L N : Nat) : TellsOk Tryz.prog (Φ56 L N) := addT_ok (Φ55_ok L N) (f56.ok L N (Φ55_ok L N))
def f30.s0' {R : Type} (L N : Nat) (k0_e0 : LI → Option R) (rec0 : LI → Int → Int → LLM → LI → Option R) (s1 : LI) (s2 : Int) (s3 : Int) (s4 : LLM) (s5 : LI) : Option R :=
  bif (decide (s3 < s2)) then
    bif (decide (0 ≤ s3) && decide (s3 < (s1.length : Int))) then
      (f56 L N (Graph.mk s4) s5 (listAt s1 (0 : Int) s3.toNat)).bind fun y7 =>
      rec0 s1 s2 (wi (s3 + (1 : Int))) s4 y7
    else none
  else k0_e0 s5
def f30.s0 {R : Type} (L N : Nat) (k0_e0 : LI → Option R) (rec0 : LI → Int → Int → LLM → LI → Option R) (s1 : LI) (s2 : Int) (s3 : Int) (s4 : LLM) (s5 : LI) : Option R :=
  f30.s0' L N k0_e0 rec0 s1 s2 s3 s4 s5
def f30.l0 {R : Type} (L N : Nat) (k0_e0 : LI → Option R) : Nat → LI → Int → Int → LLM → LI → Option R
  | 0, _, _, _, _, _ => none
  | n + 1, s1, s2, s3, s4, s5 => f30.s0 L N k0_e0 (f30.l0 L N k0_e0 n) s1 s2 s3 s4 s5
def f30.T0 (s1 : LI) (s2 : Int) (s3 : Int) (s4 : LLM) (s5 : LI) : T := mkT 23 [(2, (.ptr 1002 0)), (5, (.row 1010)), (11, (.tv (.sl i64) s1)), (12, (.tv i64 s2)), (13, (.tv i64 s3))]
def f30.H0 (s1 : LI) (s2 : Int) (s3 : Int) (s4 : LLM) (s5 : LI) : H := [(1002, (.box [(.tv (.sl (.sl (.st 0))) s4)])), (1010, (.row 3 i64 s5))]
def f30.T0_e0 (z6 : LI) : T := mkT 23 [(5, (.row 1010))]
def f30.H0_e0 (z6 : LI) : H := [(1010, (.row 3 i64 z6))]
def f30.p0_e0' {R : Type} (L N : Nat) (k : LI → Option R) (z6 : LI) : Option R :=
  k z6
def f30.p0_e0 {R : Type} (L N : Nat) (k : LI → Option R) (z6 : LI) : Option R :=
  f30.p0_e0' L N k z6
def f30.b' {R : Type} (L N : Nat) (k : LI → Option R) (w0 : LI → Int → Int → LLM → LI → Option R) (x0 : Graph) (x1 : LI) : Option R :=
  (f55 L N (Graph.mk x0.moves) ([(0 : Int)] : LI)).bind fun y0 =>
  w0 x1 (x1.length : Int) (0 : Int) x0.moves y0
def f30.b {R : Type} (L N : Nat) (k : LI → Option R) (x0 : Graph) (x1 : LI) : Option R :=
  f30.b' L N k (fun s1 s2 s3 s4 s5 => f30.l0 L N (fun z6 => f30.p0_e0 L N k z6) L s1 s2 s3 s4 s5) x0 x1
def f30 (L N : Nat) (x0 : Graph) (x1 : LI) : Option (LI) := f30.b L N some x0 x1
def f30.ent (L N : Nat) (args : List AV) (vw : View) (site : Nat) : Ans := match roD [(.st 2), (.sl i64)] vw args with
  | some d => ⟨LI, f30 L N d.1 d.2.1, fun y => (RN.av site .row (), [(site, some (mkO none 3 i64 y))], [])⟩
  | none => Ans.no
noncomputable def E30 (L N : Nat) : Env := { P := Tryz.prog, ty := tyOf, Φ := (Φ56 L N), inl := inlT, live := lives, liveX := livesX, L := L, dp := none, prom := promT, heal := healT, ren := renT }
noncomputable def f30.c0 : Code := loopAt 0 (codeOf Tryz.f30)
def f30.X0_e0 {R : Type} (κ : KX R) := fun z6 => κ (.exit 0) (f30.T0_e0 z6) (f30.H0_e0 z6)
def f30.R0 {R : Type} (rec : KT R) := fun s1 s2 s3 s4 s5 => rec (f30.T0 s1 s2 s3 s4 s5) (f30.H0 s1 s2 s3 s4 s5)
theorem f30.s0_eq {R : Type} (L N : Nat) (κ : KX R) (rec : KT R) (s1 : LI) (s2 : Int) (s3 : Int) (s4 : LLM) (s5 : LI) :
    evRd (E30 L N) (evCallI (E30 L N) 0 1000) 1000 30 23 0 f30.c0 κ rec (f30.T0 s1 s2 s3 s4 s5) (f30.H0 s1 s2 s3 s4 s5)
    = f30.s0 L N (f30.X0_e0 κ) (f30.R0 rec) s1 s2 s3 s4 s5 := by kernel_rfl
theorem f30.l0_eq {R : Type} (L N : Nat) (κ : KX R) : ∀ (n : Nat) (s1 : LI) (s2 : Int) (s3 : Int) (s4 : LLM) (s5 : LI),
    evLp (E30 L N) (evCallI (E30 L N) 0 1000) 1000 30 23 0 f30.c0 κ n (f30.T0 s1 s2 s3 s4 s5) (f30.H0 s1 s2 s3 s4 s5)
    = f30.l0 L N (f30.X0_e0 κ) n s1 s2 s3 s4 s5 := by
  intro n
  induction n with
  | zero => intros; rfl
  | succ n ih =>
    intro s1 s2 s3 s4 s5
    rw [evLp_succ, f30.s0_eq]
    delta f30.R0
    simp only [ih]
    rfl
theorem f30.p0_e0_eq {R : Type} (L N : Nat) (κ : RN.Den .row → List Int → Option R) (z6 : LI) :
    (contAt (E30 L N) (evCallI (E30 L N) 0 1000) 1000 30 23 0 (codeOf Tryz.f30) (finK (E30 L N) 1000 Tryz.f30 (finN .row none 3 i64 κ))) (.exit 0) (f30.T0_e0 z6) (f30.H0_e0 z6)
    = f30.p0_e0 L N (fun a0 => κ () a0) z6 := by kernel_rfl
theorem f30.b_eq {R : Type} (L N : Nat) (κ : RN.Den .row → List Int → Option R) (x0 : Graph) (x1 : LI) :
    evBody (E30 L N) (evCallI (E30 L N) 0 1000) 1000 30 Tryz.f30 [(.tv (.st 2) x0), (.tv (.sl i64) x1)] [] [] (finN .row none 3 i64 κ)
    = f30.b L N (fun a0 => κ () a0) x0 x1 := by
  refine Eq.trans (b := f30.b' L N (fun a0 => κ () a0) (fun s1 s2 s3 s4 s5 => evLp (E30 L N) (evCallI (E30 L N) 0 1000) 1000 30 23 0 f30.c0 (contAt (E30 L N) (evCallI (E30 L N) 0 1000) 1000 30 23 0 (codeOf Tryz.f30) (finK (E30 L N) 1000 Tryz.f30 (finN .row none 3 i64 κ))) L (f30.T0 s1 s2 s3 s4 s5) (f30.H0 s1 s2 s3 s4 s5)) x0 x1) (by kernel_rfl) ?_
  unfold f30.b
  simp only [f30.l0_eq]
  delta f30.X0_e0
  simp only [f30.p0_e0_eq]
theorem f30.ok (L N : Nat) (hΦ : TellsOk Tryz.prog ((Φ56 L N))) : EntOk Tryz.prog 30 (f30.ent L N) := by
  intro args vw site h
  unfold f30.ent
  split
  · rename_i d ha
    intro y hy hs
    refine call_ron (y := y) (dep := 1000) (E := (E30 L N)) (ts := [(.st 2), (.sl i64)]) (rn := .row) (q := none) (el := 3) (ty := i64) (d1 := ()) (xs := y) (κ := (fun d xs => some xs)) (sound_of hΦ) okP (callI_sound (sound_of hΦ) okP 0 1000) (f := Tryz.f30) rfl hs ha ?_ (fun _ _ h => by obtain rfl := Option.some.inj h; exact ⟨rfl, rfl⟩) rfl site
    exact (f30.b_eq L N (fun d xs => some xs) d.1 d.2.1).trans (Eq.trans (b := f30.b L N some d.1 d.2.1) (by kernel_rfl) hy)
  · intro y hy
    cases hy
def Φ30 (L N : Nat) : Tells := (addT (Φ56 L N) 30 (f30.ent L N))
theorem Φ30_ok (L N : Nat) : TellsOk Tryz.prog (Φ30 L N) := addT_ok (Φ56_ok L N) (f30.ok L N (Φ56_ok L N))
def f53.b' {R : Type} (L N : Nat) (k : Bool → Option R) (x0 : Int) : Option R :=
  (f45 L N x0).bind fun y0 =>
  bif y0 then
    k (x0 != (0 : Int))
  else k false
def f53.b {R : Type} (L N : Nat) (k : Bool → Option R) (x0 : Int) : Option R :=
  f53.b' L N k x0
def f53 (L N : Nat) (x0 : Int) : Option (Bool) := f53.b L N some x0
def f53.ent (L N : Nat) := entRo [i64] (.one .bool) fun d => f53 L N d.1
noncomputable def E53 (L N : Nat) : Env := { P := Tryz.prog, ty := tyOf, Φ := (Φ30 L N), inl := inlT, live := lives, liveX := livesX, L := L, dp := none, prom := promT, heal := healT, ren := renT }
theorem f53.b_eq {R : Type} (L N : Nat) (κ : AV → Option R) (x0 : Int) :
    evBody (E53 L N) (evCallI (E53 L N) 0 1000) 1000 53 Tryz.f53 [(.tv i64 x0)] [] [] (finC (.one .bool) κ)
    = f53.b L N (fun a0 => κ (.tv .bool a0)) x0 := by kernel_rfl
theorem f53.ok (L N : Nat) (hΦ : TellsOk Tryz.prog ((Φ30 L N))) : EntOk Tryz.prog 53 (f53.ent L N) := entRo_ok (E := (E53 L N)) (dep := 1000) (f := Tryz.f53) (sound_of hΦ) okP (callI_sound (sound_of hΦ) okP 0 1000) rfl rfl fun d _ hy => (f53.b_eq L N (unR (.one .bool)) d.1).trans (Eq.trans (b := f53.b L N some d.1) (by kernel_rfl) hy)
def Φ53 (L N : Nat) : Tells := (addT (Φ30 L N) 53 (f53.ent L N))
theorem Φ53_ok (L N : Nat) : TellsOk Tryz.prog (Φ53 L N) := addT_ok (Φ30_ok L N) (f53.ok L N (Φ30_ok L N))
def f52.b' {R : Type} (L N : Nat) (k : Bool → Option R) (x0 : Int) : Option R :=
  (f53 L N x0).bind fun y0 =>
  k (!y0)
def f52.b {R : Type} (L N : Nat) (k : Bool → Option R) (x0 : Int) : Option R :=
  f52.b' L N k x0
def f52 (L N : Nat) (x0 : Int) : Option (Bool) := f52.b L N some x0
def f52.ent (L N : Nat) := entRo [i64] (.one .bool) fun d => f52 L N d.1
noncomputable def E52 (L N : Nat) : Env := { P := Tryz.prog, ty := tyOf, Φ := (Φ53 L N), inl := inlT, live := lives, liveX := livesX, L := L, dp := none, prom := promT, heal := healT, ren := renT }
theorem f52.b_eq {R : Type} (L N : Nat) (κ : AV → Option R) (x0 : Int) :
    evBody (E52 L N) (evCallI (E52 L N) 0 1000) 1000 52 Tryz.f52 [(.tv i64 x0)] [] [] (finC (.one .bool) κ)
    = f52.b L N (fun a0 => κ (.tv .bool a0)) x0 := by kernel_rfl
theorem f52.ok (L N : Nat) (hΦ : TellsOk Tryz.prog ((Φ53 L N))) : EntOk Tryz.prog 52 (f52.ent L N) := entRo_ok (E := (E52 L N)) (dep := 1000) (f := Tryz.f52) (sound_of hΦ) okP (callI_sound (sound_of hΦ) okP 0 1000) rfl rfl fun d _ hy => (f52.b_eq L N (unR (.one .bool)) d.1).trans (Eq.trans (b := f52.b L N some d.1) (by kernel_rfl) hy)
def Φ52 (L N : Nat) : Tells := (addT (Φ53 L N) 52 (f52.ent L N))
theorem Φ52_ok (L N : Nat) : TellsOk Tryz.prog (Φ52 L N) := addT_ok (Φ53_ok L N) (f52.ok L N (Φ53_ok L N))
def f54_1.s0' {R : Type} (L N : Nat) (k0_e0 : Option R) (k0_r : Int → Option R) (rec0 : LI → Int → Int → Option R) (s0 : LI) (s1 : Int) (s2 : Int) : Option R :=
  bif (decide (s2 < s1)) then
    bif (decide (0 ≤ s2) && decide (s2 < (s0.length : Int))) then
      (f52 L N (listAt s0 (0 : Int) s2.toNat)).bind fun y3 =>
      bif y3 then
        k0_r s2
      else rec0 s0 s1 (wi (s2 + (1 : Int)))
    else none
  else k0_e0
def f54_1.s0 {R : Type} (L N : Nat) (k0_e0 : Option R) (k0_r : Int → Option R) (rec0 : LI → Int → Int → Option R) (s0 : LI) (s1 : Int) (s2 : Int) : Option R :=
  f54_1.s0' L N k0_e0 k0_r rec0 s0 s1 s2
def f54_1.l0 {R : Type} (L N : Nat) (k0_e0 : Option R) (k0_r : Int → Option R) : Nat → LI → Int → Int → Option R
  | 0, _, _, _ => none
  | n + 1, s0, s1, s2 => f54_1.s0 L N k0_e0 k0_r (f54_1.l0 L N k0_e0 k0_r n) s0 s1 s2
def f54_1.T0 (s0 : LI) (s1 : Int) (s2 : Int) : T := mkT 19 [(0, (.tv (.sl i64) s0)), (1, (.fn 52 [])), (7, (.tv i64 s1)), (8, (.tv i64 s2))]
def f54_1.H0 (s0 : LI) (s1 : Int) (s2 : Int) : H := []
def f54_1.T0_e0 : T := mkT 19 []
def f54_1.H0_e0 : H := []
def f54_1.T0_r (z4 : Int) : T := mkT 19 [(4, (.tv i64 z4))]
def f54_1.H0_r (z4 : Int) : H := []
def f54_1.p0_e0' {R : Type} (L N : Nat) (k : Int → Option R) : Option R :=
  k (-1 : Int)
def f54_1.p0_e0 {R : Type} (L N : Nat) (k : Int → Option R) : Option R :=
  f54_1.p0_e0' L N k
def f54_1.p0_r' {R : Type} (L N : Nat) (k : Int → Option R) (z4 : Int) : Option R :=
  k z4
def f54_1.p0_r {R : Type} (L N : Nat) (k : Int → Option R) (z4 : Int) : Option R :=
  f54_1.p0_r' L N k z4
def f54_1.b' {R : Type} (L N : Nat) (k : Int → Option R) (w0 : LI → Int → Int → Option R) (x0 : LI) : Option R :=
  w0 x0 (x0.length : Int) (0 : Int)
def f54_1.b {R : Type} (L N : Nat) (k : Int → Option R) (x0 : LI) : Option R :=
  f54_1.b' L N k (fun s0 s1 s2 => f54_1.l0 L N (f54_1.p0_e0 L N k) (fun z4 => f54_1.p0_r L N k z4) L s0 s1 s2) x0
def f54_1 (L N : Nat) (x0 : LI) : Option (Int) := f54_1.b L N some x0
def f54_1.ent (L N : Nat) := entRf [(.dat (.sl i64)), (.fn 52 [])] (.one i64) fun d => f54_1 L N d.1
noncomputable def E54_1 (L N : Nat) : Env := { P := Tryz.prog, ty := tyOf, Φ := (Φ52 L N), inl := inlT, live := lives, liveX := livesX, L := L, dp := none, prom := promT, heal := healT, ren := renT }
noncomputable def f54_1.c0 : Code := loopAt 0 (codeOf Tryz.f54)
def f54_1.X0_e0 {R : Type} (κ : KX R) := κ (.exit 0) f54_1.T0_e0 f54_1.H0_e0
def f54_1.X0_r {R : Type} (κ : KX R) := fun z4 => κ .ret (f54_1.T0_r z4) (f54_1.H0_r z4)
def f54_1.R0 {R : Type} (rec : KT R) := fun s0 s1 s2 => rec (f54_1.T0 s0 s1 s2) (f54_1.H0 s0 s1 s2)
theorem f54_1.s0_eq {R : Type} (L N : Nat) (κ : KX R) (rec : KT R) (s0 : LI) (s1 : Int) (s2 : Int) :
    evRd (E54_1 L N) (evCallI (E54_1 L N) 0 1000) 1000 54 19 0 f54_1.c0 κ rec (f54_1.T0 s0 s1 s2) (f54_1.H0 s0 s1 s2)
    = f54_1.s0 L N (f54_1.X0_e0 κ) (f54_1.X0_r κ) (f54_1.R0 rec) s0 s1 s2 := by kernel_rfl
theorem f54_1.l0_eq {R : Type} (L N : Nat) (κ : KX R) : ∀ (n : Nat) (s0 : LI) (s1 : Int) (s2 : Int),
    evLp (E54_1 L N) (evCallI (E54_1 L N) 0 1000) 1000 54 19 0 f54_1.c0 κ n (f54_1.T0 s0 s1 s2) (f54_1.H0 s0 s1 s2)
    = f54_1.l0 L N (f54_1.X0_e0 κ) (f54_1.X0_r κ) n s0 s1 s2 := by
  intro n
  induction n with
  | zero => intros; rfl
  | succ n ih =>
    intro s0 s1 s2
    rw [evLp_succ, f54_1.s0_eq]
    delta f54_1.R0
    simp only [ih]
    rfl
theorem f54_1.p0_e0_eq {R : Type} (L N : Nat) (κ : AV → Option R) :
    (contAt (E54_1 L N) (evCallI (E54_1 L N) 0 1000) 1000 54 19 0 (codeOf Tryz.f54) (finK (E54_1 L N) 1000 Tryz.f54 (finC (.one i64) κ))) (.exit 0) f54_1.T0_e0 f54_1.H0_e0
    = f54_1.p0_e0 L N (fun a0 => κ (.tv i64 a0)) := by kernel_rfl
theorem f54_1.p0_r_eq {R : Type} (L N : Nat) (κ : AV → Option R) (z4 : Int) :
    (contAt (E54_1 L N) (evCallI (E54_1 L N) 0 1000) 1000 54 19 0 (codeOf Tryz.f54) (finK (E54_1 L N) 1000 Tryz.f54 (finC (.one i64) κ))) .ret (f54_1.T0_r z4) (f54_1.H0_r z4)
    = f54_1.p0_r L N (fun a0 => κ (.tv i64 a0)) z4 := by kernel_rfl
theorem f54_1.b_eq {R : Type} (L N : Nat) (κ : AV → Option R) (x0 : LI) :
    evBody (E54_1 L N) (evCallI (E54_1 L N) 0 1000) 1000 54 Tryz.f54 [(.tv (.sl i64) x0), (.fn 52 [])] [] [] (finC (.one i64) κ)
    = f54_1.b L N (fun a0 => κ (.tv i64 a0)) x0 := by
  refine Eq.trans (b := f54_1.b' L N (fun a0 => κ (.tv i64 a0)) (fun s0 s1 s2 => evLp (E54_1 L N) (evCallI (E54_1 L N) 0 1000) 1000 54 19 0 f54_1.c0 (contAt (E54_1 L N) (evCallI (E54_1 L N) 0 1000) 1000 54 19 0 (codeOf Tryz.f54) (finK (E54_1 L N) 1000 Tryz.f54 (finC (.one i64) κ))) L (f54_1.T0 s0 s1 s2) (f54_1.H0 s0 s1 s2)) x0) (by kernel_rfl) ?_
  unfold f54_1.b
  simp only [f54_1.l0_eq]
  delta f54_1.X0_e0 f54_1.X0_r
  simp only [f54_1.p0_e0_eq, f54_1.p0_r_eq]
theorem f54_1.ok (L N : Nat) (hΦ : TellsOk Tryz.prog ((Φ52 L N))) : EntOkO Tryz.prog 54 (f54_1.ent L N) := entRf_ok (E := (E54_1 L N)) (dep := 1000) (f := Tryz.f54) (sound_of hΦ) okP (callI_sound (sound_of hΦ) okP 0 1000) rfl rfl fun d _ hy => (f54_1.b_eq L N (unR (.one i64)) d.1).trans (Eq.trans (b := f54_1.b L N some d.1) (by kernel_rfl) hy)
def Φ54_1 (L N : Nat) : Tells := (addO (Φ52 L N) 54 (f54_1.ent L N))
theorem Φ54_1_ok (L N : Nat) : TellsOk Tryz.prog (Φ54_1 L N) := addO_ok (Φ52_ok L N) (f54_1.ok L N (Φ52_ok L N))
def f29_1.b' {R : Type} (L N : Nat) (k : Bool → Option R) (x0 : LI) : Option R :=
  (f54_1 L N x0).bind fun y0 =>
  k (decide (y0 ≥ (0 : Int)))
def f29_1.b {R : Type} (L N : Nat) (k : Bool → Option R) (x0 : LI) : Option R :=
  f29_1.b' L N k x0
def f29_1 (L N : Nat) (x0 : LI) : Option (Bool) := f29_1.b L N some x0
def f29_1.ent (L N : Nat) := entRf [(.dat (.sl i64)), (.fn 52 [])] (.one .bool) fun d => f29_1 L N d.1
noncomputable def E29_1 (L N : Nat) : Env := { P := Tryz.prog, ty := tyOf, Φ := (Φ54_1 L N), inl := inlT, live := lives, liveX := livesX, L := L, dp := none, prom := promT, heal := healT, ren := renT }
theorem f29_1.b_eq {R : Type} (L N : Nat) (κ : AV → Option R) (x0 : LI) :
    evBody (E29_1 L N) (evCallI (E29_1 L N) 0 1000) 1000 29 Tryz.f29 [(.tv (.sl i64) x0), (.fn 52 [])] [] [] (finC (.one .bool) κ)
    = f29_1.b L N (fun a0 => κ (.tv .bool a0)) x0 := by kernel_rfl
theorem f29_1.ok (L N : Nat) (hΦ : TellsOk Tryz.prog ((Φ54_1 L N))) : EntOkO Tryz.prog 29 (f29_1.ent L N) := entRf_ok (E := (E29_1 L N)) (dep := 1000) (f := Tryz.f29) (sound_of hΦ) okP (callI_sound (sound_of hΦ) okP 0 1000) rfl rfl fun d _ hy => (f29_1.b_eq L N (unR (.one .bool)) d.1).trans (Eq.trans (b := f29_1.b L N some d.1) (by kernel_rfl) hy)
def Φ29_1 (L N : Nat) : Tells := (addO (Φ54_1 L N) 29 (f29_1.ent L N))
theorem Φ29_1_ok (L N : Nat) : TellsOk Tryz.prog (Φ29_1 L N) := addO_ok (Φ54_1_ok L N) (f29_1.ok L N (Φ54_1_ok L N))
def f27.b' {R : Type} (L N : Nat) (k : Bool → Option R) (x0 : LI) : Option R :=
  (f29_1 L N x0).bind fun y0 =>
  k (!y0)
def f27.b {R : Type} (L N : Nat) (k : Bool → Option R) (x0 : LI) : Option R :=
  f27.b' L N k x0
def f27 (L N : Nat) (x0 : LI) : Option (Bool) := f27.b L N some x0
def f27.ent (L N : Nat) := entRo [(.sl i64)] (.one .bool) fun d => f27 L N d.1
noncomputable def E27 (L N : Nat) : Env := { P := Tryz.prog, ty := tyOf, Φ := (Φ29_1 L N), inl := inlT, live := lives, liveX := livesX, L := L, dp := none, prom := promT, heal := healT, ren := renT }
theorem f27.b_eq {R : Type} (L N : Nat) (κ : AV → Option R) (x0 : LI) :
    evBody (E27 L N) (evCallI (E27 L N) 0 1000) 1000 27 Tryz.f27 [(.tv (.sl i64) x0)] [] [] (finC (.one .bool) κ)
    = f27.b L N (fun a0 => κ (.tv .bool a0)) x0 := by kernel_rfl
theorem f27.ok (L N : Nat) (hΦ : TellsOk Tryz.prog ((Φ29_1 L N))) : EntOk Tryz.prog 27 (f27.ent L N) := entRo_ok (E := (E27 L N)) (dep := 1000) (f := Tryz.f27) (sound_of hΦ) okP (callI_sound (sound_of hΦ) okP 0 1000) rfl rfl fun d _ hy => (f27.b_eq L N (unR (.one .bool)) d.1).trans (Eq.trans (b := f27.b L N some d.1) (by kernel_rfl) hy)
def Φ27 (L N : Nat) : Tells := (addT (Φ29_1 L N) 27 (f27.ent L N))
theorem Φ27_ok (L N : Nat) : TellsOk Tryz.prog (Φ27 L N) := addT_ok (Φ29_1_ok L N) (f27.ok L N (Φ29_1_ok L N))
def f39.b' {R : Type} (L N : Nat) (k : Bool → Option R) (x0 : LI) : Option R :=
  bif (decide ((x0.length : Int) ≤ (20 : Int))) then
    (f27 L N x0).bind fun y0 =>
    k y0
  else k false
def f39.b {R : Type} (L N : Nat) (k : Bool → Option R) (x0 : LI) : Option R :=
  f39.b' L N k x0
def f39 (L N : Nat) (x0 : LI) : Option (Bool) := f39.b L N some x0
def f39.ent (L N : Nat) := entRo [(.sl i64)] (.one .bool) fun d => f39 L N d.1
noncomputable def E39 (L N : Nat) : Env := { P := Tryz.prog, ty := tyOf, Φ := (Φ27 L N), inl := inlT, live := lives, liveX := livesX, L := L, dp := none, prom := promT, heal := healT, ren := renT }
theorem f39.b_eq {R : Type} (L N : Nat) (κ : AV → Option R) (x0 : LI) :
    evBody (E39 L N) (evCallI (E39 L N) 0 1000) 1000 39 Tryz.f39 [(.tv (.sl i64) x0)] [] [] (finC (.one .bool) κ)
    = f39.b L N (fun a0 => κ (.tv .bool a0)) x0 := by kernel_rfl
theorem f39.ok (L N : Nat) (hΦ : TellsOk Tryz.prog ((Φ27 L N))) : EntOk Tryz.prog 39 (f39.ent L N) := entRo_ok (E := (E39 L N)) (dep := 1000) (f := Tryz.f39) (sound_of hΦ) okP (callI_sound (sound_of hΦ) okP 0 1000) rfl rfl fun d _ hy => (f39.b_eq L N (unR (.one .bool)) d.1).trans (Eq.trans (b := f39.b L N some d.1) (by kernel_rfl) hy)
def Φ39 (L N : Nat) : Tells := (addT (Φ27 L N) 39 (f39.ent L N))
theorem Φ39_ok (L N : Nat) : TellsOk Tryz.prog (Φ39 L N) := addT_ok (Φ27_ok L N) (f39.ok L N (Φ27_ok L N))
def f16.b' {R : Type} (L N : Nat) (k : LI → Option R) (x0 : Graph) (x1 : LI) : Option R :=
  (f21 L N (Graph.mk x0.moves)).bind fun y0 =>
  bif (!y0) then
    k []
  else (f39 L N x1).bind fun y1 =>
  bif (!y1) then
    k []
  else (f30 L N (Graph.mk x0.moves) x1).bind fun y9 =>
  k y9
def f16.b {R : Type} (L N : Nat) (k : LI → Option R) (x0 : Graph) (x1 : LI) : Option R :=
  f16.b' L N k x0 x1
def f16 (L N : Nat) (x0 : Graph) (x1 : LI) : Option (LI) := f16.b L N some x0 x1
def f16.ent (L N : Nat) (args : List AV) (vw : View) (site : Nat) : Ans := match roD [(.st 2), (.sl i64)] vw args with
  | some d => ⟨LI, f16 L N d.1 d.2.1, fun y => (RN.av site .row (), [(site, some (mkO none 3 i64 y))], [])⟩
  | none => Ans.no
noncomputable def E16 (L N : Nat) : Env := { P := Tryz.prog, ty := tyOf, Φ := (Φ39 L N), inl := inlT, live := lives, liveX := livesX, L := L, dp := none, prom := promT, heal := healT, ren := renT }
theorem f16.b_eq {R : Type} (L N : Nat) (κ : RN.Den .row → List Int → Option R) (x0 : Graph) (x1 : LI) :
    evBody (E16 L N) (evCallI (E16 L N) 0 1000) 1000 16 Tryz.f16 [(.tv (.st 2) x0), (.tv (.sl i64) x1)] [] [] (finN .row none 3 i64 κ)
    = f16.b L N (fun a0 => κ () a0) x0 x1 := by kernel_rfl
theorem f16.ok (L N : Nat) (hΦ : TellsOk Tryz.prog ((Φ39 L N))) : EntOk Tryz.prog 16 (f16.ent L N) := by
  intro args vw site h
  unfold f16.ent
  split
  · rename_i d ha
    intro y hy hs
    refine call_ron (y := y) (dep := 1000) (E := (E16 L N)) (ts := [(.st 2), (.sl i64)]) (rn := .row) (q := none) (el := 3) (ty := i64) (d1 := ()) (xs := y) (κ := (fun d xs => some xs)) (sound_of hΦ) okP (callI_sound (sound_of hΦ) okP 0 1000) (f := Tryz.f16) rfl hs ha ?_ (fun _ _ h => by obtain rfl := Option.some.inj h; exact ⟨rfl, rfl⟩) rfl site
    exact (f16.b_eq L N (fun d xs => some xs) d.1 d.2.1).trans (Eq.trans (b := f16.b L N some d.1 d.2.1) (by kernel_rfl) hy)
  · intro y hy
    cases hy
def Φ16 (L N : Nat) : Tells := (addT (Φ39 L N) 16 (f16.ent L N))
theorem Φ16_ok (L N : Nat) : TellsOk Tryz.prog (Φ16 L N) := addT_ok (Φ39_ok L N) (f16.ok L N (Φ39_ok L N))
def f6.b' {R : Type} (L N : Nat) (k : Bool → Option R) (x0 : Graph) (x1 : LI) : Option R :=
  (f16 L N (Graph.mk x0.moves) x1).bind fun y0 =>
  k (decide ((y0.length : Int) > (0 : Int)))
def f6.b {R : Type} (L N : Nat) (k : Bool → Option R) (x0 : Graph) (x1 : LI) : Option R :=
  f6.b' L N k x0 x1
def f6 (L N : Nat) (x0 : Graph) (x1 : LI) : Option (Bool) := f6.b L N some x0 x1
def f6.ent (L N : Nat) := entRo [(.st 2), (.sl i64)] (.one .bool) fun d => f6 L N d.1 d.2.1
noncomputable def E6 (L N : Nat) : Env := { P := Tryz.prog, ty := tyOf, Φ := (Φ16 L N), inl := inlT, live := lives, liveX := livesX, L := L, dp := none, prom := promT, heal := healT, ren := renT }
theorem f6.b_eq {R : Type} (L N : Nat) (κ : AV → Option R) (x0 : Graph) (x1 : LI) :
    evBody (E6 L N) (evCallI (E6 L N) 0 1000) 1000 6 Tryz.f6 [(.tv (.st 2) x0), (.tv (.sl i64) x1)] [] [] (finC (.one .bool) κ)
    = f6.b L N (fun a0 => κ (.tv .bool a0)) x0 x1 := by kernel_rfl
theorem f6.ok (L N : Nat) (hΦ : TellsOk Tryz.prog ((Φ16 L N))) : EntOk Tryz.prog 6 (f6.ent L N) := entRo_ok (E := (E6 L N)) (dep := 1000) (f := Tryz.f6) (sound_of hΦ) okP (callI_sound (sound_of hΦ) okP 0 1000) rfl rfl fun d _ hy => (f6.b_eq L N (unR (.one .bool)) d.1 d.2.1).trans (Eq.trans (b := f6.b L N some d.1 d.2.1) (by kernel_rfl) hy)
def Φ6 (L N : Nat) : Tells := (addT (Φ16 L N) 6 (f6.ent L N))
theorem Φ6_ok (L N : Nat) : TellsOk Tryz.prog (Φ6 L N) := addT_ok (Φ16_ok L N) (f6.ok L N (Φ16_ok L N))
def f88.s0' {R : Type} (L N : Nat) (k0_e0 : Option R) (k0_r : Bool → Option R) (rec0 : LI → LI → Int → Int → Option R) (s0 : LI) (s1 : LI) (s2 : Int) (s3 : Int) : Option R :=
  bif (decide (s3 < s2)) then
    bif (decide (0 ≤ s3) && decide (s3 < (s0.length : Int))) then
      bif (decide (0 ≤ s3) && decide (s3 < (s1.length : Int))) then
        bif ((listAt s0 (0 : Int) s3.toNat) != (listAt s1 (0 : Int) s3.toNat)) then
          k0_r false
        else rec0 s0 s1 s2 (wi (s3 + (1 : Int)))
      else none
    else none
  else k0_e0
def f88.s0 {R : Type} (L N : Nat) (k0_e0 : Option R) (k0_r : Bool → Option R) (rec0 : LI → LI → Int → Int → Option R) (s0 : LI) (s1 : LI) (s2 : Int) (s3 : Int) : Option R :=
  f88.s0' L N k0_e0 k0_r rec0 s0 s1 s2 s3
def f88.l0 {R : Type} (L N : Nat) (k0_e0 : Option R) (k0_r : Bool → Option R) : Nat → LI → LI → Int → Int → Option R
  | 0, _, _, _, _ => none
  | n + 1, s0, s1, s2, s3 => f88.s0 L N k0_e0 k0_r (f88.l0 L N k0_e0 k0_r n) s0 s1 s2 s3
def f88.T0 (s0 : LI) (s1 : LI) (s2 : Int) (s3 : Int) : T := mkT 26 [(0, (.tv (.sl i64) s0)), (1, (.tv (.sl i64) s1)), (12, (.tv i64 s2)), (13, (.tv i64 s3))]
def f88.H0 (s0 : LI) (s1 : LI) (s2 : Int) (s3 : Int) : H := []
def f88.T0_e0 : T := mkT 26 []
def f88.H0_e0 : H := []
def f88.T0_r (z4 : Bool) : T := mkT 26 [(4, (.tv .bool z4))]
def f88.H0_r (z4 : Bool) : H := []
def f88.p0_e0' {R : Type} (L N : Nat) (k : Bool → Option R) : Option R :=
  k true
def f88.p0_e0 {R : Type} (L N : Nat) (k : Bool → Option R) : Option R :=
  f88.p0_e0' L N k
def f88.p0_r' {R : Type} (L N : Nat) (k : Bool → Option R) (z4 : Bool) : Option R :=
  k z4
def f88.p0_r {R : Type} (L N : Nat) (k : Bool → Option R) (z4 : Bool) : Option R :=
  f88.p0_r' L N k z4
def f88.b' {R : Type} (L N : Nat) (k : Bool → Option R) (w0 : LI → LI → Int → Int → Option R) (x0 : LI) (x1 : LI) : Option R :=
  bif ((x0.length : Int) != (x1.length : Int)) then
    k false
  else w0 x0 x1 (x0.length : Int) (0 : Int)
def f88.b {R : Type} (L N : Nat) (k : Bool → Option R) (x0 : LI) (x1 : LI) : Option R :=
  f88.b' L N k (fun s0 s1 s2 s3 => f88.l0 L N (f88.p0_e0 L N k) (fun z4 => f88.p0_r L N k z4) L s0 s1 s2 s3) x0 x1
def f88 (L N : Nat) (x0 : LI) (x1 : LI) : Option (Bool) := f88.b L N some x0 x1
def f88.ent (L N : Nat) := entRo [(.sl i64), (.sl i64)] (.one .bool) fun d => f88 L N d.1 d.2.1
noncomputable def E88 (L N : Nat) : Env := { P := Tryz.prog, ty := tyOf, Φ := (Φ6 L N), inl := inlT, live := lives, liveX := livesX, L := L, dp := none, prom := promT, heal := healT, ren := renT }
noncomputable def f88.c0 : Code := loopAt 0 (codeOf Tryz.f88)
def f88.X0_e0 {R : Type} (κ : KX R) := κ (.exit 0) f88.T0_e0 f88.H0_e0
def f88.X0_r {R : Type} (κ : KX R) := fun z4 => κ .ret (f88.T0_r z4) (f88.H0_r z4)
def f88.R0 {R : Type} (rec : KT R) := fun s0 s1 s2 s3 => rec (f88.T0 s0 s1 s2 s3) (f88.H0 s0 s1 s2 s3)
theorem f88.s0_eq {R : Type} (L N : Nat) (κ : KX R) (rec : KT R) (s0 : LI) (s1 : LI) (s2 : Int) (s3 : Int) :
    evRd (E88 L N) (evCallI (E88 L N) 0 1000) 1000 88 26 0 f88.c0 κ rec (f88.T0 s0 s1 s2 s3) (f88.H0 s0 s1 s2 s3)
    = f88.s0 L N (f88.X0_e0 κ) (f88.X0_r κ) (f88.R0 rec) s0 s1 s2 s3 := by kernel_rfl
theorem f88.l0_eq {R : Type} (L N : Nat) (κ : KX R) : ∀ (n : Nat) (s0 : LI) (s1 : LI) (s2 : Int) (s3 : Int),
    evLp (E88 L N) (evCallI (E88 L N) 0 1000) 1000 88 26 0 f88.c0 κ n (f88.T0 s0 s1 s2 s3) (f88.H0 s0 s1 s2 s3)
    = f88.l0 L N (f88.X0_e0 κ) (f88.X0_r κ) n s0 s1 s2 s3 := by
  intro n
  induction n with
  | zero => intros; rfl
  | succ n ih =>
    intro s0 s1 s2 s3
    rw [evLp_succ, f88.s0_eq]
    delta f88.R0
    simp only [ih]
    rfl
theorem f88.p0_e0_eq {R : Type} (L N : Nat) (κ : AV → Option R) :
    (contAt (E88 L N) (evCallI (E88 L N) 0 1000) 1000 88 26 0 (codeOf Tryz.f88) (finK (E88 L N) 1000 Tryz.f88 (finC (.one .bool) κ))) (.exit 0) f88.T0_e0 f88.H0_e0
    = f88.p0_e0 L N (fun a0 => κ (.tv .bool a0)) := by kernel_rfl
theorem f88.p0_r_eq {R : Type} (L N : Nat) (κ : AV → Option R) (z4 : Bool) :
    (contAt (E88 L N) (evCallI (E88 L N) 0 1000) 1000 88 26 0 (codeOf Tryz.f88) (finK (E88 L N) 1000 Tryz.f88 (finC (.one .bool) κ))) .ret (f88.T0_r z4) (f88.H0_r z4)
    = f88.p0_r L N (fun a0 => κ (.tv .bool a0)) z4 := by kernel_rfl
theorem f88.b_eq {R : Type} (L N : Nat) (κ : AV → Option R) (x0 : LI) (x1 : LI) :
    evBody (E88 L N) (evCallI (E88 L N) 0 1000) 1000 88 Tryz.f88 [(.tv (.sl i64) x0), (.tv (.sl i64) x1)] [] [] (finC (.one .bool) κ)
    = f88.b L N (fun a0 => κ (.tv .bool a0)) x0 x1 := by
  refine Eq.trans (b := f88.b' L N (fun a0 => κ (.tv .bool a0)) (fun s0 s1 s2 s3 => evLp (E88 L N) (evCallI (E88 L N) 0 1000) 1000 88 26 0 f88.c0 (contAt (E88 L N) (evCallI (E88 L N) 0 1000) 1000 88 26 0 (codeOf Tryz.f88) (finK (E88 L N) 1000 Tryz.f88 (finC (.one .bool) κ))) L (f88.T0 s0 s1 s2 s3) (f88.H0 s0 s1 s2 s3)) x0 x1) (by kernel_rfl) ?_
  unfold f88.b
  simp only [f88.l0_eq]
  delta f88.X0_e0 f88.X0_r
  simp only [f88.p0_e0_eq, f88.p0_r_eq]
theorem f88.ok (L N : Nat) (hΦ : TellsOk Tryz.prog ((Φ6 L N))) : EntOk Tryz.prog 88 (f88.ent L N) := entRo_ok (E := (E88 L N)) (dep := 1000) (f := Tryz.f88) (sound_of hΦ) okP (callI_sound (sound_of hΦ) okP 0 1000) rfl rfl fun d _ hy => (f88.b_eq L N (unR (.one .bool)) d.1 d.2.1).trans (Eq.trans (b := f88.b L N some d.1 d.2.1) (by kernel_rfl) hy)
def Φ88 (L N : Nat) : Tells := (addT (Φ6 L N) 88 (f88.ent L N))
theorem Φ88_ok (L N : Nat) : TellsOk Tryz.prog (Φ88 L N) := addT_ok (Φ6_ok L N) (f88.ok L N (Φ6_ok L N))
def f107.s0' {R : Type} (L N : Nat) (k0_e0 : Option R) (k0_r : Bool → Option R) (rec0 : LM → LM → Int → Int → Option R) (s0 : LM) (s1 : LM) (s2 : Int) (s3 : Int) : Option R :=
  bif (decide (s3 < s2)) then
    bif (decide (0 ≤ s3) && decide (s3 < (s0.length : Int))) then
      bif (decide (0 ≤ s3) && decide (s3 < (s1.length : Int))) then
        bif (!(Move.eqb (listAt s0 (Ty.dflt (.st 0)) s3.toNat) (listAt s1 (Ty.dflt (.st 0)) s3.toNat))) then
          k0_r false
        else rec0 s0 s1 s2 (wi (s3 + (1 : Int)))
      else none
    else none
  else k0_e0
def f107.s0 {R : Type} (L N : Nat) (k0_e0 : Option R) (k0_r : Bool → Option R) (rec0 : LM → LM → Int → Int → Option R) (s0 : LM) (s1 : LM) (s2 : Int) (s3 : Int) : Option R :=
  f107.s0' L N k0_e0 k0_r rec0 s0 s1 s2 s3
def f107.l0 {R : Type} (L N : Nat) (k0_e0 : Option R) (k0_r : Bool → Option R) : Nat → LM → LM → Int → Int → Option R
  | 0, _, _, _, _ => none
  | n + 1, s0, s1, s2, s3 => f107.s0 L N k0_e0 k0_r (f107.l0 L N k0_e0 k0_r n) s0 s1 s2 s3
def f107.T0 (s0 : LM) (s1 : LM) (s2 : Int) (s3 : Int) : T := mkT 26 [(0, (.tv (.sl (.st 0)) s0)), (1, (.tv (.sl (.st 0)) s1)), (12, (.tv i64 s2)), (13, (.tv i64 s3))]
def f107.H0 (s0 : LM) (s1 : LM) (s2 : Int) (s3 : Int) : H := []
def f107.T0_e0 : T := mkT 26 []
def f107.H0_e0 : H := []
def f107.T0_r (z4 : Bool) : T := mkT 26 [(4, (.tv .bool z4))]
def f107.H0_r (z4 : Bool) : H := []
def f107.p0_e0' {R : Type} (L N : Nat) (k : Bool → Option R) : Option R :=
  k true
def f107.p0_e0 {R : Type} (L N : Nat) (k : Bool → Option R) : Option R :=
  f107.p0_e0' L N k
def f107.p0_r' {R : Type} (L N : Nat) (k : Bool → Option R) (z4 : Bool) : Option R :=
  k z4
def f107.p0_r {R : Type} (L N : Nat) (k : Bool → Option R) (z4 : Bool) : Option R :=
  f107.p0_r' L N k z4
def f107.b' {R : Type} (L N : Nat) (k : Bool → Option R) (w0 : LM → LM → Int → Int → Option R) (x0 : LM) (x1 : LM) : Option R :=
  bif ((x0.length : Int) != (x1.length : Int)) then
    k false
  else w0 x0 x1 (x0.length : Int) (0 : Int)
def f107.b {R : Type} (L N : Nat) (k : Bool → Option R) (x0 : LM) (x1 : LM) : Option R :=
  f107.b' L N k (fun s0 s1 s2 s3 => f107.l0 L N (f107.p0_e0 L N k) (fun z4 => f107.p0_r L N k z4) L s0 s1 s2 s3) x0 x1
def f107 (L N : Nat) (x0 : LM) (x1 : LM) : Option (Bool) := f107.b L N some x0 x1
def f107.ent (L N : Nat) := entRo [(.sl (.st 0)), (.sl (.st 0))] (.one .bool) fun d => f107 L N d.1 d.2.1
noncomputable def E107 (L N : Nat) : Env := { P := Tryz.prog, ty := tyOf, Φ := (Φ88 L N), inl := inlT, live := lives, liveX := livesX, L := L, dp := none, prom := promT, heal := healT, ren := renT }
noncomputable def f107.c0 : Code := loopAt 0 (codeOf Tryz.f107)
def f107.X0_e0 {R : Type} (κ : KX R) := κ (.exit 0) f107.T0_e0 f107.H0_e0
def f107.X0_r {R : Type} (κ : KX R) := fun z4 => κ .ret (f107.T0_r z4) (f107.H0_r z4)
def f107.R0 {R : Type} (rec : KT R) := fun s0 s1 s2 s3 => rec (f107.T0 s0 s1 s2 s3) (f107.H0 s0 s1 s2 s3)
theorem f107.s0_eq {R : Type} (L N : Nat) (κ : KX R) (rec : KT R) (s0 : LM) (s1 : LM) (s2 : Int) (s3 : Int) :
    evRd (E107 L N) (evCallI (E107 L N) 0 1000) 1000 107 26 0 f107.c0 κ rec (f107.T0 s0 s1 s2 s3) (f107.H0 s0 s1 s2 s3)
    = f107.s0 L N (f107.X0_e0 κ) (f107.X0_r κ) (f107.R0 rec) s0 s1 s2 s3 := by kernel_rfl
theorem f107.l0_eq {R : Type} (L N : Nat) (κ : KX R) : ∀ (n : Nat) (s0 : LM) (s1 : LM) (s2 : Int) (s3 : Int),
    evLp (E107 L N) (evCallI (E107 L N) 0 1000) 1000 107 26 0 f107.c0 κ n (f107.T0 s0 s1 s2 s3) (f107.H0 s0 s1 s2 s3)
    = f107.l0 L N (f107.X0_e0 κ) (f107.X0_r κ) n s0 s1 s2 s3 := by
  intro n
  induction n with
  | zero => intros; rfl
  | succ n ih =>
    intro s0 s1 s2 s3
    rw [evLp_succ, f107.s0_eq]
    delta f107.R0
    simp only [ih]
    rfl
theorem f107.p0_e0_eq {R : Type} (L N : Nat) (κ : AV → Option R) :
    (contAt (E107 L N) (evCallI (E107 L N) 0 1000) 1000 107 26 0 (codeOf Tryz.f107) (finK (E107 L N) 1000 Tryz.f107 (finC (.one .bool) κ))) (.exit 0) f107.T0_e0 f107.H0_e0
    = f107.p0_e0 L N (fun a0 => κ (.tv .bool a0)) := by kernel_rfl
theorem f107.p0_r_eq {R : Type} (L N : Nat) (κ : AV → Option R) (z4 : Bool) :
    (contAt (E107 L N) (evCallI (E107 L N) 0 1000) 1000 107 26 0 (codeOf Tryz.f107) (finK (E107 L N) 1000 Tryz.f107 (finC (.one .bool) κ))) .ret (f107.T0_r z4) (f107.H0_r z4)
    = f107.p0_r L N (fun a0 => κ (.tv .bool a0)) z4 := by kernel_rfl
theorem f107.b_eq {R : Type} (L N : Nat) (κ : AV → Option R) (x0 : LM) (x1 : LM) :
    evBody (E107 L N) (evCallI (E107 L N) 0 1000) 1000 107 Tryz.f107 [(.tv (.sl (.st 0)) x0), (.tv (.sl (.st 0)) x1)] [] [] (finC (.one .bool) κ)
    = f107.b L N (fun a0 => κ (.tv .bool a0)) x0 x1 := by
  refine Eq.trans (b := f107.b' L N (fun a0 => κ (.tv .bool a0)) (fun s0 s1 s2 s3 => evLp (E107 L N) (evCallI (E107 L N) 0 1000) 1000 107 26 0 f107.c0 (contAt (E107 L N) (evCallI (E107 L N) 0 1000) 1000 107 26 0 (codeOf Tryz.f107) (finK (E107 L N) 1000 Tryz.f107 (finC (.one .bool) κ))) L (f107.T0 s0 s1 s2 s3) (f107.H0 s0 s1 s2 s3)) x0 x1) (by kernel_rfl) ?_
  unfold f107.b
  simp only [f107.l0_eq]
  delta f107.X0_e0 f107.X0_r
  simp only [f107.p0_e0_eq, f107.p0_r_eq]
theorem f107.ok (L N : Nat) (hΦ : TellsOk Tryz.prog ((Φ88 L N))) : EntOk Tryz.prog 107 (f107.ent L N) := entRo_ok (E := (E107 L N)) (dep := 1000) (f := Tryz.f107) (sound_of hΦ) okP (callI_sound (sound_of hΦ) okP 0 1000) rfl rfl fun d _ hy => (f107.b_eq L N (unR (.one .bool)) d.1 d.2.1).trans (Eq.trans (b := f107.b L N some d.1 d.2.1) (by kernel_rfl) hy)
def Φ107 (L N : Nat) : Tells := (addT (Φ88 L N) 107 (f107.ent L N))
theorem Φ107_ok (L N : Nat) : TellsOk Tryz.prog (Φ107 L N) := addT_ok (Φ88_ok L N) (f107.ok L N (Φ88_ok L N))
def f71_1.s0' {R : Type} (L N : Nat) (k0_e0 : LM → Option R) (rec0 : LI → LM → Int → Int → LM → Option R) (s0 : LI) (s1 : LM) (s2 : Int) (s3 : Int) (s4 : LM) : Option R :=
  bif (decide (s3 < s2)) then
    bif (decide (0 ≤ s3) && decide (s3 < (s1.length : Int))) then
      bif (decide (0 ≤ (listAt s1 (Ty.dflt (.st 0)) s3.toNat).to) && decide ((listAt s1 (Ty.dflt (.st 0)) s3.toNat).to < (s0.length : Int))) then
        bif (decide (s4.length + ([(Move.mk ((listAt s1 (Ty.dflt (.st 0)) s3.toNat).act) (listAt s0 (0 : Int) ((listAt s1 (Ty.dflt (.st 0)) s3.toNat).to).toNat))] : LM).length ≤ lim)) then
          rec0 s0 s1 s2 (wi (s3 + (1 : Int))) (s4 ++ ([(Move.mk ((listAt s1 (Ty.dflt (.st 0)) s3.toNat).act) (listAt s0 (0 : Int) ((listAt s1 (Ty.dflt (.st 0)) s3.toNat).to).toNat))] : LM))
        else none
      else none
    else none
  else k0_e0 s4
def f71_1.s0 {R : Type} (L N : Nat) (k0_e0 : LM → Option R) (rec0 : LI → LM → Int → Int → LM → Option R) (s0 : LI) (s1 : LM) (s2 : Int) (s3 : Int) (s4 : LM) : Option R :=
  f71_1.s0' L N k0_e0 rec0 s0 s1 s2 s3 s4
def f71_1.l0 {R : Type} (L N : Nat) (k0_e0 : LM → Option R) : Nat → LI → LM → Int → Int → LM → Option R
  | 0, _, _, _, _, _ => none
  | n + 1, s0, s1, s2, s3, s4 => f71_1.s0 L N k0_e0 (f71_1.l0 L N k0_e0 n) s0 s1 s2 s3 s4
def f71_1.T0 (s0 : LI) (s1 : LM) (s2 : Int) (s3 : Int) (s4 : LM) : T := mkT 34 [(0, (.tv (.sl i64) s0)), (6, (.row 1009)), (14, (.tv (.sl (.st 0)) s1)), (15, (.tv i64 s2)), (16, (.tv i64 s3))]
def f71_1.H0 (s0 : LI) (s1 : LM) (s2 : Int) (s3 : Int) (s4 : LM) : H := [(1009, (.row 50 (.st 0) s4))]
def f71_1.T0_e0 (z5 : LM) : T := mkT 34 [(6, (.row 1009))]
def f71_1.H0_e0 (z5 : LM) : H := [(1009, (.row 50 (.st 0) z5))]
def f71_1.p0_e0' {R : Type} (L N : Nat) (k : LM → Option R) (z5 : LM) : Option R :=
  ((fsortM z5)).bind fun y6 =>
  k (tidyM z5)
def f71_1.p0_e0 {R : Type} (L N : Nat) (k : LM → Option R) (z5 : LM) : Option R :=
  f71_1.p0_e0' L N k z5
def f71_1.b' {R : Type} (L N : Nat) (k : LM → Option R) (w0 : LI → LM → Int → Int → LM → Option R) (x0 : LI) (x1 : Int) (x2 : LLM) : Option R :=
  bif (decide (0 ≤ x1) && decide (x1 < (x2.length : Int))) then
    w0 x0 (listAt x2 [] x1.toNat) ((listAt x2 [] x1.toNat).length : Int) (0 : Int) ([] : LM)
  else none
def f71_1.b {R : Type} (L N : Nat) (k : LM → Option R) (x0 : LI) (x1 : Int) (x2 : LLM) : Option R :=
  f71_1.b' L N k (fun s0 s1 s2 s3 s4 => f71_1.l0 L N (fun z5 => f71_1.p0_e0 L N k z5) L s0 s1 s2 s3 s4) x0 x1 x2
def f71_1 (L N : Nat) (x0 : LI) (x1 : Int) (x2 : LLM) : Option (LM) := f71_1.b L N some x0 x1 x2
def f71_1.ent (L N : Nat) := entDf [(.dat (.sl i64)), (.dat i64), (.imp (.sl (.sl (.st 0))) 0)] (.one (.sl (.st 0))) fun d => f71_1 L N d.1 d.2.1 d.2.2.1
noncomputable def E71_1 (L N : Nat) : Env := { P := Tryz.prog, ty := tyOf, Φ := (Φ107 L N), inl := inlT, live := lives, liveX := livesX, L := L, dp := none, prom := promT, heal := healT, ren := renT }
noncomputable def f71_1.c0 : Code := loopAt 0 (codeOf Tryz.f71)
def f71_1.X0_e0 {R : Type} (κ : KX R) := fun z5 => κ (.exit 0) (f71_1.T0_e0 z5) (f71_1.H0_e0 z5)
def f71_1.R0 {R : Type} (rec : KT R) := fun s0 s1 s2 s3 s4 => rec (f71_1.T0 s0 s1 s2 s3 s4) (f71_1.H0 s0 s1 s2 s3 s4)
theorem f71_1.s0_eq {R : Type} (L N : Nat) (κ : KX R) (rec : KT R) (s0 : LI) (s1 : LM) (s2 : Int) (s3 : Int) (s4 : LM) :
    evRd (E71_1 L N) (evCallI (E71_1 L N) 0 1000) 1000 71 34 0 f71_1.c0 κ rec (f71_1.T0 s0 s1 s2 s3 s4) (f71_1.H0 s0 s1 s2 s3 s4)
    = f71_1.s0 L N (f71_1.X0_e0 κ) (f71_1.R0 rec) s0 s1 s2 s3 s4 := by kernel_rfl
theorem f71_1.l0_eq {R : Type} (L N : Nat) (κ : KX R) : ∀ (n : Nat) (s0 : LI) (s1 : LM) (s2 : Int) (s3 : Int) (s4 : LM),
    evLp (E71_1 L N) (evCallI (E71_1 L N) 0 1000) 1000 71 34 0 f71_1.c0 κ n (f71_1.T0 s0 s1 s2 s3 s4) (f71_1.H0 s0 s1 s2 s3 s4)
    = f71_1.l0 L N (f71_1.X0_e0 κ) n s0 s1 s2 s3 s4 := by
  intro n
  induction n with
  | zero => intros; rfl
  | succ n ih =>
    intro s0 s1 s2 s3 s4
    rw [evLp_succ, f71_1.s0_eq]
    delta f71_1.R0
    simp only [ih]
    rfl
theorem f71_1.p0_e0_eq {R : Type} (L N : Nat) (κ : AV → Option R) (z5 : LM) :
    (contAt (E71_1 L N) (evCallI (E71_1 L N) 0 1000) 1000 71 34 0 (codeOf Tryz.f71) (finK (E71_1 L N) 1000 Tryz.f71 (finC (.one (.sl (.st 0))) κ))) (.exit 0) (f71_1.T0_e0 z5) (f71_1.H0_e0 z5)
    = f71_1.p0_e0 L N (fun a0 => κ (.tv (.sl (.st 0)) a0)) z5 := by kernel_rfl
theorem f71_1.b_eq {R : Type} (L N : Nat) (κ : AV → Option R) (x0 : LI) (x1 : Int) (x2 : LLM) :
    evBody (E71_1 L N) (evCallI (E71_1 L N) 0 1000) 1000 71 Tryz.f71 [(.tv (.sl i64) x0), (.tv i64 x1), (.imp (.sl (.sl (.st 0))) x2 0)] [] [] (finC (.one (.sl (.st 0))) κ)
    = f71_1.b L N (fun a0 => κ (.tv (.sl (.st 0)) a0)) x0 x1 x2 := by
  refine Eq.trans (b := f71_1.b' L N (fun a0 => κ (.tv (.sl (.st 0)) a0)) (fun s0 s1 s2 s3 s4 => evLp (E71_1 L N) (evCallI (E71_1 L N) 0 1000) 1000 71 34 0 f71_1.c0 (contAt (E71_1 L N) (evCallI (E71_1 L N) 0 1000) 1000 71 34 0 (codeOf Tryz.f71) (finK (E71_1 L N) 1000 Tryz.f71 (finC (.one (.sl (.st 0))) κ))) L (f71_1.T0 s0 s1 s2 s3 s4) (f71_1.H0 s0 s1 s2 s3 s4)) x0 x1 x2) (by kernel_rfl) ?_
  unfold f71_1.b
  simp only [f71_1.l0_eq]
  delta f71_1.X0_e0
  simp only [f71_1.p0_e0_eq]
theorem f71_1.ok (L N : Nat) (hΦ : TellsOk Tryz.prog ((Φ107 L N))) : EntOkO Tryz.prog 71 (f71_1.ent L N) := entDf_ok (E := (E71_1 L N)) (dep := 1000) (f := Tryz.f71) (sound_of hΦ) okP (callI_sound (sound_of hΦ) okP 0 1000) rfl fun d _ hy => (f71_1.b_eq L N (unR (.one (.sl (.st 0)))) d.1 d.2.1 d.2.2.1).trans (Eq.trans (b := f71_1.b L N some d.1 d.2.1 d.2.2.1) (by kernel_rfl) hy)
def Φ71_1 (L N : Nat) : Tells := (addO (Φ107 L N) 71 (f71_1.ent L N))
theorem Φ71_1_ok (L N : Nat) : TellsOk Tryz.prog (Φ71_1 L N) := addO_ok (Φ107_ok L N) (f71_1.ok L N (Φ107_ok L N))
def f87_1.b' {R : Type} (L N : Nat) (k : LM → Option R) (x0 : Int) (x1 : LLM) (x2 : LI) : Option R :=
  (f71_1 L N x2 x0 x1).bind fun y0 =>
  k y0
def f87_1.b {R : Type} (L N : Nat) (k : LM → Option R) (x0 : Int) (x1 : LLM) (x2 : LI) : Option R :=
  f87_1.b' L N k x0 x1 x2
def f87_1 (L N : Nat) (x0 : Int) (x1 : LLM) (x2 : LI) : Option (LM) := f87_1.b L N some x0 x1 x2
def f87_1.ent (L N : Nat) := entDf [(.dat i64), (.pfn 71 [(.imp (.sl (.sl (.st 0))) 0)]), (.imp (.sl i64) 0)] (.one (.sl (.st 0))) fun d => f87_1 L N d.1 d.2.1.1 d.2.2.1
noncomputable def E87_1 (L N : Nat) : Env := { P := Tryz.prog, ty := tyOf, Φ := (Φ71_1 L N), inl := inlT, live := lives, liveX := livesX, L := L, dp := none, prom := promT, heal := healT, ren := renT }
theorem f87_1.b_eq {R : Type} (L N : Nat) (κ : AV → Option R) (x0 : Int) (x1 : LLM) (x2 : LI) :
    evBody (E87_1 L N) (evCallI (E87_1 L N) 0 1000) 1000 87 Tryz.f87 [(.tv i64 x0), (.imf 71 [(.imp (.sl (.sl (.st 0))) x1 0)]), (.imp (.sl i64) x2 0)] [] [] (finC (.one (.sl (.st 0))) κ)
    = f87_1.b L N (fun a0 => κ (.tv (.sl (.st 0)) a0)) x0 x1 x2 := by kernel_rfl
theorem f87_1.ok (L N : Nat) (hΦ : TellsOk Tryz.prog ((Φ71_1 L N))) : EntOkO Tryz.prog 87 (f87_1.ent L N) := entDf_ok (E := (E87_1 L N)) (dep := 1000) (f := Tryz.f87) (sound_of hΦ) okP (callI_sound (sound_of hΦ) okP 0 1000) rfl fun d _ hy => (f87_1.b_eq L N (unR (.one (.sl (.st 0)))) d.1 d.2.1.1 d.2.2.1).trans (Eq.trans (b := f87_1.b L N some d.1 d.2.1.1 d.2.2.1) (by kernel_rfl) hy)
def Φ87_1 (L N : Nat) : Tells := (addO (Φ71_1 L N) 87 (f87_1.ent L N))
theorem Φ87_1_ok (L N : Nat) : TellsOk Tryz.prog (Φ87_1 L N) := addO_ok (Φ71_1_ok L N) (f87_1.ok L N (Φ71_1_ok L N))
def f86_1.j0' {R : Type} (L N : Nat) (k1_e2 : LI → LLM → LI → Int → Int → LI → LLM → Option R) (rec1 : LI → LLM → LI → Int → Int → Int → Int → LI → LLM → Option R) (v26 : LI) (v27 : LLM) (v28 : LI) (v29 : Int) (v30 : Int) (v31 : Int) (v32 : Int) (v33 : Bool) (v34 : LI) (v35 : LLM) : Option R :=
  bif v33 then
    bif (decide (0 ≤ v29) && decide (v29 < (v34.length : Int))) then
      k1_e2 v26 v27 v28 v31 v32 (v34.set v29.toNat v30) v35
    else none
  else rec1 v26 v27 v28 v29 (wi (v30 + (1 : Int))) v31 v32 v34 v35
def f86_1.s1' {R : Type} (L N : Nat) (k1_e2 : LI → LLM → LI → Int → Int → LI → LLM → Option R) (rec1 : LI → LLM → LI → Int → Int → Int → Int → LI → LLM → Option R) (s9 : LI) (s10 : LLM) (s11 : LI) (s12 : Int) (s13 : Int) (s14 : Int) (s15 : Int) (s16 : LI) (s17 : LLM) : Option R :=
  bif (decide (s13 < s12)) then
    bif (decide (0 ≤ s13) && decide (s13 < (s9.length : Int))) then
      bif (decide (0 ≤ s12) && decide (s12 < (s9.length : Int))) then
        bif ((listAt s9 (0 : Int) s13.toNat) == (listAt s9 (0 : Int) s12.toNat)) then
          bif (decide (0 ≤ s13) && decide (s13 < (s17.length : Int))) then
            bif (decide (0 ≤ s12) && decide (s12 < (s17.length : Int))) then
              (f107 L N (listAt s17 [] s13.toNat) (listAt s17 [] s12.toNat)).bind fun y25 =>
              f86_1.j0' L N k1_e2 rec1 s9 s10 s11 s12 s13 s14 s15 y25 s16 s17
            else none
          else none
        else f86_1.j0' L N k1_e2 rec1 s9 s10 s11 s12 s13 s14 s15 false s16 s17
      else none
    else none
  else k1_e2 s9 s10 s11 s14 s15 s16 s17
def f86_1.s1 {R : Type} (L N : Nat) (k1_e2 : LI → LLM → LI → Int → Int → LI → LLM → Option R) (rec1 : LI → LLM → LI → Int → Int → Int → Int → LI → LLM → Option R) (s9 : LI) (s10 : LLM) (s11 : LI) (s12 : Int) (s13 : Int) (s14 : Int) (s15 : Int) (s16 : LI) (s17 : LLM) : Option R :=
  f86_1.s1' L N k1_e2 rec1 s9 s10 s11 s12 s13 s14 s15 s16 s17
def f86_1.l1 {R : Type} (L N : Nat) (k1_e2 : LI → LLM → LI → Int → Int → LI → LLM → Option R) : Nat → LI → LLM → LI → Int → Int → Int → Int → LI → LLM → Option R
  | 0, _, _, _, _, _, _, _, _, _ => none
  | n + 1, s9, s10, s11, s12, s13, s14, s15, s16, s17 => f86_1.s1 L N k1_e2 (f86_1.l1 L N k1_e2 n) s9 s10 s11 s12 s13 s14 s15 s16 s17
def f86_1.T1 (s9 : LI) (s10 : LLM) (s11 : LI) (s12 : Int) (s13 : Int) (s14 : Int) (s15 : Int) (s16 : LI) (s17 : LLM) : T := mkT 61 [(0, (.tv (.sl i64) s9)), (1, (.fn 87 [(.imf 71 [(.imp (.sl (.sl (.st 0))) s10 0)]), (.imp (.sl i64) s11 0)])), (5, (.row 1011)), (6, (.row 1014)), (7, (.tv i64 s12)), (8, (.tv i64 s13)), (16, (.tv i64 s14)), (17, (.tv i64 s15))]
def f86_1.H1 (s9 : LI) (s10 : LLM) (s11 : LI) (s12 : Int) (s13 : Int) (s14 : Int) (s15 : Int) (s16 : LI) (s17 : LLM) : H := [(1011, (.row 3 i64 s16)), (1014, (.row 48 (.sl (.st 0)) s17))]
def f86_1.T1_e2 (z18 : LI) (z19 : LLM) (z20 : LI) (z21 : Int) (z22 : Int) (z23 : LI) (z24 : LLM) : T := mkT 61 [(0, (.tv (.sl i64) z18)), (1, (.fn 87 [(.imf 71 [(.imp (.sl (.sl (.st 0))) z19 0)]), (.imp (.sl i64) z20 0)])), (5, (.row 1011)), (6, (.row 1014)), (16, (.tv i64 z21)), (17, (.tv i64 z22))]
def f86_1.H1_e2 (z18 : LI) (z19 : LLM) (z20 : LI) (z21 : Int) (z22 : Int) (z23 : LI) (z24 : LLM) : H := [(1011, (.row 3 i64 z23)), (1014, (.row 48 (.sl (.st 0)) z24))]
def f86_1.p1_e2' {R : Type} (L N : Nat) (k0_e0 : LI → Option R) (rec0 : LI → LLM → LI → Int → Int → LI → LLM → Option R) (z18 : LI) (z19 : LLM) (z20 : LI) (z21 : Int) (z22 : Int) (z23 : LI) (z24 : LLM) : Option R :=
  rec0 z18 z19 z20 z21 (wi (z22 + (1 : Int))) z23 z24
def f86_1.p1_e2 {R : Type} (L N : Nat) (k0_e0 : LI → Option R) (rec0 : LI → LLM → LI → Int → Int → LI → LLM → Option R) (z18 : LI) (z19 : LLM) (z20 : LI) (z21 : Int) (z22 : Int) (z23 : LI) (z24 : LLM) : Option R :=
  f86_1.p1_e2' L N k0_e0 rec0 z18 z19 z20 z21 z22 z23 z24
def f86_1.s0' {R : Type} (L N : Nat) (k0_e0 : LI → Option R) (rec0 : LI → LLM → LI → Int → Int → LI → LLM → Option R) (w1 : LI → LLM → LI → Int → Int → Int → Int → LI → LLM → Option R) (s0 : LI) (s1 : LLM) (s2 : LI) (s3 : Int) (s4 : Int) (s5 : LI) (s6 : LLM) : Option R :=
  bif (decide (s4 < s3)) then
    (f87_1 L N s4 s1 s2).bind fun y8 =>
    bif (decide (0 ≤ s4) && decide (s4 < (s6.length : Int))) then
      bif (decide (0 ≤ s4) && decide (s4 < (s5.length : Int))) then
        w1 s0 s1 s2 s4 (0 : Int) s3 s4 (s5.set s4.toNat s4) (s6.set s4.toNat y8)
      else none
    else none
  else k0_e0 s5
def f86_1.s0 {R : Type} (L N : Nat) (k0_e0 : LI → Option R) (rec0 : LI → LLM → LI → Int → Int → LI → LLM → Option R) (s0 : LI) (s1 : LLM) (s2 : LI) (s3 : Int) (s4 : Int) (s5 : LI) (s6 : LLM) : Option R :=
  f86_1.s0' L N k0_e0 rec0 (fun s9 s10 s11 s12 s13 s14 s15 s16 s17 => f86_1.l1 L N (fun z18 z19 z20 z21 z22 z23 z24 => f86_1.p1_e2 L N k0_e0 rec0 z18 z19 z20 z21 z22 z23 z24) L s9 s10 s11 s12 s13 s14 s15 s16 s17) s0 s1 s2 s3 s4 s5 s6
def f86_1.l0 {R : Type} (L N : Nat) (k0_e0 : LI → Option R) : Nat → LI → LLM → LI → Int → Int → LI → LLM → Option R
  | 0, _, _, _, _, _, _, _ => none
  | n + 1, s0, s1, s2, s3, s4, s5, s6 => f86_1.s0 L N k0_e0 (f86_1.l0 L N k0_e0 n) s0 s1 s2 s3 s4 s5 s6
def f86_1.T0 (s0 : LI) (s1 : LLM) (s2 : LI) (s3 : Int) (s4 : Int) (s5 : LI) (s6 : LLM) : T := mkT 61 [(0, (.tv (.sl i64) s0)), (1, (.fn 87 [(.imf 71 [(.imp (.sl (.sl (.st 0))) s1 0)]), (.imp (.sl i64) s2 0)])), (5, (.row 1011)), (6, (.row 1014)), (16, (.tv i64 s3)), (17, (.tv i64 s4))]
def f86_1.H0 (s0 : LI) (s1 : LLM) (s2 : LI) (s3 : Int) (s4 : Int) (s5 : LI) (s6 : LLM) : H := [(1011, (.row 3 i64 s5)), (1014, (.row 48 (.sl (.st 0)) s6))]
def f86_1.T0_e0 (z7 : LI) : T := mkT 61 [(5, (.row 1011))]
def f86_1.H0_e0 (z7 : LI) : H := [(1011, (.row 3 i64 z7))]
def f86_1.p0_e0' {R : Type} (L N : Nat) (k : LI → Option R) (z7 : LI) : Option R :=
  k z7
def f86_1.p0_e0 {R : Type} (L N : Nat) (k : LI → Option R) (z7 : LI) : Option R :=
  f86_1.p0_e0' L N k z7
def f86_1.b' {R : Type} (L N : Nat) (k : LI → Option R) (w0 : LI → LLM → LI → Int → Int → LI → LLM → Option R) (x0 : LI) (x1 : LLM) (x2 : LI) : Option R :=
  bif (decide (0 ≤ (x0.length : Int)) && decide ((x0.length : Int) ≤ (lim : Int))) then
    bif (decide (0 ≤ (x0.length : Int)) && decide ((x0.length : Int) ≤ (lim : Int))) then
      w0 x0 x1 x2 (x0.length : Int) (0 : Int) (List.replicate (x0.length : Int).toNat (0 : Int)) (List.replicate (x0.length : Int).toNat [])
    else none
  else none
def f86_1.b {R : Type} (L N : Nat) (k : LI → Option R) (x0 : LI) (x1 : LLM) (x2 : LI) : Option R :=
  f86_1.b' L N k (fun s0 s1 s2 s3 s4 s5 s6 => f86_1.l0 L N (fun z7 => f86_1.p0_e0 L N k z7) L s0 s1 s2 s3 s4 s5 s6) x0 x1 x2
def f86_1 (L N : Nat) (x0 : LI) (x1 : LLM) (x2 : LI) : Option (LI) := f86_1.b L N some x0 x1 x2
def f86_1.ent (L N : Nat) (args : List AV) (vw : View) (site : Nat) : Option Ans := match shD [(.dat (.sl i64)), (.fn 87 [(.pfn 71 [(.imp (.sl (.sl (.st 0))) 0)]), (.imp (.sl i64) 0)])] vw args with
  | some d => some ⟨LI, f86_1 L N d.1 d.2.1.1.1 d.2.1.2.1, fun y => (RN.av site .row (), [(site, some (mkO none 3 i64 y))], [])⟩
  | none => none
noncomputable def E86_1 (L N : Nat) : Env := { P := Tryz.prog, ty := tyOf, Φ := (Φ87_1 L N), inl := inlT, live := lives, liveX := livesX, L := L, dp := none, prom := promT, heal := healT, ren := renT }
noncomputable def f86_1.c0 : Code := loopAt 0 (codeOf Tryz.f86)
noncomputable def f86_1.c1 : Code := loopAt 2 f86_1.c0
def f86_1.X1_e2 {R : Type} (κ : KX R) := fun z18 z19 z20 z21 z22 z23 z24 => κ (.exit 2) (f86_1.T1_e2 z18 z19 z20 z21 z22 z23 z24) (f86_1.H1_e2 z18 z19 z20 z21 z22 z23 z24)
def f86_1.R1 {R : Type} (rec : KT R) := fun s9 s10 s11 s12 s13 s14 s15 s16 s17 => rec (f86_1.T1 s9 s10 s11 s12 s13 s14 s15 s16 s17) (f86_1.H1 s9 s10 s11 s12 s13 s14 s15 s16 s17)
theorem f86_1.s1_eq {R : Type} (L N : Nat) (κ : KX R) (rec : KT R) (s9 : LI) (s10 : LLM) (s11 : LI) (s12 : Int) (s13 : Int) (s14 : Int) (s15 : Int) (s16 : LI) (s17 : LLM) :
    evRd (E86_1 L N) (evCallI (E86_1 L N) 0 1000) 1000 86 61 2 f86_1.c1 κ rec (f86_1.T1 s9 s10 s11 s12 s13 s14 s15 s16 s17) (f86_1.H1 s9 s10 s11 s12 s13 s14 s15 s16 s17)
    = f86_1.s1 L N (f86_1.X1_e2 κ) (f86_1.R1 rec) s9 s10 s11 s12 s13 s14 s15 s16 s17 := by kernel_rfl
theorem f86_1.l1_eq {R : Type} (L N : Nat) (κ : KX R) : ∀ (n : Nat) (s9 : LI) (s10 : LLM) (s11 : LI) (s12 : Int) (s13 : Int) (s14 : Int) (s15 : Int) (s16 : LI) (s17 : LLM),
    evLp (E86_1 L N) (evCallI (E86_1 L N) 0 1000) 1000 86 61 2 f86_1.c1 κ n (f86_1.T1 s9 s10 s11 s12 s13 s14 s15 s16 s17) (f86_1.H1 s9 s10 s11 s12 s13 s14 s15 s16 s17)
    = f86_1.l1 L N (f86_1.X1_e2 κ) n s9 s10 s11 s12 s13 s14 s15 s16 s17 := by
  intro n
  induction n with
  | zero => intros; rfl
  | succ n ih =>
    intro s9 s10 s11 s12 s13 s14 s15 s16 s17
    rw [evLp_succ, f86_1.s1_eq]
    delta f86_1.R1
    simp only [ih]
    rfl
def f86_1.X0_e0 {R : Type} (κ : KX R) := fun z7 => κ (.exit 0) (f86_1.T0_e0 z7) (f86_1.H0_e0 z7)
def f86_1.R0 {R : Type} (rec : KT R) := fun s0 s1 s2 s3 s4 s5 s6 => rec (f86_1.T0 s0 s1 s2 s3 s4 s5 s6) (f86_1.H0 s0 s1 s2 s3 s4 s5 s6)
theorem f86_1.p1_e2_eq {R : Type} (L N : Nat) (κ : KX R) (rec : KT R) (z18 : LI) (z19 : LLM) (z20 : LI) (z21 : Int) (z22 : Int) (z23 : LI) (z24 : LLM) :
    (contAt (E86_1 L N) (evCallI (E86_1 L N) 0 1000) 1000 86 61 2 f86_1.c0 (rdK (E86_1 L N) 1000 86 61 0 κ rec)) (.exit 2) (f86_1.T1_e2 z18 z19 z20 z21 z22 z23 z24) (f86_1.H1_e2 z18 z19 z20 z21 z22 z23 z24)
    = f86_1.p1_e2 L N (f86_1.X0_e0 κ) (f86_1.R0 rec) z18 z19 z20 z21 z22 z23 z24 := by kernel_rfl
theorem f86_1.s0_eq {R : Type} (L N : Nat) (κ : KX R) (rec : KT R) (s0 : LI) (s1 : LLM) (s2 : LI) (s3 : Int) (s4 : Int) (s5 : LI) (s6 : LLM) :
    evRd (E86_1 L N) (evCallI (E86_1 L N) 0 1000) 1000 86 61 0 f86_1.c0 κ rec (f86_1.T0 s0 s1 s2 s3 s4 s5 s6) (f86_1.H0 s0 s1 s2 s3 s4 s5 s6)
    = f86_1.s0 L N (f86_1.X0_e0 κ) (f86_1.R0 rec) s0 s1 s2 s3 s4 s5 s6 := by
  refine Eq.trans (b := f86_1.s0' L N (f86_1.X0_e0 κ) (f86_1.R0 rec) (fun s9 s10 s11 s12 s13 s14 s15 s16 s17 => evLp (E86_1 L N) (evCallI (E86_1 L N) 0 1000) 1000 86 61 2 f86_1.c1 (contAt (E86_1 L N) (evCallI (E86_1 L N) 0 1000) 1000 86 61 2 f86_1.c0 (rdK (E86_1 L N) 1000 86 61 0 κ rec)) L (f86_1.T1 s9 s10 s11 s12 s13 s14 s15 s16 s17) (f86_1.H1 s9 s10 s11 s12 s13 s14 s15 s16 s17)) s0 s1 s2 s3 s4 s5 s6) (by kernel_rfl) ?_
  unfold f86_1.s0
  simp only [f86_1.l1_eq]
  delta f86_1.X1_e2
  simp only [f86_1.p1_e2_eq]
theorem f86_1.l0_eq {R : Type} (L N : Nat) (κ : KX R) : ∀ (n : Nat) (s0 : LI) (s1 : LLM) (s2 : LI) (s3 : Int) (s4 : Int) (s5 : LI) (s6 : LLM),
    evLp (E86_1 L N) (evCallI (E86_1 L N) 0 1000) 1000 86 61 0 f86_1.c0 κ n (f86_1.T0 s0 s1 s2 s3 s4 s5 s6) (f86_1.H0 s0 s1 s2 s3 s4 s5 s6)
    = f86_1.l0 L N (f86_1.X0_e0 κ) n s0 s1 s2 s3 s4 s5 s6 := by
  intro n
  induction n with
  | zero => intros; rfl
  | succ n ih =>
    intro s0 s1 s2 s3 s4 s5 s6
    rw [evLp_succ, f86_1.s0_eq]
    delta f86_1.R0
    simp only [ih]
    rfl
theorem f86_1.p0_e0_eq {R : Type} (L N : Nat) (κ : RN.Den .row → List Int → Option R) (z7 : LI) :
    (contAt (E86_1 L N) (evCallI (E86_1 L N) 0 1000) 1000 86 61 0 (codeOf Tryz.f86) (finK (E86_1 L N) 1000 Tryz.f86 (finN .row none 3 i64 κ))) (.exit 0) (f86_1.T0_e0 z7) (f86_1.H0_e0 z7)
    = f86_1.p0_e0 L N (fun a0 => κ () a0) z7 := by kernel_rfl
theorem f86_1.b_eq {R : Type} (L N : Nat) (κ : RN.Den .row → List Int → Option R) (x0 : LI) (x1 : LLM) (x2 : LI) :
    evBody (E86_1 L N) (evCallI (E86_1 L N) 0 1000) 1000 86 Tryz.f86 [(.tv (.sl i64) x0), (.fn 87 [(.imf 71 [(.imp (.sl (.sl (.st 0))) x1 0)]), (.imp (.sl i64) x2 0)])] [] [] (finN .row none 3 i64 κ)
    = f86_1.b L N (fun a0 => κ () a0) x0 x1 x2 := by
  refine Eq.trans (b := f86_1.b' L N (fun a0 => κ () a0) (fun s0 s1 s2 s3 s4 s5 s6 => evLp (E86_1 L N) (evCallI (E86_1 L N) 0 1000) 1000 86 61 0 f86_1.c0 (contAt (E86_1 L N) (evCallI (E86_1 L N) 0 1000) 1000 86 61 0 (codeOf Tryz.f86) (finK (E86_1 L N) 1000 Tryz.f86 (finN .row none 3 i64 κ))) L (f86_1.T0 s0 s1 s2 s3 s4 s5 s6) (f86_1.H0 s0 s1 s2 s3 s4 s5 s6)) x0 x1 x2) (by kernel_rfl) ?_
  unfold f86_1.b
  simp only [f86_1.l0_eq]
  delta f86_1.X0_e0
  simp only [f86_1.p0_e0_eq]
theorem f86_1.ok (L N : Nat) (hΦ : TellsOk Tryz.prog ((Φ87_1 L N))) : EntOkO Tryz.prog 86 (f86_1.ent L N) := by
  intro args vw site h a ha
  unfold f86_1.ent at ha
  split at ha
  · rename_i d hd
    obtain rfl := Option.some.inj ha
    intro y hy hs
    refine call_ronF (y := y) (dep := 1000) (E := (E86_1 L N)) (rn := .row) (q := none) (el := 3) (ty := i64) (d1 := ()) (xs := y) (κ := (fun d xs => some xs)) (sound_of hΦ) okP (callI_sound (sound_of hΦ) okP 0 1000) (f := Tryz.f86) rfl hs hd ?_ (fun _ _ h => by obtain rfl := Option.some.inj h; exact ⟨rfl, rfl⟩) rfl site
    exact (f86_1.b_eq L N (fun d xs => some xs) d.1 d.2.1.1.1 d.2.1.2.1).trans (Eq.trans (b := f86_1.b L N some d.1 d.2.1.1.1 d.2.1.2.1) (by kernel_rfl) hy)
  · cases ha
def Φ86_1 (L N : Nat) : Tells := (addO (Φ87_1 L N) 86 (f86_1.ent L N))
theorem Φ86_1_ok (L N : Nat) : TellsOk Tryz.prog (Φ86_1 L N) := addO_ok (Φ87_1_ok L N) (f86_1.ok L N (Φ87_1_ok L N))
def f70_1.s0' {R : Type} (L N : Nat) (k0_r : LLI → Option R) (rec0 : LLM → LLI → Option R) (s0 : LLM) (s1 : LLI) : Option R :=
  bif (decide (0 ≤ (wi ((s1.length : Int) - (1 : Int)))) && decide ((wi ((s1.length : Int) - (1 : Int))) < (s1.length : Int))) then
    (f86_1 L N (listAt s1 [] (wi ((s1.length : Int) - (1 : Int))).toNat) s0 (listAt s1 [] (wi ((s1.length : Int) - (1 : Int))).toNat)).bind fun y2 =>
    (f88 L N y2 (listAt s1 [] (wi ((s1.length : Int) - (1 : Int))).toNat)).bind fun y3 =>
    bif y3 then
      k0_r s1
    else bif (decide (s1.length + ([y2] : LLI).length ≤ lim)) then
      rec0 s0 (s1 ++ ([y2] : LLI))
    else none
  else none
def f70_1.s0 {R : Type} (L N : Nat) (k0_r : LLI → Option R) (rec0 : LLM → LLI → Option R) (s0 : LLM) (s1 : LLI) : Option R :=
  f70_1.s0' L N k0_r rec0 s0 s1
def f70_1.l0 {R : Type} (L N : Nat) (k0_r : LLI → Option R) : Nat → LLM → LLI → Option R
  | 0, _, _ => none
  | n + 1, s0, s1 => f70_1.s0 L N k0_r (f70_1.l0 L N k0_r n) s0 s1
def f70_1.T0 (s0 : LLM) (s1 : LLI) : T := mkT 28 [(3, (.ptr 1003 0)), (5, (.row 1010))]
def f70_1.H0 (s0 : LLM) (s1 : LLI) : H := [(1003, (.box [(.fn 71 [(.imp (.sl (.sl (.st 0))) s0 0)])])), (1010, (.row 26 (.sl i64) s1))]
def f70_1.T0_r (z4 : LLI) : T := mkT 28 [(4, (.row 1010))]
def f70_1.H0_r (z4 : LLI) : H := [(1010, (.row 26 (.sl i64) z4))]
def f70_1.p0_r' {R : Type} (L N : Nat) (k : LLI → Option R) (z4 : LLI) : Option R :=
  k z4
def f70_1.p0_r {R : Type} (L N : Nat) (k : LLI → Option R) (z4 : LLI) : Option R :=
  f70_1.p0_r' L N k z4
def f70_1.b' {R : Type} (L N : Nat) (k : LLI → Option R) (w0 : LLM → LLI → Option R) (x0 : Int) (x1 : LLM) : Option R :=
  bif (decide (0 ≤ x0) && decide (x0 ≤ (lim : Int))) then
    w0 x1 ([(List.replicate x0.toNat (0 : Int))] : LLI)
  else none
def f70_1.b {R : Type} (L N : Nat) (k : LLI → Option R) (x0 : Int) (x1 : LLM) : Option R :=
  f70_1.b' L N k (fun s0 s1 => f70_1.l0 L N (fun z4 => f70_1.p0_r L N k z4) L s0 s1) x0 x1
def f70_1 (L N : Nat) (x0 : Int) (x1 : LLM) : Option (LLI) := f70_1.b L N some x0 x1
def f70_1.ent (L N : Nat) := entDf [(.dat i64), (.fn 71 [(.imp (.sl (.sl (.st 0))) 0)])] (.one (.sl (.sl i64))) fun d => f70_1 L N d.1 d.2.1.1
noncomputable def E70_1 (L N : Nat) : Env := { P := Tryz.prog, ty := tyOf, Φ := (Φ86_1 L N), inl := inlT, live := lives, liveX := livesX, L := L, dp := none, prom := promT, heal := healT, ren := renT }
noncomputable def f70_1.c0 : Code := loopAt 0 (codeOf Tryz.f70)
def f70_1.X0_r {R : Type} (κ : KX R) := fun z4 => κ .ret (f70_1.T0_r z4) (f70_1.H0_r z4)
def f70_1.R0 {R : Type} (rec : KT R) := fun s0 s1 => rec (f70_1.T0 s0 s1) (f70_1.H0 s0 s1)
theorem f70_1.s0_eq {R : Type} (L N : Nat) (κ : KX R) (rec : KT R) (s0 : LLM) (s1 : LLI) :
    evRd (E70_1 L N) (evCallI (E70_1 L N) 0 1000) 1000 70 28 0 f70_1.c0 κ rec (f70_1.T0 s0 s1) (f70_1.H0 s0 s1)
    = f70_1.s0 L N (f70_1.X0_r κ) (f70_1.R0 rec) s0 s1 := by kernel_rfl
theorem f70_1.l0_eq {R : Type} (L N : Nat) (κ : KX R) : ∀ (n : Nat) (s0 : LLM) (s1 : LLI),
    evLp (E70_1 L N) (evCallI (E70_1 L N) 0 1000) 1000 70 28 0 f70_1.c0 κ n (f70_1.T0 s0 s1) (f70_1.H0 s0 s1)
    = f70_1.l0 L N (f70_1.X0_r κ) n s0 s1 := by
  intro n
  induction n with
  | zero => intros; rfl
  | succ n ih =>
    intro s0 s1
    rw [evLp_succ, f70_1.s0_eq]
    delta f70_1.R0
    simp only [ih]
    rfl
theorem f70_1.p0_r_eq {R : Type} (L N : Nat) (κ : AV → Option R) (z4 : LLI) :
    (contAt (E70_1 L N) (evCallI (E70_1 L N) 0 1000) 1000 70 28 0 (codeOf Tryz.f70) (finK (E70_1 L N) 1000 Tryz.f70 (finC (.one (.sl (.sl i64))) κ))) .ret (f70_1.T0_r z4) (f70_1.H0_r z4)
    = f70_1.p0_r L N (fun a0 => κ (.tv (.sl (.sl i64)) a0)) z4 := by kernel_rfl
theorem f70_1.b_eq {R : Type} (L N : Nat) (κ : AV → Option R) (x0 : Int) (x1 : LLM) :
    evBody (E70_1 L N) (evCallI (E70_1 L N) 0 1000) 1000 70 Tryz.f70 [(.tv i64 x0), (.fn 71 [(.imp (.sl (.sl (.st 0))) x1 0)])] [] [] (finC (.one (.sl (.sl i64))) κ)
    = f70_1.b L N (fun a0 => κ (.tv (.sl (.sl i64)) a0)) x0 x1 := by
  refine Eq.trans (b := f70_1.b' L N (fun a0 => κ (.tv (.sl (.sl i64)) a0)) (fun s0 s1 => evLp (E70_1 L N) (evCallI (E70_1 L N) 0 1000) 1000 70 28 0 f70_1.c0 (contAt (E70_1 L N) (evCallI (E70_1 L N) 0 1000) 1000 70 28 0 (codeOf Tryz.f70) (finK (E70_1 L N) 1000 Tryz.f70 (finC (.one (.sl (.sl i64))) κ))) L (f70_1.T0 s0 s1) (f70_1.H0 s0 s1)) x0 x1) (by kernel_rfl) ?_
  unfold f70_1.b
  simp only [f70_1.l0_eq]
  delta f70_1.X0_r
  simp only [f70_1.p0_r_eq]
theorem f70_1.ok (L N : Nat) (hΦ : TellsOk Tryz.prog ((Φ86_1 L N))) : EntOkO Tryz.prog 70 (f70_1.ent L N) := entDf_ok (E := (E70_1 L N)) (dep := 1000) (f := Tryz.f70) (sound_of hΦ) okP (callI_sound (sound_of hΦ) okP 0 1000) rfl fun d _ hy => (f70_1.b_eq L N (unR (.one (.sl (.sl i64)))) d.1 d.2.1.1).trans (Eq.trans (b := f70_1.b L N some d.1 d.2.1.1) (by kernel_rfl) hy)
def Φ70_1 (L N : Nat) : Tells := (addO (Φ86_1 L N) 70 (f70_1.ent L N))
theorem Φ70_1_ok (L N : Nat) : TellsOk Tryz.prog (Φ70_1 L N) := addO_ok (Φ86_1_ok L N) (f70_1.ok L N (Φ86_1_ok L N))
def f48.b' {R : Type} (L N : Nat) (k : LLI → Option R) (x0 : Graph) : Option R :=
  (f70_1 L N (x0.moves.length : Int) x0.moves).bind fun y0 =>
  k y0
def f48.b {R : Type} (L N : Nat) (k : LLI → Option R) (x0 : Graph) : Option R :=
  f48.b' L N k x0
def f48 (L N : Nat) (x0 : Graph) : Option (LLI) := f48.b L N some x0
def f48.ent (L N : Nat) := entDa [(.st 2)] (.one (.sl (.sl i64))) fun d => f48 L N d.1
noncomputable def E48 (L N : Nat) : Env := { P := Tryz.prog, ty := tyOf, Φ := (Φ70_1 L N), inl := inlT, live := lives, liveX := livesX, L := L, dp := none, prom := promT, heal := healT, ren := renT }
theorem f48.b_eq {R : Type} (L N : Nat) (κ : AV → Option R) (x0 : Graph) :
    evBody (E48 L N) (evCallI (E48 L N) 0 1000) 1000 48 Tryz.f48 [(.tv (.st 2) x0)] [] [] (finC (.one (.sl (.sl i64))) κ)
    = f48.b L N (fun a0 => κ (.tv (.sl (.sl i64)) a0)) x0 := by kernel_rfl
theorem f48.ok (L N : Nat) (hΦ : TellsOk Tryz.prog ((Φ70_1 L N))) : EntOk Tryz.prog 48 (f48.ent L N) := entDa_ok (E := (E48 L N)) (dep := 1000) (f := Tryz.f48) (sound_of hΦ) okP (callI_sound (sound_of hΦ) okP 0 1000) rfl fun d _ hy => (f48.b_eq L N (unR (.one (.sl (.sl i64)))) d.1).trans (Eq.trans (b := f48.b L N some d.1) (by kernel_rfl) hy)
def Φ48 (L N : Nat) : Tells := (addT (Φ70_1 L N) 48 (f48.ent L N))
theorem Φ48_ok (L N : Nat) : TellsOk Tryz.prog (Φ48 L N) := addT_ok (Φ70_1_ok L N) (f48.ok L N (Φ70_1_ok L N))
def f23.b' {R : Type} (L N : Nat) (k : LI → Option R) (x0 : Graph) : Option R :=
  (f48 L N (Graph.mk x0.moves)).bind fun y0 =>
  bif (decide (0 ≤ (wi ((y0.length : Int) - (1 : Int)))) && decide ((wi ((y0.length : Int) - (1 : Int))) < (y0.length : Int))) then
    ((fclone (listAt y0 [] (wi ((y0.length : Int) - (1 : Int))).toNat))).bind fun y1 =>
    k (listAt y0 [] (wi ((y0.length : Int) - (1 : Int))).toNat)
  else none
def f23.b {R : Type} (L N : Nat) (k : LI → Option R) (x0 : Graph) : Option R :=
  f23.b' L N k x0
def f23 (L N : Nat) (x0 : Graph) : Option (LI) := f23.b L N some x0
def f23.ent (L N : Nat) (args : List AV) (vw : View) (site : Nat) : Ans := match roD [(.st 2)] vw args with
  | some d => ⟨LI, f23 L N d.1, fun y => (RN.av site .row (), [(site, some (mkO none 3 i64 y))], [])⟩
  | none => Ans.no
noncomputable def E23 (L N : Nat) : Env := { P := Tryz.prog, ty := tyOf, Φ := (Φ48 L N), inl := inlT, live := lives, liveX := livesX, L := L, dp := none, prom := promT, heal := healT, ren := renT }
theorem f23.b_eq {R : Type} (L N : Nat) (κ : RN.Den .row → List Int → Option R) (x0 : Graph) :
    evBody (E23 L N) (evCallI (E23 L N) 0 1000) 1000 23 Tryz.f23 [(.tv (.st 2) x0)] [] [] (finN .row none 3 i64 κ)
    = f23.b L N (fun a0 => κ () a0) x0 := by kernel_rfl
theorem f23.ok (L N : Nat) (hΦ : TellsOk Tryz.prog ((Φ48 L N))) : EntOk Tryz.prog 23 (f23.ent L N) := by
  intro args vw site h
  unfold f23.ent
  split
  · rename_i d ha
    intro y hy hs
    refine call_ron (y := y) (dep := 1000) (E := (E23 L N)) (ts := [(.st 2)]) (rn := .row) (q := none) (el := 3) (ty := i64) (d1 := ()) (xs := y) (κ := (fun d xs => some xs)) (sound_of hΦ) okP (callI_sound (sound_of hΦ) okP 0 1000) (f := Tryz.f23) rfl hs ha ?_ (fun _ _ h => by obtain rfl := Option.some.inj h; exact ⟨rfl, rfl⟩) rfl site
    exact (f23.b_eq L N (fun d xs => some xs) d.1).trans (Eq.trans (b := f23.b L N some d.1) (by kernel_rfl) hy)
  · intro y hy
    cases hy
def Φ23 (L N : Nat) : Tells := (addT (Φ48 L N) 23 (f23.ent L N))
theorem Φ23_ok (L N : Nat) : TellsOk Tryz.prog (Φ23 L N) := addT_ok (Φ48_ok L N) (f23.ok L N (Φ48_ok L N))
def f24.s0' {R : Type} (L N : Nat) (k0_e0 : Option R) (k0_r : Int → Option R) (rec0 : LI → Int → Int → Int → Option R) (s0 : LI) (s1 : Int) (s2 : Int) (s3 : Int) : Option R :=
  bif (decide (s3 < s2)) then
    bif (decide (0 ≤ s3) && decide (s3 < (s0.length : Int))) then
      bif (s1 == (listAt s0 (0 : Int) s3.toNat)) then
        k0_r s3
      else rec0 s0 s1 s2 (wi (s3 + (1 : Int)))
    else none
  else k0_e0
def f24.s0 {R : Type} (L N : Nat) (k0_e0 : Option R) (k0_r : Int → Option R) (rec0 : LI → Int → Int → Int → Option R) (s0 : LI) (s1 : Int) (s2 : Int) (s3 : Int) : Option R :=
  f24.s0' L N k0_e0 k0_r rec0 s0 s1 s2 s3
def f24.l0 {R : Type} (L N : Nat) (k0_e0 : Option R) (k0_r : Int → Option R) : Nat → LI → Int → Int → Int → Option R
  | 0, _, _, _, _ => none
  | n + 1, s0, s1, s2, s3 => f24.s0 L N k0_e0 k0_r (f24.l0 L N k0_e0 k0_r n) s0 s1 s2 s3
def f24.T0 (s0 : LI) (s1 : Int) (s2 : Int) (s3 : Int) : T := mkT 19 [(0, (.tv (.sl i64) s0)), (1, (.tv i64 s1)), (7, (.tv i64 s2)), (8, (.tv i64 s3))]
def f24.H0 (s0 : LI) (s1 : Int) (s2 : Int) (s3 : Int) : H := []
def f24.T0_e0 : T := mkT 19 []
def f24.H0_e0 : H := []
def f24.T0_r (z4 : Int) : T := mkT 19 [(4, (.tv i64 z4))]
def f24.H0_r (z4 : Int) : H := []
def f24.p0_e0' {R : Type} (L N : Nat) (k : Int → Option R) : Option R :=
  k (-1 : Int)
def f24.p0_e0 {R : Type} (L N : Nat) (k : Int → Option R) : Option R :=
  f24.p0_e0' L N k
def f24.p0_r' {R : Type} (L N : Nat) (k : Int → Option R) (z4 : Int) : Option R :=
  k z4
def f24.p0_r {R : Type} (L N : Nat) (k : Int → Option R) (z4 : Int) : Option R :=
  f24.p0_r' L N k z4
def f24.b' {R : Type} (L N : Nat) (k : Int → Option R) (w0 : LI → Int → Int → Int → Option R) (x0 : LI) (x1 : Int) : Option R :=
  w0 x0 x1 (x0.length : Int) (0 : Int)
def f24.b {R : Type} (L N : Nat) (k : Int → Option R) (x0 : LI) (x1 : Int) : Option R :=
  f24.b' L N k (fun s0 s1 s2 s3 => f24.l0 L N (f24.p0_e0 L N k) (fun z4 => f24.p0_r L N k z4) L s0 s1 s2 s3) x0 x1
def f24 (L N : Nat) (x0 : LI) (x1 : Int) : Option (Int) := f24.b L N some x0 x1
def f24.ent (L N : Nat) := entRo [(.sl i64), i64] (.one i64) fun d => f24 L N d.1 d.2.1
noncomputable def E24 (L N : Nat) : Env := { P := Tryz.prog, ty := tyOf, Φ := (Φ23 L N), inl := inlT, live := lives, liveX := livesX, L := L, dp := none, prom := promT, heal := healT, ren := renT }
noncomputable def f24.c0 : Code := loopAt 0 (codeOf Tryz.f24)
def f24.X0_e0 {R : Type} (κ : KX R) := κ (.exit 0) f24.T0_e0 f24.H0_e0
def f24.X0_r {R : Type} (κ : KX R) := fun z4 => κ .ret (f24.T0_r z4) (f24.H0_r z4)
def f24.R0 {R : Type} (rec : KT R) := fun s0 s1 s2 s3 => rec (f24.T0 s0 s1 s2 s3) (f24.H0 s0 s1 s2 s3)
theorem f24.s0_eq {R : Type} (L N : Nat) (κ : KX R) (rec : KT R) (s0 : LI) (s1 : Int) (s2 : Int) (s3 : Int) :
    evRd (E24 L N) (evCallI (E24 L N) 0 1000) 1000 24 19 0 f24.c0 κ rec (f24.T0 s0 s1 s2 s3) (f24.H0 s0 s1 s2 s3)
    = f24.s0 L N (f24.X0_e0 κ) (f24.X0_r κ) (f24.R0 rec) s0 s1 s2 s3 := by kernel_rfl
theorem f24.l0_eq {R : Type} (L N : Nat) (κ : KX R) : ∀ (n : Nat) (s0 : LI) (s1 : Int) (s2 : Int) (s3 : Int),
    evLp (E24 L N) (evCallI (E24 L N) 0 1000) 1000 24 19 0 f24.c0 κ n (f24.T0 s0 s1 s2 s3) (f24.H0 s0 s1 s2 s3)
    = f24.l0 L N (f24.X0_e0 κ) (f24.X0_r κ) n s0 s1 s2 s3 := by
  intro n
  induction n with
  | zero => intros; rfl
  | succ n ih =>
    intro s0 s1 s2 s3
    rw [evLp_succ, f24.s0_eq]
    delta f24.R0
    simp only [ih]
    rfl
theorem f24.p0_e0_eq {R : Type} (L N : Nat) (κ : AV → Option R) :
    (contAt (E24 L N) (evCallI (E24 L N) 0 1000) 1000 24 19 0 (codeOf Tryz.f24) (finK (E24 L N) 1000 Tryz.f24 (finC (.one i64) κ))) (.exit 0) f24.T0_e0 f24.H0_e0
    = f24.p0_e0 L N (fun a0 => κ (.tv i64 a0)) := by kernel_rfl
theorem f24.p0_r_eq {R : Type} (L N : Nat) (κ : AV → Option R) (z4 : Int) :
    (contAt (E24 L N) (evCallI (E24 L N) 0 1000) 1000 24 19 0 (codeOf Tryz.f24) (finK (E24 L N) 1000 Tryz.f24 (finC (.one i64) κ))) .ret (f24.T0_r z4) (f24.H0_r z4)
    = f24.p0_r L N (fun a0 => κ (.tv i64 a0)) z4 := by kernel_rfl
theorem f24.b_eq {R : Type} (L N : Nat) (κ : AV → Option R) (x0 : LI) (x1 : Int) :
    evBody (E24 L N) (evCallI (E24 L N) 0 1000) 1000 24 Tryz.f24 [(.tv (.sl i64) x0), (.tv i64 x1)] [] [] (finC (.one i64) κ)
    = f24.b L N (fun a0 => κ (.tv i64 a0)) x0 x1 := by
  refine Eq.trans (b := f24.b' L N (fun a0 => κ (.tv i64 a0)) (fun s0 s1 s2 s3 => evLp (E24 L N) (evCallI (E24 L N) 0 1000) 1000 24 19 0 f24.c0 (contAt (E24 L N) (evCallI (E24 L N) 0 1000) 1000 24 19 0 (codeOf Tryz.f24) (finK (E24 L N) 1000 Tryz.f24 (finC (.one i64) κ))) L (f24.T0 s0 s1 s2 s3) (f24.H0 s0 s1 s2 s3)) x0 x1) (by kernel_rfl) ?_
  unfold f24.b
  simp only [f24.l0_eq]
  delta f24.X0_e0 f24.X0_r
  simp only [f24.p0_e0_eq, f24.p0_r_eq]
theorem f24.ok (L N : Nat) (hΦ : TellsOk Tryz.prog ((Φ23 L N))) : EntOk Tryz.prog 24 (f24.ent L N) := entRo_ok (E := (E24 L N)) (dep := 1000) (f := Tryz.f24) (sound_of hΦ) okP (callI_sound (sound_of hΦ) okP 0 1000) rfl rfl fun d _ hy => (f24.b_eq L N (unR (.one i64)) d.1 d.2.1).trans (Eq.trans (b := f24.b L N some d.1 d.2.1) (by kernel_rfl) hy)
def Φ24 (L N : Nat) : Tells := (addT (Φ23 L N) 24 (f24.ent L N))
theorem Φ24_ok (L N : Nat) : TellsOk Tryz.prog (Φ24 L N) := addT_ok (Φ23_ok L N) (f24.ok L N (Φ23_ok L N))
def f9.s0' {R : Type} (L N : Nat) (k0_e0 : LLM → LI → LI → Option R) (rec0 : Int → Int → LLM → LI → LI → Option R) (s2 : Int) (s3 : Int) (s4 : LLM) (s5 : LI) (s6 : LI) : Option R :=
  bif (decide (s3 < s2)) then
    bif (decide (0 ≤ s3) && decide (s3 < (s5.length : Int))) then
      bif (s3 == (listAt s5 (0 : Int) s3.toNat)) then
        bif (decide (s6.length + ([s3] : LI).length ≤ lim)) then
          rec0 s2 (wi (s3 + (1 : Int))) s4 s5 (s6 ++ ([s3] : LI))
        else none
      else rec0 s2 (wi (s3 + (1 : Int))) s4 s5 s6
    else none
  else k0_e0 s4 s5 s6
def f9.s0 {R : Type} (L N : Nat) (k0_e0 : LLM → LI → LI → Option R) (rec0 : Int → Int → LLM → LI → LI → Option R) (s2 : Int) (s3 : Int) (s4 : LLM) (s5 : LI) (s6 : LI) : Option R :=
  f9.s0' L N k0_e0 rec0 s2 s3 s4 s5 s6
def f9.l0 {R : Type} (L N : Nat) (k0_e0 : LLM → LI → LI → Option R) : Nat → Int → Int → LLM → LI → LI → Option R
  | 0, _, _, _, _, _ => none
  | n + 1, s2, s3, s4, s5, s6 => f9.s0 L N k0_e0 (f9.l0 L N k0_e0 n) s2 s3 s4 s5 s6
def f9.T0 (s2 : Int) (s3 : Int) (s4 : LLM) (s5 : LI) (s6 : LI) : T := mkT 77 [(1, (.ptr 1001 0)), (2, (.ptr 1002 0)), (4, (.row 1019)), (5, (.row 1020)), (21, (.row 1019)), (22, (.tv i64 s2)), (23, (.tv i64 s3))]
def f9.H0 (s2 : Int) (s3 : Int) (s4 : LLM) (s5 : LI) (s6 : LI) : H := [(1001, (.box [(.tv (.sl (.sl (.st 0))) s4)])), (1002, (.box [.nil])), (1019, (.row 3 i64 s5)), (1020, (.row 3 i64 s6))]
def f9.T0_e0 (z7 : LLM) (z8 : LI) (z9 : LI) : T := mkT 77 [(1, (.ptr 1001 0)), (2, (.ptr 1002 0)), (4, (.row 1019)), (5, (.row 1020))]
def f9.H0_e0 (z7 : LLM) (z8 : LI) (z9 : LI) : H := [(1001, (.box [(.tv (.sl (.sl (.st 0))) z7)])), (1002, (.box [.nil])), (1019, (.row 3 i64 z8)), (1020, (.row 3 i64 z9))]
def f9.s2' {R : Type} (L N : Nat) (k2_e4 : Int → Int → LLM → LI → LI → LM → LLM → Option R) (rec2 : Int → Int → LM → Int → Int → LLM → LI → LI → LM → LLM → Option R) (s22 : Int) (s23 : Int) (s24 : LM) (s25 : Int) (s26 : Int) (s27 : LLM) (s28 : LI) (s29 : LI) (s30 : LM) (s31 : LLM) : Option R :=
  bif (decide (s26 < s25)) then
    bif (decide (0 ≤ s26) && decide (s26 < (s24.length : Int))) then
      bif (decide (0 ≤ (listAt s24 (Ty.dflt (.st 0)) s26.toNat).to) && decide ((listAt s24 (Ty.dflt (.st 0)) s26.toNat).to < (s28.length : Int))) then
        (f24 L N s29 (listAt s28 (0 : Int) ((listAt s24 (Ty.dflt (.st 0)) s26.toNat).to).toNat)).bind fun y39 =>
        bif (decide (s30.length + ([(Move.mk ((listAt s24 (Ty.dflt (.st 0)) s26.toNat).act) y39)] : LM).length ≤ lim)) then
          rec2 s22 s23 s24 s25 (wi (s26 + (1 : Int))) s27 s28 s29 (s30 ++ ([(Move.mk ((listAt s24 (Ty.dflt (.st 0)) s26.toNat).act) y39)] : LM)) s31
        else none
      else none
    else none
  else k2_e4 s22 s23 s27 s28 s29 s30 s31
def f9.s2 {R : Type} (L N : Nat) (k2_e4 : Int → Int → LLM → LI → LI → LM → LLM → Option R) (rec2 : Int → Int → LM → Int → Int → LLM → LI → LI → LM → LLM → Option R) (s22 : Int) (s23 : Int) (s24 : LM) (s25 : Int) (s26 : Int) (s27 : LLM) (s28 : LI) (s29 : LI) (s30 : LM) (s31 : LLM) : Option R :=
  f9.s2' L N k2_e4 rec2 s22 s23 s24 s25 s26 s27 s28 s29 s30 s31
def f9.l2 {R : Type} (L N : Nat) (k2_e4 : Int → Int → LLM → LI → LI → LM → LLM → Option R) : Nat → Int → Int → LM → Int → Int → LLM → LI → LI → LM → LLM → Option R
  | 0, _, _, _, _, _, _, _, _, _, _ => none
  | n + 1, s22, s23, s24, s25, s26, s27, s28, s29, s30, s31 => f9.s2 L N k2_e4 (f9.l2 L N k2_e4 n) s22 s23 s24 s25 s26 s27 s28 s29 s30 s31
def f9.T2 (s22 : Int) (s23 : Int) (s24 : LM) (s25 : Int) (s26 : Int) (s27 : LLM) (s28 : LI) (s29 : LI) (s30 : LM) (s31 : LLM) : T := mkT 77 [(1, (.ptr 1001 0)), (2, (.ptr 1002 0)), (4, (.row 1019)), (5, (.row 1020)), (8, (.ptr 1008 0)), (11, (.row 1043)), (37, (.row 1020)), (38, (.tv i64 s22)), (39, (.tv i64 s23)), (48, (.tv (.sl (.st 0)) s24)), (49, (.tv i64 s25)), (50, (.tv i64 s26))]
def f9.H2 (s22 : Int) (s23 : Int) (s24 : LM) (s25 : Int) (s26 : Int) (s27 : LLM) (s28 : LI) (s29 : LI) (s30 : LM) (s31 : LLM) : H := [(1001, (.box [(.tv (.sl (.sl (.st 0))) s27)])), (1002, (.box [.nil])), (1008, (.box [(.row 1920)])), (1019, (.row 3 i64 s28)), (1020, (.row 3 i64 s29)), (1043, (.row 50 (.st 0) s30)), (1920, (.row 48 (.sl (.st 0)) s31))]
def f9.T2_e4 (z32 : Int) (z33 : Int) (z34 : LLM) (z35 : LI) (z36 : LI) (z37 : LM) (z38 : LLM) : T := mkT 77 [(1, (.ptr 1001 0)), (2, (.ptr 1002 0)), (4, (.row 1019)), (5, (.row 1020)), (8, (.ptr 1008 0)), (11, (.row 1043)), (37, (.row 1020)), (38, (.tv i64 z32)), (39, (.tv i64 z33))]
def f9.H2_e4 (z32 : Int) (z33 : Int) (z34 : LLM) (z35 : LI) (z36 : LI) (z37 : LM) (z38 : LLM) : H := [(1001, (.box [(.tv (.sl (.sl (.st 0))) z34)])), (1002, (.box [.nil])), (1008, (.box [(.row 1920)])), (1019, (.row 3 i64 z35)), (1020, (.row 3 i64 z36)), (1043, (.row 50 (.st 0) z37)), (1920, (.row 48 (.sl (.st 0)) z38))]
def f9.p2_e4' {R : Type} (L N : Nat) (k1_e2 : LLM → Option R) (rec1 : Int → Int → LLM → LI → LI → LLM → Option R) (z32 : Int) (z33 : Int) (z34 : LLM) (z35 : LI) (z36 : LI) (z37 : LM) (z38 : LLM) : Option R :=
  ((fsortM z37)).bind fun y40 =>
  bif (decide (z38.length + ([(tidyM z37)] : LLM).length ≤ lim)) then
    rec1 z32 (wi (z33 + (1 : Int))) z34 z35 z36 (z38 ++ ([(tidyM z37)] : LLM))
  else none
def f9.p2_e4 {R : Type} (L N : Nat) (k1_e2 : LLM → Option R) (rec1 : Int → Int → LLM → LI → LI → LLM → Option R) (z32 : Int) (z33 : Int) (z34 : LLM) (z35 : LI) (z36 : LI) (z37 : LM) (z38 : LLM) : Option R :=
  f9.p2_e4' L N k1_e2 rec1 z32 z33 z34 z35 z36 z37 z38
def f9.s1' {R : Type} (L N : Nat) (k1_e2 : LLM → Option R) (rec1 : Int → Int → LLM → LI → LI → LLM → Option R) (w2 : Int → Int → LM → Int → Int → LLM → LI → LI → LM → LLM → Option R) (s15 : Int) (s16 : Int) (s17 : LLM) (s18 : LI) (s19 : LI) (s20 : LLM) : Option R :=
  bif (decide (s16 < s15)) then
    bif (decide (0 ≤ s16) && decide (s16 < (s19.length : Int))) then
      bif (decide (0 ≤ (listAt s19 (0 : Int) s16.toNat)) && decide ((listAt s19 (0 : Int) s16.toNat) < (s17.length : Int))) then
        w2 s15 s16 (listAt s17 [] (listAt s19 (0 : Int) s16.toNat).toNat) ((listAt s17 [] (listAt s19 (0 : Int) s16.toNat).toNat).length : Int) (0 : Int) s17 s18 s19 ([] : LM) s20
      else none
    else none
  else k1_e2 s20
def f9.s1 {R : Type} (L N : Nat) (k1_e2 : LLM → Option R) (rec1 : Int → Int → LLM → LI → LI → LLM → Option R) (s15 : Int) (s16 : Int) (s17 : LLM) (s18 : LI) (s19 : LI) (s20 : LLM) : Option R :=
  f9.s1' L N k1_e2 rec1 (fun s22 s23 s24 s25 s26 s27 s28 s29 s30 s31 => f9.l2 L N (fun z32 z33 z34 z35 z36 z37 z38 => f9.p2_e4 L N k1_e2 rec1 z32 z33 z34 z35 z36 z37 z38) L s22 s23 s24 s25 s26 s27 s28 s29 s30 s31) s15 s16 s17 s18 s19 s20
def f9.l1 {R : Type} (L N : Nat) (k1_e2 : LLM → Option R) : Nat → Int → Int → LLM → LI → LI → LLM → Option R
  | 0, _, _, _, _, _, _ => none
  | n + 1, s15, s16, s17, s18, s19, s20 => f9.s1 L N k1_e2 (f9.l1 L N k1_e2 n) s15 s16 s17 s18 s19 s20
def f9.T1 (s15 : Int) (s16 : Int) (s17 : LLM) (s18 : LI) (s19 : LI) (s20 : LLM) : T := mkT 77 [(1, (.ptr 1001 0)), (2, (.ptr 1002 0)), (4, (.row 1019)), (5, (.row 1020)), (8, (.ptr 1008 0)), (37, (.row 1020)), (38, (.tv i64 s15)), (39, (.tv i64 s16))]
def f9.H1 (s15 : Int) (s16 : Int) (s17 : LLM) (s18 : LI) (s19 : LI) (s20 : LLM) : H := [(1001, (.box [(.tv (.sl (.sl (.st 0))) s17)])), (1002, (.box [.nil])), (1008, (.box [(.row 1920)])), (1019, (.row 3 i64 s18)), (1020, (.row 3 i64 s19)), (1920, (.row 48 (.sl (.st 0)) s20))]
def f9.T1_e2 (z21 : LLM) : T := mkT 77 [(2, (.ptr 1002 0)), (8, (.ptr 1008 0))]
def f9.H1_e2 (z21 : LLM) : H := [(1002, (.box [.nil])), (1008, (.box [(.row 1920)])), (1920, (.row 48 (.sl (.st 0)) z21))]
def f9.p1_e2' {R : Type} (L N : Nat) (k : Graph → Bool → Option R) (z21 : LLM) : Option R :=
  k (Graph.mk z21) true
def f9.p1_e2 {R : Type} (L N : Nat) (k : Graph → Bool → Option R) (z21 : LLM) : Option R :=
  f9.p1_e2' L N k z21
def f9.p0_e0' {R : Type} (L N : Nat) (k : Graph → Bool → Option R) (w1 : Int → Int → LLM → LI → LI → LLM → Option R) (z7 : LLM) (z8 : LI) (z9 : LI) : Option R :=
  w1 (z9.length : Int) (0 : Int) z7 z8 z9 ([] : LLM)
def f9.p0_e0 {R : Type} (L N : Nat) (k : Graph → Bool → Option R) (z7 : LLM) (z8 : LI) (z9 : LI) : Option R :=
  f9.p0_e0' L N k (fun s15 s16 s17 s18 s19 s20 => f9.l1 L N (fun z21 => f9.p1_e2 L N k z21) L s15 s16 s17 s18 s19 s20) z7 z8 z9
def f9.b' {R : Type} (L N : Nat) (k : Graph → Bool → Option R) (w0 : Int → Int → LLM → LI → LI → Option R) (x0 : Graph) : Option R :=
  (f21 L N (Graph.mk x0.moves)).bind fun y0 =>
  bif (!y0) then
    k (Graph.mk []) false
  else (f23 L N (Graph.mk x0.moves)).bind fun y1 =>
  w0 (y1.length : Int) (0 : Int) x0.moves y1 ([] : LI)
def f9.b {R : Type} (L N : Nat) (k : Graph → Bool → Option R) (x0 : Graph) : Option R :=
  f9.b' L N k (fun s2 s3 s4 s5 s6 => f9.l0 L N (fun z7 z8 z9 => f9.p0_e0 L N k z7 z8 z9) L s2 s3 s4 s5 s6) x0
def f9 (L N : Nat) (x0 : Graph) : Option (Graph × Bool) := f9.b L N (fun a0 a1 => some (a0, a1)) x0
def f9.ent (L N : Nat) := entDa [(.st 2)] (.many [(.st 2), .bool]) fun d => f9 L N d.1
noncomputable def E9 (L N : Nat) : Env := { P := Tryz.prog, ty := tyOf, Φ := (Φ24 L N), inl := inlT, live := lives, liveX := livesX, L := L, dp := none, prom := promT, heal := healT, ren := renT }
noncomputable def f9.c0 : Code := loopAt 0 (codeOf Tryz.f9)
def f9.X0_e0 {R : Type} (κ : KX R) := fun z7 z8 z9 => κ (.exit 0) (f9.T0_e0 z7 z8 z9) (f9.H0_e0 z7 z8 z9)
def f9.R0 {R : Type} (rec : KT R) := fun s2 s3 s4 s5 s6 => rec (f9.T0 s2 s3 s4 s5 s6) (f9.H0 s2 s3 s4 s5 s6)
theorem f9.s0_eq {R : Type} (L N : Nat) (κ : KX R) (rec : KT R) (s2 : Int) (s3 : Int) (s4 : LLM) (s5 : LI) (s6 : LI) :
    evRd (E9 L N) (evCallI (E9 L N) 0 1000) 1000 9 77 0 f9.c0 κ rec (f9.T0 s2 s3 s4 s5 s6) (f9.H0 s2 s3 s4 s5 s6)
    = f9.s0 L N (f9.X0_e0 κ) (f9.R0 rec) s2 s3 s4 s5 s6 := by kernel_rfl
theorem f9.l0_eq {R : Type} (L N : Nat) (κ : KX R) : ∀ (n : Nat) (s2 : Int) (s3 : Int) (s4 : LLM) (s5 : LI) (s6 : LI),
    evLp (E9 L N) (evCallI (E9 L N) 0 1000) 1000 9 77 0 f9.c0 κ n (f9.T0 s2 s3 s4 s5 s6) (f9.H0 s2 s3 s4 s5 s6)
    = f9.l0 L N (f9.X0_e0 κ) n s2 s3 s4 s5 s6 := by
  intro n
  induction n with
  | zero => intros; rfl
  | succ n ih =>
    intro s2 s3 s4 s5 s6
    rw [evLp_succ, f9.s0_eq]
    delta f9.R0
    simp only [ih]
    rfl
noncomputable def f9.c1 : Code := loopAt 2 (codeOf Tryz.f9)
noncomputable def f9.c2 : Code := loopAt 4 f9.c1
def f9.X2_e4 {R : Type} (κ : KX R) := fun z32 z33 z34 z35 z36 z37 z38 => κ (.exit 4) (f9.T2_e4 z32 z33 z34 z35 z36 z37 z38) (f9.H2_e4 z32 z33 z34 z35 z36 z37 z38)
def f9.R2 {R : Type} (rec : KT R) := fun s22 s23 s24 s25 s26 s27 s28 s29 s30 s31 => rec (f9.T2 s22 s23 s24 s25 s26 s27 s28 s29 s30 s31) (f9.H2 s22 s23 s24 s25 s26 s27 s28 s29 s30 s31)
theorem f9.s2_eq {R : Type} (L N : Nat) (κ : KX R) (rec : KT R) (s22 : Int) (s23 : Int) (s24 : LM) (s25 : Int) (s26 : Int) (s27 : LLM) (s28 : LI) (s29 : LI) (s30 : LM) (s31 : LLM) :
    evRd (E9 L N) (evCallI (E9 L N) 0 1000) 1000 9 77 4 f9.c2 κ rec (f9.T2 s22 s23 s24 s25 s26 s27 s28 s29 s30 s31) (f9.H2 s22 s23 s24 s25 s26 s27 s28 s29 s30 s31)
    = f9.s2 L N (f9.X2_e4 κ) (f9.R2 rec) s22 s23 s24 s25 s26 s27 s28 s29 s30 s31 := by kernel_rfl
theorem f9.l2_eq {R : Type} (L N : Nat) (κ : KX R) : ∀ (n : Nat) (s22 : Int) (s23 : Int) (s24 : LM) (s25 : Int) (s26 : Int) (s27 : LLM) (s28 : LI) (s29 : LI) (s30 : LM) (s31 : LLM),
    evLp (E9 L N) (evCallI (E9 L N) 0 1000) 1000 9 77 4 f9.c2 κ n (f9.T2 s22 s23 s24 s25 s26 s27 s28 s29 s30 s31) (f9.H2 s22 s23 s24 s25 s26 s27 s28 s29 s30 s31)
    = f9.l2 L N (f9.X2_e4 κ) n s22 s23 s24 s25 s26 s27 s28 s29 s30 s31 := by
  intro n
  induction n with
  | zero => intros; rfl
  | succ n ih =>
    intro s22 s23 s24 s25 s26 s27 s28 s29 s30 s31
    rw [evLp_succ, f9.s2_eq]
    delta f9.R2
    simp only [ih]
    rfl
def f9.X1_e2 {R : Type} (κ : KX R) := fun z21 => κ (.exit 2) (f9.T1_e2 z21) (f9.H1_e2 z21)
def f9.R1 {R : Type} (rec : KT R) := fun s15 s16 s17 s18 s19 s20 => rec (f9.T1 s15 s16 s17 s18 s19 s20) (f9.H1 s15 s16 s17 s18 s19 s20)
theorem f9.p2_e4_eq {R : Type} (L N : Nat) (κ : KX R) (rec : KT R) (z32 : Int) (z33 : Int) (z34 : LLM) (z35 : LI) (z36 : LI) (z37 : LM) (z38 : LLM) :
    (contAt (E9 L N) (evCallI (E9 L N) 0 1000) 1000 9 77 4 f9.c1 (rdK (E9 L N) 1000 9 77 2 κ rec)) (.exit 4) (f9.T2_e4 z32 z33 z34 z35 z36 z37 z38) (f9.H2_e4 z32 z33 z34 z35 z36 z37 z38)
    = f9.p2_e4 L N (f9.X1_e2 κ) (f9.R1 rec) z32 z33 z34 z35 z36 z37 z38 := by kernel_rfl
theorem f9.s1_eq {R : Type} (L N : Nat) (κ : KX R) (rec : KT R) (s15 : Int) (s16 : Int) (s17 : LLM) (s18 : LI) (s19 : LI) (s20 : LLM) :
    evRd (E9 L N) (evCallI (E9 L N) 0 1000) 1000 9 77 2 f9.c1 κ rec (f9.T1 s15 s16 s17 s18 s19 s20) (f9.H1 s15 s16 s17 s18 s19 s20)
    = f9.s1 L N (f9.X1_e2 κ) (f9.R1 rec) s15 s16 s17 s18 s19 s20 := by
  refine Eq.trans (b := f9.s1' L N (f9.X1_e2 κ) (f9.R1 rec) (fun s22 s23 s24 s25 s26 s27 s28 s29 s30 s31 => evLp (E9 L N) (evCallI (E9 L N) 0 1000) 1000 9 77 4 f9.c2 (contAt (E9 L N) (evCallI (E9 L N) 0 1000) 1000 9 77 4 f9.c1 (rdK (E9 L N) 1000 9 77 2 κ rec)) L (f9.T2 s22 s23 s24 s25 s26 s27 s28 s29 s30 s31) (f9.H2 s22 s23 s24 s25 s26 s27 s28 s29 s30 s31)) s15 s16 s17 s18 s19 s20) (by kernel_rfl) ?_
  unfold f9.s1
  simp only [f9.l2_eq]
  delta f9.X2_e4
  simp only [f9.p2_e4_eq]
theorem f9.l1_eq {R : Type} (L N : Nat) (κ : KX R) : ∀ (n : Nat) (s15 : Int) (s16 : Int) (s17 : LLM) (s18 : LI) (s19 : LI) (s20 : LLM),
    evLp (E9 L N) (evCallI (E9 L N) 0 1000) 1000 9 77 2 f9.c1 κ n (f9.T1 s15 s16 s17 s18 s19 s20) (f9.H1 s15 s16 s17 s18 s19 s20)
    = f9.l1 L N (f9.X1_e2 κ) n s15 s16 s17 s18 s19 s20 := by
  intro n
  induction n with
  | zero => intros; rfl
  | succ n ih =>
    intro s15 s16 s17 s18 s19 s20
    rw [evLp_succ, f9.s1_eq]
    delta f9.R1
    simp only [ih]
    rfl
theorem f9.p1_e2_eq {R : Type} (L N : Nat) (κ : AV → Option R) (z21 : LLM) :
    (contAt (E9 L N) (evCallI (E9 L N) 0 1000) 1000 9 77 2 (codeOf Tryz.f9) (finK (E9 L N) 1000 Tryz.f9 (finC (.many [(.st 2), .bool]) κ))) (.exit 2) (f9.T1_e2 z21) (f9.H1_e2 z21)
    = f9.p1_e2 L N (fun a0 a1 => κ (.tup [(.tv (.st 2) a0), (.tv .bool a1)])) z21 := by kernel_rfl
theorem f9.p0_e0_eq {R : Type} (L N : Nat) (κ : AV → Option R) (z7 : LLM) (z8 : LI) (z9 : LI) :
    (contAt (E9 L N) (evCallI (E9 L N) 0 1000) 1000 9 77 0 (codeOf Tryz.f9) (finK (E9 L N) 1000 Tryz.f9 (finC (.many [(.st 2), .bool]) κ))) (.exit 0) (f9.T0_e0 z7 z8 z9) (f9.H0_e0 z7 z8 z9)
    = f9.p0_e0 L N (fun a0 a1 => κ (.tup [(.tv (.st 2) a0), (.tv .bool a1)])) z7 z8 z9 := by
  refine Eq.trans (b := f9.p0_e0' L N (fun a0 a1 => κ (.tup [(.tv (.st 2) a0), (.tv .bool a1)])) (fun s15 s16 s17 s18 s19 s20 => evLp (E9 L N) (evCallI (E9 L N) 0 1000) 1000 9 77 2 f9.c1 (contAt (E9 L N) (evCallI (E9 L N) 0 1000) 1000 9 77 2 (codeOf Tryz.f9) (finK (E9 L N) 1000 Tryz.f9 (finC (.many [(.st 2), .bool]) κ))) L (f9.T1 s15 s16 s17 s18 s19 s20) (f9.H1 s15 s16 s17 s18 s19 s20)) z7 z8 z9) (by kernel_rfl) ?_
  unfold f9.p0_e0
  simp only [f9.l1_eq]
  delta f9.X1_e2
  simp only [f9.p1_e2_eq]
theorem f9.b_eq {R : Type} (L N : Nat) (κ : AV → Option R) (x0 : Graph) :
    evBody (E9 L N) (evCallI (E9 L N) 0 1000) 1000 9 Tryz.f9 [(.tv (.st 2) x0)] [] [] (finC (.many [(.st 2), .bool]) κ)
    = f9.b L N (fun a0 a1 => κ (.tup [(.tv (.st 2) a0), (.tv .bool a1)])) x0 := by
  refine Eq.trans (b := f9.b' L N (fun a0 a1 => κ (.tup [(.tv (.st 2) a0), (.tv .bool a1)])) (fun s2 s3 s4 s5 s6 => evLp (E9 L N) (evCallI (E9 L N) 0 1000) 1000 9 77 0 f9.c0 (contAt (E9 L N) (evCallI (E9 L N) 0 1000) 1000 9 77 0 (codeOf Tryz.f9) (finK (E9 L N) 1000 Tryz.f9 (finC (.many [(.st 2), .bool]) κ))) L (f9.T0 s2 s3 s4 s5 s6) (f9.H0 s2 s3 s4 s5 s6)) x0) (by kernel_rfl) ?_
  unfold f9.b
  simp only [f9.l0_eq]
  delta f9.X0_e0
  simp only [f9.p0_e0_eq]
theorem f9.ok (L N : Nat) (hΦ : TellsOk Tryz.prog ((Φ24 L N))) : EntOk Tryz.prog 9 (f9.ent L N) := entDa_ok (E := (E9 L N)) (dep := 1000) (f := Tryz.f9) (sound_of hΦ) okP (callI_sound (sound_of hΦ) okP 0 1000) rfl fun d _ hy => (f9.b_eq L N (unR (.many [(.st 2), .bool])) d.1).trans (Eq.trans (b := f9.b L N (fun a0 a1 => some (a0, a1)) d.1) (by kernel_rfl) hy)
def Φ9 (L N : Nat) : Tells := (addT (Φ24 L N) 9 (f9.ent L N))
theorem Φ9_ok (L N : Nat) : TellsOk Tryz.prog (Φ9 L N) := addT_ok (Φ24_ok L N) (f9.ok L N (Φ24_ok L N))
def f13.b' {R : Type} (L N : Nat) (k : LI → Int → Option R) (x0 : LI) : Option R :=
  bif (decide ((x0.length : Int) > (2000 : Int))) then
    bif (slB (0 : Int) (2000 : Int) x0.length) then
      k (slX x0 (0 : Int) (2000 : Int)) (0 : Int)
    else none
  else k x0 (0 : Int)
def f13.b {R : Type} (L N : Nat) (k : LI → Int → Option R) (x0 : LI) : Option R :=
  f13.b' L N k x0
def f13 (L N : Nat) (x0 : LI) : Option (LI × Int) := f13.b L N (fun a0 a1 => some (a0, a1)) x0
def f13.ent (L N : Nat) (args : List AV) (vw : View) (site : Nat) : Ans := match coeD [(.sl (.int .u8))] vw args with
  | some (d, u) => ⟨LI × Int, f13 L N d.1, fun y => (.ptr site 0, u ++ [(site, some (.box [(.tv (.sl (.int .u8)) y.1), (.tv i64 y.2)]))], [])⟩
  | none => Ans.no
noncomputable def E13 (L N : Nat) : Env := { P := Tryz.prog, ty := tyOf, Φ := (Φ9 L N), inl := inlT, live := lives, liveX := livesX, L := L, dp := none, prom := promT, heal := healT, ren := renT }
theorem f13.b_eq {R : Type} (L N : Nat) (κ : Dens [(.sl (.int .u8)), i64] → Option R) (x0 : LI) :
    evBody (E13 L N) (evCallI (E13 L N) 0 1000) 1000 13 Tryz.f13 [(.tv (.sl (.int .u8)) x0)] [] [] (finB [(.sl (.int .u8)), i64] κ)
    = f13.b L N (fun a0 a1 => κ (a0, a1, ())) x0 := by kernel_rfl
theorem f13.ok (L N : Nat) (hΦ : TellsOk Tryz.prog ((Φ9 L N))) : EntOk Tryz.prog 13 (f13.ent L N) := by
  intro args vw site h
  unfold f13.ent
  split
  · rename_i d u ha
    intro y hy hs
    refine call_newbox (y := y) (dep := 1000) (d1 := (y.1, y.2, ())) (E := (E13 L N)) (ts := [(.sl (.int .u8))]) (tb := [(.sl (.int .u8)), i64]) (κ := (fun d => some (d.1, d.2.1))) (sound_of hΦ) okP (callI_sound (sound_of hΦ) okP 0 1000) (f := Tryz.f13) rfl hs ha ?_ (fun _ h => by obtain rfl := Option.some.inj h; rfl) site
    exact (f13.b_eq L N (fun d => some (d.1, d.2.1)) d.1).trans (Eq.trans (b := f13.b L N (fun a0 a1 => some (a0, a1)) d.1) (by kernel_rfl) hy)
  · intro y hy
    cases hy
def Φ13 (L N : Nat) : Tells := (addT (Φ9 L N) 13 (f13.ent L N))
theorem Φ13_ok (L N : Nat) : TellsOk Tryz.prog (Φ13 L N) := addT_ok (Φ9_ok L N) (f13.ok L N (Φ9_ok L N))
def f35.j0' {R : Type} (L N : Nat) (k : Int → LI → Int → Option R) (v4 : Int) (v5 : LI) (v6 : Int) : Option R :=
  bif (decide ((wi (v6 - (1 : Int))) < (v5.length : Int))) then
    bif (decide (0 ≤ (wi (v6 - (1 : Int)))) && decide ((wi (v6 - (1 : Int))) < (v5.length : Int))) then
      bif (decide (v4 = 0)) then
        none
      else k (Int.tmod (wi ((listAt v5 (0 : Int) (wi (v6 - (1 : Int))).toNat))) v4) v5 v6
    else none
  else bif (decide ((v5.length : Int) = 0)) then
    none
  else bif (decide (0 ≤ (Int.tmod (wi (v6 - (1 : Int))) (v5.length : Int))) && decide ((Int.tmod (wi (v6 - (1 : Int))) (v5.length : Int)) < (v5.length : Int))) then
    bif (decide ((v5.length : Int) = 0)) then
      none
    else bif (decide (0 ≤ (Int.tmod (wi ((wi ((wi (v6 - (1 : Int))) * (7 : Int))) + (3 : Int))) (v5.length : Int))) && decide ((Int.tmod (wi ((wi ((wi (v6 - (1 : Int))) * (7 : Int))) + (3 : Int))) (v5.length : Int)) < (v5.length : Int))) then
      bif (decide ((v5.length : Int) = 0)) then
        none
      else bif (decide ((64 : Int) = 0)) then
        none
      else bif (decide (v4 = 0)) then
        none
      else k (Int.tmod (IntKind.wrap .i64 ((BitVec.ofInt (IntKind.bits .i64) (wi ((wi ((wi ((wi ((wi ((listAt v5 (0 : Int) (Int.tmod (wi (v6 - (1 : Int))) (v5.length : Int)).toNat))) * (131 : Int))) + (wi ((wi ((listAt v5 (0 : Int) (Int.tmod (wi ((wi ((wi (v6 - (1 : Int))) * (7 : Int))) + (3 : Int))) (v5.length : Int)).toNat))) * (1117 : Int))))) + (wi ((wi (v6 - (1 : Int))) * (29 : Int))))) + (wi ((wi (Int.tdiv (wi (v6 - (1 : Int))) (v5.length : Int))) * (53 : Int))))) ^^^ BitVec.ofInt (IntKind.bits .i64) (wi (Int.tdiv (wi ((wi ((wi ((wi ((wi ((listAt v5 (0 : Int) (Int.tmod (wi (v6 - (1 : Int))) (v5.length : Int)).toNat))) * (131 : Int))) + (wi ((wi ((listAt v5 (0 : Int) (Int.tmod (wi ((wi ((wi (v6 - (1 : Int))) * (7 : Int))) + (3 : Int))) (v5.length : Int)).toNat))) * (1117 : Int))))) + (wi ((wi (v6 - (1 : Int))) * (29 : Int))))) + (wi ((wi (Int.tdiv (wi (v6 - (1 : Int))) (v5.length : Int))) * (53 : Int))))) (64 : Int)))).toNat)) v4) v5 v6
    else none
  else none
def f35.b' {R : Type} (L N : Nat) (k : Int → LI → Int → Option R) (c0 : LI) (c1 : Int) (x0 : Int) : Option R :=
  bif (decide (x0 < (1 : Int))) then
    k (0 : Int) c0 (wi (c1 + (1 : Int)))
  else bif ((c0.length : Int) == (0 : Int)) then
    k (0 : Int) c0 (wi (c1 + (1 : Int)))
  else f35.j0' L N k x0 c0 (wi (c1 + (1 : Int)))
def f35.b {R : Type} (L N : Nat) (k : Int → LI → Int → Option R) (c0 : LI) (c1 : Int) (x0 : Int) : Option R :=
  f35.b' L N k c0 c1 x0
def f35 (L N : Nat) (c0 : LI) (c1 : Int) (x0 : Int) : Option (Int × LI × Int) := f35.b L N (fun a0 a1 a2 => some (a0, a1, a2)) c0 c1 x0
def f35.ent (L N : Nat) (args : List AV) (vw : View) (site : Nat) : Ans := match boxD [(.sl (.int .u8)), i64] [i64] vw args with
  | some (o, d0, d, u) => ⟨Int × LI × Int, f35 L N d0.1 d0.2.1 d.1, fun y => ((.tv i64 y.1), u ++ [(o, some (.box [(.tv (.sl (.int .u8)) y.2.1), (.tv i64 y.2.2)]))], [])⟩
  | none => Ans.no
noncomputable def E35 (L N : Nat) : Env := { P := Tryz.prog, ty := tyOf, Φ := (Φ13 L N), inl := inlT, live := lives, liveX := livesX, L := L, dp := none, prom := promT, heal := healT, ren := renT }
theorem f35.b_eq {R : Type} (L N : Nat) (κ : AV → Dens [(.sl (.int .u8)), i64] → Option R) (c0 : LI) (c1 : Int) (x0 : Int) :
    evBody (E35 L N) (evCallI (E35 L N) 0 1000) 1000 35 Tryz.f35 [(.ptr 0 0), (.tv i64 x0)] [.ptr 0 0] [(0, (.box [(.tv (.sl (.int .u8)) c0), (.tv i64 c1)]))] (finM (.one i64) [(.sl (.int .u8)), i64] κ)
    = f35.b L N (fun a0 a1 a2 => κ (.tv i64 a0) (a1, a2, ())) c0 c1 x0 := by kernel_rfl
theorem f35.ok (L N : Nat) (hΦ : TellsOk Tryz.prog ((Φ13 L N))) : EntOk Tryz.prog 35 (f35.ent L N) := by
  intro args vw site h
  unfold f35.ent
  split
  · rename_i o d0 d u ha
    intro y hy hs
    obtain ⟨rest, cs, rfl, ho, hd0, hr, hu⟩ := boxD_some ha
    refine call_box (y := y) (dep := 1000) (v' := (.tv i64 y.1)) (d1 := (y.2.1, y.2.2, ())) (E := (E35 L N)) (ts := [(.sl (.int .u8)), i64]) (tr := [i64]) (rs := (.one i64)) (κ := (fun v d => (unR (.one i64) v).bind fun x => some (x, d.1, d.2.1))) (sound_of hΦ) okP (callI_sound (sound_of hΦ) okP 0 1000) (f := Tryz.f35) rfl hs ho hd0 hr hu ?_ (fun _ _ h => by obtain ⟨x, h1, h2⟩ := unR_bind h; obtain rfl := Option.some.inj h2; exact ⟨h1, rfl⟩) site
    exact (f35.b_eq L N (fun v d => (unR (.one i64) v).bind fun x => some (x, d.1, d.2.1)) d0.1 d0.2.1 d.1).trans (Eq.trans (b := f35.b L N (fun a0 a1 a2 => some (a0, a1, a2)) d0.1 d0.2.1 d.1) (by kernel_rfl) hy)
  · intro y hy
    cases hy
def Φ35 (L N : Nat) : Tells := (addT (Φ13 L N) 35 (f35.ent L N))
theorem Φ35_ok (L N : Nat) : TellsOk Tryz.prog (Φ35 L N) := addT_ok (Φ13_ok L N) (f35.ok L N (Φ13_ok L N))
def f66.b' {R : Type} (L N : Nat) (k : Int → LI → Int → Option R) (c0 : LI) (c1 : Int) : Option R :=
  (f35 L N c0 c1 (3 : Int)).bind fun y0 =>
  bif (decide (y0.1 > (0 : Int))) then
    (f35 L N y0.2.1 y0.2.2 (5 : Int)).bind fun y1 =>
    k (wi (y1.1 - (2 : Int))) y1.2.1 y1.2.2
  else (f35 L N y0.2.1 y0.2.2 (9 : Int)).bind fun y2 =>
  k (wi (y2.1 - (4 : Int))) y2.2.1 y2.2.2
def f66.b {R : Type} (L N : Nat) (k : Int → LI → Int → Option R) (c0 : LI) (c1 : Int) : Option R :=
  f66.b' L N k c0 c1
def f66 (L N : Nat) (c0 : LI) (c1 : Int) : Option (Int × LI × Int) := f66.b L N (fun a0 a1 a2 => some (a0, a1, a2)) c0 c1
def f66.ent (L N : Nat) (args : List AV) (vw : View) (site : Nat) : Ans := match boxD [(.sl (.int .u8)), i64] [] vw args with
  | some (o, d0, d, u) => ⟨Int × LI × Int, f66 L N d0.1 d0.2.1, fun y => ((.tv i64 y.1), u ++ [(o, some (.box [(.tv (.sl (.int .u8)) y.2.1), (.tv i64 y.2.2)]))], [])⟩
  | none => Ans.no
noncomputable def E66 (L N : Nat) : Env := { P := Tryz.prog, ty := tyOf, Φ := (Φ35 L N), inl := inlT, live := lives, liveX := livesX, L := L, dp := none, prom := promT, heal := healT, ren := renT }
theorem f66.b_eq {R : Type} (L N : Nat) (κ : AV → Dens [(.sl (.int .u8)), i64] → Option R) (c0 : LI) (c1 : Int) :
    evBody (E66 L N) (evCallI (E66 L N) 0 1000) 1000 66 Tryz.f66 [(.ptr 0 0)] [.ptr 0 0] [(0, (.box [(.tv (.sl (.int .u8)) c0), (.tv i64 c1)]))] (finM (.one i64) [(.sl (.int .u8)), i64] κ)
    = f66.b L N (fun a0 a1 a2 => κ (.tv i64 a0) (a1, a2, ())) c0 c1 := by kernel_rfl
theorem f66.ok (L N : Nat) (hΦ : TellsOk Tryz.prog ((Φ35 L N))) : EntOk Tryz.prog 66 (f66.ent L N) := by
  intro args vw site h
  unfold f66.ent
  split
  · rename_i o d0 d u ha
    intro y hy hs
    obtain ⟨rest, cs, rfl, ho, hd0, hr, hu⟩ := boxD_some ha
    refine call_box (y := y) (dep := 1000) (v' := (.tv i64 y.1)) (d1 := (y.2.1, y.2.2, ())) (E := (E66 L N)) (ts := [(.sl (.int .u8)), i64]) (tr := []) (rs := (.one i64)) (κ := (fun v d => (unR (.one i64) v).bind fun x => some (x, d.1, d.2.1))) (sound_of hΦ) okP (callI_sound (sound_of hΦ) okP 0 1000) (f := Tryz.f66) rfl hs ho hd0 hr hu ?_ (fun _ _ h => by obtain ⟨x, h1, h2⟩ := unR_bind h; obtain rfl := Option.some.inj h2; exact ⟨h1, rfl⟩) site
    exact (f66.b_eq L N (fun v d => (unR (.one i64) v).bind fun x => some (x, d.1, d.2.1)) d0.1 d0.2.1).trans (Eq.trans (b := f66.b L N (fun a0 a1 a2 => some (a0, a1, a2)) d0.1 d0.2.1) (by kernel_rfl) hy)
  · intro y hy
    cases hy
def Φ66 (L N : Nat) : Tells := (addT (Φ35 L N) 66 (f66.ent L N))
theorem Φ66_ok (L N : Nat) : TellsOk Tryz.prog (Φ66 L N) := addT_ok (Φ35_ok L N) (f66.ok L N (Φ35_ok L N))
def f79.j0' {R : Type} (L N : Nat) (self79 : LI → Int → Int → Int → Bool → Option (Tree × LI × Int)) (k : Tree → LI → Int → Option R) (v10 : Int) (v11 : Int) (v12 : Bool) (v13 : Int) (v14 : Bool) (v15 : LI) (v16 : Int) (v17 : Int) (v18 : Int) : Option R :=
  bif v14 then
    (f35 L N v15 v16 v11).bind fun y19 =>
    k (Tree.mk (5 : Int) y19.1 []) y19.2.1 y19.2.2
  else bif (v13 == (0 : Int)) then
    k (Tree.mk (0 : Int) (0 : Int) []) v15 v16
  else bif (decide (v13 < (5 : Int))) then
    (f66 L N v15 v16).bind fun y20 =>
    bif (v10 == (0 : Int)) then
      k (Tree.mk (1 : Int) y20.1 ([(Tree.mk (0 : Int) (0 : Int) [])] : LT)) y20.2.1 y20.2.2
    else (self79 y20.2.1 y20.2.2 (bif decide ((wi (v10 - (1 : Int))) > (0 : Int)) then (wi (v10 - (1 : Int))) else (0 : Int)) v11 true).bind fun y21 =>
    k (Tree.mk (1 : Int) y20.1 ([y21.1] : LT)) y21.2.1 y21.2.2
  else bif (v13 == (5 : Int)) then
    (f35 L N v15 v16 (4 : Int)).bind fun y22 =>
    (self79 y22.2.1 y22.2.2 (wi (v10 - (1 : Int))) v11 v12).bind fun y23 =>
    k (Tree.mk (4 : Int) y22.1 ([y23.1] : LT)) y23.2.1 y23.2.2
  else bif (v13 == (8 : Int)) then
    (self79 v15 v16 (wi (v10 - (1 : Int))) v11 v12).bind fun y34 =>
    (self79 y34.2.1 y34.2.2 (wi (v10 - (1 : Int))) v11 v12).bind fun y35 =>
    k (Tree.mk (3 : Int) (0 : Int) ([(Tree.mk y34.1.op y34.1.n y34.1.parts), (Tree.mk y35.1.op y35.1.n y35.1.parts)] : LT)) y35.2.1 y35.2.2
  else (self79 v15 v16 (wi (v10 - (1 : Int))) v11 v12).bind fun y36 =>
  (self79 y36.2.1 y36.2.2 (wi (v10 - (1 : Int))) v11 v12).bind fun y37 =>
  k (Tree.mk (2 : Int) (0 : Int) ([(Tree.mk y36.1.op y36.1.n y36.1.parts), (Tree.mk y37.1.op y37.1.n y37.1.parts)] : LT)) y37.2.1 y37.2.2
def f79.j1' {R : Type} (L N : Nat) (self79 : LI → Int → Int → Int → Bool → Option (Tree × LI × Int)) (k : Tree → LI → Int → Option R) (v2 : Int) (v3 : Int) (v4 : Bool) (v5 : Int) (v6 : LI) (v7 : Int) (v8 : Int) (v9 : Int) : Option R :=
  bif (decide (v5 < (2 : Int))) then
    bif (decide (v3 > (0 : Int))) then
      f79.j0' L N self79 k v2 v3 v4 v5 v4 v6 v7 v8 v9
    else f79.j0' L N self79 k v2 v3 v4 v5 false v6 v7 v8 v9
  else f79.j0' L N self79 k v2 v3 v4 v5 false v6 v7 v8 v9
def f79.b' {R : Type} (L N : Nat) (self79 : LI → Int → Int → Int → Bool → Option (Tree × LI × Int)) (k : Tree → LI → Int → Option R) (c0 : LI) (c1 : Int) (x0 : Int) (x1 : Int) (x2 : Bool) : Option R :=
  (f35 L N c0 c1 (9 : Int)).bind fun y0 =>
  bif (x0 == (0 : Int)) then
    (f35 L N y0.2.1 y0.2.2 (2 : Int)).bind fun y1 =>
    f79.j1' L N self79 k x0 x1 x2 y1.1 y1.2.1 y1.2.2 (0 : Int) (0 : Int)
  else f79.j1' L N self79 k x0 x1 x2 y0.1 y0.2.1 y0.2.2 (0 : Int) (0 : Int)
def f79.b {R : Type} (L N : Nat) (self79 : LI → Int → Int → Int → Bool → Option (Tree × LI × Int)) (k : Tree → LI → Int → Option R) (c0 : LI) (c1 : Int) (x0 : Int) (x1 : Int) (x2 : Bool) : Option R :=
  f79.b' L N self79 k c0 c1 x0 x1 x2
def f79 (L N : Nat) : Nat → LI → Int → Int → Int → Bool → Option (Tree × LI × Int)
  | 0, _, _, _, _, _ => none
  | n + 1, c0, c1, x0, x1, x2 => f79.b L N (f79 L N n) (fun a0 a1 a2 => some (a0, a1, a2)) c0 c1 x0 x1 x2
def f79.ent (L N m : Nat) (args : List AV) (vw : View) (site : Nat) : Ans := match boxD [(.sl (.int .u8)), i64] [i64, i64, .bool] vw args with
  | some (o, d0, d, u) => ⟨Tree × LI × Int, f79 L N m d0.1 d0.2.1 d.1 d.2.1 d.2.2.1, fun y => ((.tv (.st 1) y.1), u ++ [(o, some (.box [(.tv (.sl (.int .u8)) y.2.1), (.tv i64 y.2.2)]))], [])⟩
  | none => Ans.no
def Φ79s (L N m : Nat) : Tells := (addT (Φ66 L N) 79 (f79.ent L N m))
noncomputable def E79 (L N m : Nat) : Env := { P := Tryz.prog, ty := tyOf, Φ := Φ79s L N m, inl := inlT, live := lives, liveX := livesX, L := L, dp := none, prom := promT, heal := healT, ren := renT }
theorem f79.b_eq {R : Type} (L N m : Nat) (κ : AV → Dens [(.sl (.int .u8)), i64] → Option R) (c0 : LI) (c1 : Int) (x0 : Int) (x1 : Int) (x2 : Bool) :
    evBody (E79 L N m) (evCallI (E79 L N m) 0 1000) 1000 79 Tryz.f79 [(.ptr 0 0), (.tv i64 x0), (.tv i64 x1), (.tv .bool x2)] [.ptr 0 0] [(0, (.box [(.tv (.sl (.int .u8)) c0), (.tv i64 c1)]))] (finM (.one (.st 1)) [(.sl (.int .u8)), i64] κ)
    = f79.b L N (f79 L N m) (fun a0 a1 a2 => κ (.tv (.st 1) a0) (a1, a2, ())) c0 c1 x0 x1 x2 := by kernel_rfl
theorem f79.ok (L N m : Nat) (hΦ : TellsOk Tryz.prog (Φ79s L N m)) : EntOk Tryz.prog 79 (f79.ent L N (m + 1)) := by
  intro args vw site h
  unfold f79.ent
  split
  · rename_i o d0 d u ha
    intro y hy hs
    obtain ⟨rest, cs, rfl, ho, hd0, hr, hu⟩ := boxD_some ha
    refine call_box (y := y) (dep := 1000) (v' := (.tv (.st 1) y.1)) (d1 := (y.2.1, y.2.2, ())) (E := (E79 L N m)) (ts := [(.sl (.int .u8)), i64]) (tr := [i64, i64, .bool]) (rs := (.one (.st 1))) (κ := (fun v d => (unR (.one (.st 1)) v).bind fun x => some (x, d.1, d.2.1))) (sound_of hΦ) okP (callI_sound (sound_of hΦ) okP 0 1000) (f := Tryz.f79) rfl hs ho hd0 hr hu ?_ (fun _ _ h => by obtain ⟨x, h1, h2⟩ := unR_bind h; obtain rfl := Option.some.inj h2; exact ⟨h1, rfl⟩) site
    exact (f79.b_eq L N m (fun v d => (unR (.one (.st 1)) v).bind fun x => some (x, d.1, d.2.1)) d0.1 d0.2.1 d.1 d.2.1 d.2.2.1).trans (Eq.trans (b := f79.b L N (f79 L N m) (fun a0 a1 a2 => some (a0, a1, a2)) d0.1 d0.2.1 d.1 d.2.1 d.2.2.1) (by kernel_rfl) hy)
  · intro y hy
    cases hy
theorem Φ79s_ok (L N : Nat) : ∀ m, TellsOk Tryz.prog (Φ79s L N m) := by
  intro m
  induction m with
  | zero => exact (addT_ok (Φ66_ok L N) (fun args vw site h => by unfold f79.ent; split <;> (intro y hy; cases hy)))
  | succ m ih => exact (addT_ok (Φ66_ok L N) (f79.ok L N m ih))
def Φ79 (L N : Nat) : Tells := (addT (Φ66 L N) 79 (f79.ent L N N))
theorem Φ79_ok (L N : Nat) : TellsOk Tryz.prog (Φ79 L N) := Φ79s_ok L N N
def f62.s0' {R : Type} (L N : Nat) (k0_e0 : Int → LI → Int → LT → Option R) (rec0 : Int → Int → LI → Int → LT → Option R) (s1 : Int) (s2 : Int) (s3 : LI) (s4 : Int) (s5 : LT) : Option R :=
  bif (decide (s2 < s1)) then
    (f35 L N s3 s4 (3 : Int)).bind fun y10 =>
    (f79 L N N y10.2.1 y10.2.2 (wi ((1 : Int) + y10.1)) s1 false).bind fun y11 =>
    bif (decide (s5.length + ([y11.1] : LT).length ≤ lim)) then
      rec0 s1 (wi (s2 + (1 : Int))) y11.2.1 y11.2.2 (s5 ++ ([y11.1] : LT))
    else none
  else k0_e0 s1 s3 s4 s5
def f62.s0 {R : Type} (L N : Nat) (k0_e0 : Int → LI → Int → LT → Option R) (rec0 : Int → Int → LI → Int → LT → Option R) (s1 : Int) (s2 : Int) (s3 : LI) (s4 : Int) (s5 : LT) : Option R :=
  f62.s0' L N k0_e0 rec0 s1 s2 s3 s4 s5
def f62.l0 {R : Type} (L N : Nat) (k0_e0 : Int → LI → Int → LT → Option R) : Nat → Int → Int → LI → Int → LT → Option R
  | 0, _, _, _, _, _ => none
  | n + 1, s1, s2, s3, s4, s5 => f62.s0 L N k0_e0 (f62.l0 L N k0_e0 n) s1 s2 s3 s4 s5
def f62.T0 (s1 : Int) (s2 : Int) (s3 : LI) (s4 : Int) (s5 : LT) : T := mkT 41 [(0, (.ptr 0 0)), (3, (.tv i64 s1)), (4, (.row 1008)), (5, (.tv i64 s2))] ++ [.ptr 0 0]
def f62.H0 (s1 : Int) (s2 : Int) (s3 : LI) (s4 : Int) (s5 : LT) : H := [(0, (.box [(.tv (.sl (.int .u8)) s3), (.tv i64 s4)])), (1008, (.row 63 (.st 1) s5))]
def f62.T0_e0 (z6 : Int) (z7 : LI) (z8 : Int) (z9 : LT) : T := mkT 41 [(0, (.ptr 0 0)), (3, (.tv i64 z6)), (4, (.row 1008))] ++ [.ptr 0 0]
def f62.H0_e0 (z6 : Int) (z7 : LI) (z8 : Int) (z9 : LT) : H := [(0, (.box [(.tv (.sl (.int .u8)) z7), (.tv i64 z8)])), (1008, (.row 63 (.st 1) z9))]
def f62.j0' {R : Type} (L N : Nat) (k : LT → LI → Int → Option R) (v13 : Int) (v14 : Bool) (v15 : LI) (v16 : Int) (v17 : LT) : Option R :=
  bif v14 then
    (f35 L N v15 v16 v13).bind fun y18 =>
    (f35 L N y18.2.1 y18.2.2 (wi (v13 + (1 : Int)))).bind fun y19 =>
    bif (decide (0 ≤ y18.1) && decide (y18.1 < (v17.length : Int))) then
      k (v17.set y18.1.toNat (Tree.mk (5 : Int) y19.1 [])) y19.2.1 y19.2.2
    else none
  else k v17 v15 v16
def f62.p0_e0' {R : Type} (L N : Nat) (k : LT → LI → Int → Option R) (z6 : Int) (z7 : LI) (z8 : Int) (z9 : LT) : Option R :=
  bif (decide (z6 > (0 : Int))) then
    (f35 L N z7 z8 (20 : Int)).bind fun y12 =>
    f62.j0' L N k z6 (y12.1 == (0 : Int)) y12.2.1 y12.2.2 z9
  else f62.j0' L N k z6 false z7 z8 z9
def f62.p0_e0 {R : Type} (L N : Nat) (k : LT → LI → Int → Option R) (z6 : Int) (z7 : LI) (z8 : Int) (z9 : LT) : Option R :=
  f62.p0_e0' L N k z6 z7 z8 z9
def f62.b' {R : Type} (L N : Nat) (k : LT → LI → Int → Option R) (w0 : Int → Int → LI → Int → LT → Option R) (c0 : LI) (c1 : Int) : Option R :=
  (f35 L N c0 c1 (4 : Int)).bind fun y0 =>
  w0 y0.1 (0 : Int) y0.2.1 y0.2.2 ([] : LT)
def f62.b {R : Type} (L N : Nat) (k : LT → LI → Int → Option R) (c0 : LI) (c1 : Int) : Option R :=
  f62.b' L N k (fun s1 s2 s3 s4 s5 => f62.l0 L N (fun z6 z7 z8 z9 => f62.p0_e0 L N k z6 z7 z8 z9) L s1 s2 s3 s4 s5) c0 c1
def f62 (L N : Nat) (c0 : LI) (c1 : Int) : Option (LT × LI × Int) := f62.b L N (fun a0 a1 a2 => some (a0, a1, a2)) c0 c1
def f62.ent (L N : Nat) (args : List AV) (vw : View) (site : Nat) : Ans := match boxD [(.sl (.int .u8)), i64] [] vw args with
  | some (o, d0, d, u) => ⟨LT × LI × Int, f62 L N d0.1 d0.2.1, fun y => ((.tv (.sl (.st 1)) y.1), u ++ [(o, some (.box [(.tv (.sl (.int .u8)) y.2.1), (.tv i64 y.2.2)]))], [])⟩
  | none => Ans.no
noncomputable def E62 (L N : Nat) : Env := { P := Tryz.prog, ty := tyOf, Φ := (Φ79 L N), inl := inlT, live := lives, liveX := livesX, L := L, dp := none, prom := promT, heal := healT, ren := renT }
noncomputable def f62.c0 : Code := loopAt 0 (codeOf Tryz.f62)
def f62.X0_e0 {R : Type} (κ : KX R) := fun z6 z7 z8 z9 => κ (.exit 0) (f62.T0_e0 z6 z7 z8 z9) (f62.H0_e0 z6 z7 z8 z9)
def f62.R0 {R : Type} (rec : KT R) := fun s1 s2 s3 s4 s5 => rec (f62.T0 s1 s2 s3 s4 s5) (f62.H0 s1 s2 s3 s4 s5)
theorem f62.s0_eq {R : Type} (L N : Nat) (κ : KX R) (rec : KT R) (s1 : Int) (s2 : Int) (s3 : LI) (s4 : Int) (s5 : LT) :
    evRd (E62 L N) (evCallI (E62 L N) 0 1000) 1000 62 41 0 f62.c0 κ rec (f62.T0 s1 s2 s3 s4 s5) (f62.H0 s1 s2 s3 s4 s5)
    = f62.s0 L N (f62.X0_e0 κ) (f62.R0 rec) s1 s2 s3 s4 s5 := by kernel_rfl
theorem f62.l0_eq {R : Type} (L N : Nat) (κ : KX R) : ∀ (n : Nat) (s1 : Int) (s2 : Int) (s3 : LI) (s4 : Int) (s5 : LT),
    evLp (E62 L N) (evCallI (E62 L N) 0 1000) 1000 62 41 0 f62.c0 κ n (f62.T0 s1 s2 s3 s4 s5) (f62.H0 s1 s2 s3 s4 s5)
    = f62.l0 L N (f62.X0_e0 κ) n s1 s2 s3 s4 s5 := by
  intro n
  induction n with
  | zero => intros; rfl
  | succ n ih =>
    intro s1 s2 s3 s4 s5
    rw [evLp_succ, f62.s0_eq]
    delta f62.R0
    simp only [ih]
    rfl
theorem f62.p0_e0_eq {R : Type} (L N : Nat) (κ : AV → Dens [(.sl (.int .u8)), i64] → Option R) (z6 : Int) (z7 : LI) (z8 : Int) (z9 : LT) :
    (contAt (E62 L N) (evCallI (E62 L N) 0 1000) 1000 62 41 0 (codeOf Tryz.f62) (finK (E62 L N) 1000 Tryz.f62 (finM (.one (.sl (.st 1))) [(.sl (.int .u8)), i64] κ))) (.exit 0) (f62.T0_e0 z6 z7 z8 z9) (f62.H0_e0 z6 z7 z8 z9)
    = f62.p0_e0 L N (fun a0 a1 a2 => κ (.tv (.sl (.st 1)) a0) (a1, a2, ())) z6 z7 z8 z9 := by kernel_rfl
theorem f62.b_eq {R : Type} (L N : Nat) (κ : AV → Dens [(.sl (.int .u8)), i64] → Option R) (c0 : LI) (c1 : Int) :
    evBody (E62 L N) (evCallI (E62 L N) 0 1000) 1000 62 Tryz.f62 [(.ptr 0 0)] [.ptr 0 0] [(0, (.box [(.tv (.sl (.int .u8)) c0), (.tv i64 c1)]))] (finM (.one (.sl (.st 1))) [(.sl (.int .u8)), i64] κ)
    = f62.b L N (fun a0 a1 a2 => κ (.tv (.sl (.st 1)) a0) (a1, a2, ())) c0 c1 := by
  refine Eq.trans (b := f62.b' L N (fun a0 a1 a2 => κ (.tv (.sl (.st 1)) a0) (a1, a2, ())) (fun s1 s2 s3 s4 s5 => evLp (E62 L N) (evCallI (E62 L N) 0 1000) 1000 62 41 0 f62.c0 (contAt (E62 L N) (evCallI (E62 L N) 0 1000) 1000 62 41 0 (codeOf Tryz.f62) (finK (E62 L N) 1000 Tryz.f62 (finM (.one (.sl (.st 1))) [(.sl (.int .u8)), i64] κ))) L (f62.T0 s1 s2 s3 s4 s5) (f62.H0 s1 s2 s3 s4 s5)) c0 c1) (by kernel_rfl) ?_
  unfold f62.b
  simp only [f62.l0_eq]
  delta f62.X0_e0
  simp only [f62.p0_e0_eq]
theorem f62.ok (L N : Nat) (hΦ : TellsOk Tryz.prog ((Φ79 L N))) : EntOk Tryz.prog 62 (f62.ent L N) := by
  intro args vw site h
  unfold f62.ent
  split
  · rename_i o d0 d u ha
    intro y hy hs
    obtain ⟨rest, cs, rfl, ho, hd0, hr, hu⟩ := boxD_some ha
    refine call_box (y := y) (dep := 1000) (v' := (.tv (.sl (.st 1)) y.1)) (d1 := (y.2.1, y.2.2, ())) (E := (E62 L N)) (ts := [(.sl (.int .u8)), i64]) (tr := []) (rs := (.one (.sl (.st 1)))) (κ := (fun v d => (unR (.one (.sl (.st 1))) v).bind fun x => some (x, d.1, d.2.1))) (sound_of hΦ) okP (callI_sound (sound_of hΦ) okP 0 1000) (f := Tryz.f62) rfl hs ho hd0 hr hu ?_ (fun _ _ h => by obtain ⟨x, h1, h2⟩ := unR_bind h; obtain rfl := Option.some.inj h2; exact ⟨h1, rfl⟩) site
    exact (f62.b_eq L N (fun v d => (unR (.one (.sl (.st 1))) v).bind fun x => some (x, d.1, d.2.1)) d0.1 d0.2.1).trans (Eq.trans (b := f62.b L N (fun a0 a1 a2 => some (a0, a1, a2)) d0.1 d0.2.1) (by kernel_rfl) hy)
  · intro y hy
    cases hy
def Φ62 (L N : Nat) : Tells := (addT (Φ79 L N) 62 (f62.ent L N))
theorem Φ62_ok (L N : Nat) : TellsOk Tryz.prog (Φ62 L N) := addT_ok (Φ79_ok L N) (f62.ok L N (Φ79_ok L N))
def f63.b' {R : Type} (L N : Nat) (k : Tree → LI → Int → Option R) (c0 : LI) (c1 : Int) (x0 : Int) : Option R :=
  (f35 L N c0 c1 (4 : Int)).bind fun y0 =>
  (f79 L N N y0.2.1 y0.2.2 (wi ((1 : Int) + y0.1)) x0 false).bind fun y1 =>
  (f35 L N y1.2.1 y1.2.2 (24 : Int)).bind fun y2 =>
  bif (y2.1 == (0 : Int)) then
    k (Tree.mk ((Tree.mk y1.1.op (wi (y1.1.n + (7 : Int))) y1.1.parts).op) ((Tree.mk y1.1.op (wi (y1.1.n + (7 : Int))) y1.1.parts).n) ((Tree.mk y1.1.op (wi (y1.1.n + (7 : Int))) y1.1.parts).parts)) y2.2.1 y2.2.2
  else bif (y2.1 == (1 : Int)) then
    (f35 L N y2.2.1 y2.2.2 (8 : Int)).bind fun y3 =>
    k (Tree.mk ((Tree.mk y3.1 y1.1.n y1.1.parts).op) ((Tree.mk y3.1 y1.1.n y1.1.parts).n) ((Tree.mk y3.1 y1.1.n y1.1.parts).parts)) y3.2.1 y3.2.2
  else bif (y2.1 == (2 : Int)) then
    bif (decide (([(Tree.mk (0 : Int) (0 : Int) [])] : LT).length + y1.1.parts.length ≤ lim)) then
      k (Tree.mk y1.1.op y1.1.n (([(Tree.mk (0 : Int) (0 : Int) [])] : LT) ++ y1.1.parts)) y2.2.1 y2.2.2
    else none
  else k (Tree.mk ((Tree.mk y1.1.op y1.1.n y1.1.parts).op) ((Tree.mk y1.1.op y1.1.n y1.1.parts).n) ((Tree.mk y1.1.op y1.1.n y1.1.parts).parts)) y2.2.1 y2.2.2
def f63.b {R : Type} (L N : Nat) (k : Tree → LI → Int → Option R) (c0 : LI) (c1 : Int) (x0 : Int) : Option R :=
  f63.b' L N k c0 c1 x0
def f63 (L N : Nat) (c0 : LI) (c1 : Int) (x0 : Int) : Option (Tree × LI × Int) := f63.b L N (fun a0 a1 a2 => some (a0, a1, a2)) c0 c1 x0
def f63.ent (L N : Nat) (args : List AV) (vw : View) (site : Nat) : Ans := match boxD [(.sl (.int .u8)), i64] [i64] vw args with
  | some (o, d0, d, u) => ⟨Tree × LI × Int, f63 L N d0.1 d0.2.1 d.1, fun y => ((.tv (.st 1) y.1), u ++ [(o, some (.box [(.tv (.sl (.int .u8)) y.2.1), (.tv i64 y.2.2)]))], [])⟩
  | none => Ans.no
noncomputable def E63 (L N : Nat) : Env := { P := Tryz.prog, ty := tyOf, Φ := (Φ62 L N), inl := inlT, live := lives, liveX := livesX, L := L, dp := none, prom := promT, heal := healT, ren := renT }
theorem f63.b_eq {R : Type} (L N : Nat) (κ : AV → Dens [(.sl (.int .u8)), i64] → Option R) (c0 : LI) (c1 : Int) (x0 : Int) :
    evBody (E63 L N) (evCallI (E63 L N) 0 1000) 1000 63 Tryz.f63 [(.ptr 0 0), (.tv i64 x0)] [.ptr 0 0] [(0, (.box [(.tv (.sl (.int .u8)) c0), (.tv i64 c1)]))] (finM (.one (.st 1)) [(.sl (.int .u8)), i64] κ)
    = f63.b L N (fun a0 a1 a2 => κ (.tv (.st 1) a0) (a1, a2, ())) c0 c1 x0 := by kernel_rfl
theorem f63.ok (L N : Nat) (hΦ : TellsOk Tryz.prog ((Φ62 L N))) : EntOk Tryz.prog 63 (f63.ent L N) := by
  intro args vw site h
  unfold f63.ent
  split
  · rename_i o d0 d u ha
    intro y hy hs
    obtain ⟨rest, cs, rfl, ho, hd0, hr, hu⟩ := boxD_some ha
    refine call_box (y := y) (dep := 1000) (v' := (.tv (.st 1) y.1)) (d1 := (y.2.1, y.2.2, ())) (E := (E63 L N)) (ts := [(.sl (.int .u8)), i64]) (tr := [i64]) (rs := (.one (.st 1))) (κ := (fun v d => (unR (.one (.st 1)) v).bind fun x => some (x, d.1, d.2.1))) (sound_of hΦ) okP (callI_sound (sound_of hΦ) okP 0 1000) (f := Tryz.f63) rfl hs ho hd0 hr hu ?_ (fun _ _ h => by obtain ⟨x, h1, h2⟩ := unR_bind h; obtain rfl := Option.some.inj h2; exact ⟨h1, rfl⟩) site
    exact (f63.b_eq L N (fun v d => (unR (.one (.st 1)) v).bind fun x => some (x, d.1, d.2.1)) d0.1 d0.2.1 d.1).trans (Eq.trans (b := f63.b L N (fun a0 a1 a2 => some (a0, a1, a2)) d0.1 d0.2.1 d.1) (by kernel_rfl) hy)
  · intro y hy
    cases hy
def Φ63 (L N : Nat) : Tells := (addT (Φ62 L N) 63 (f63.ent L N))
theorem Φ63_ok (L N : Nat) : TellsOk Tryz.prog (Φ63 L N) := addT_ok (Φ62_ok L N) (f63.ok L N (Φ62_ok L N))
def f36.j0' {R : Type} (L N : Nat) (k : Tree → LT → LI → Int → Option R) (v3 : LT) (v4 : Bool) (v5 : LI) (v6 : Int) (v7 : Int) (v8 : Int) (v9 : Int) (v10 : Int) (v11 : LT) : Option R :=
  bif v4 then
    (f35 L N v5 v6 (v3.length : Int)).bind fun y12 =>
    k (Tree.mk (5 : Int) y12.1 []) v3 y12.2.1 y12.2.2
  else k (Tree.mk ((Tree.mk v9 v10 v11).op) ((Tree.mk v9 v10 v11).n) ((Tree.mk v9 v10 v11).parts)) v3 v5 v6
def f36.b' {R : Type} (L N : Nat) (k : Tree → LT → LI → Int → Option R) (c0 : LI) (c1 : Int) : Option R :=
  (f62 L N c0 c1).bind fun y0 =>
  (f63 L N y0.2.1 y0.2.2 (y0.1.length : Int)).bind fun y1 =>
  bif (decide ((y0.1.length : Int) > (0 : Int))) then
    (f35 L N y1.2.1 y1.2.2 (3 : Int)).bind fun y2 =>
    f36.j0' L N k y0.1 (y2.1 == (0 : Int)) y2.2.1 y2.2.2 (0 : Int) (0 : Int) y1.1.op y1.1.n y1.1.parts
  else f36.j0' L N k y0.1 false y1.2.1 y1.2.2 (0 : Int) (0 : Int) y1.1.op y1.1.n y1.1.parts
def f36.b {R : Type} (L N : Nat) (k : Tree → LT → LI → Int → Option R) (c0 : LI) (c1 : Int) : Option R :=
  f36.b' L N k c0 c1
def f36 (L N : Nat) (c0 : LI) (c1 : Int) : Option (Tree × LT × LI × Int) := f36.b L N (fun a0 a1 a2 a3 => some (a0, a1, a2, a3)) c0 c1
def f36.ent (L N : Nat) (args : List AV) (vw : View) (site : Nat) : Ans := match boxD [(.sl (.int .u8)), i64] [] vw args with
  | some (o, d0, d, u) => ⟨Tree × LT × LI × Int, f36 L N d0.1 d0.2.1, fun y => ((.tup [(.tv (.st 1) y.1), (.tv (.sl (.st 1)) y.2.1)]), u ++ [(o, some (.box [(.tv (.sl (.int .u8)) y.2.2.1), (.tv i64 y.2.2.2)]))], [])⟩
  | none => Ans.no
noncomputable def E36 (L N : Nat) : Env := { P := Tryz.prog, ty := tyOf, Φ := (Φ63 L N), inl := inlT, live := lives, liveX := livesX, L := L, dp := none, prom := promT, heal := healT, ren := renT }
theorem f36.b_eq {R : Type} (L N : Nat) (κ : AV → Dens [(.sl (.int .u8)), i64] → Option R) (c0 : LI) (c1 : Int) :
    evBody (E36 L N) (evCallI (E36 L N) 0 1000) 1000 36 Tryz.f36 [(.ptr 0 0)] [.ptr 0 0] [(0, (.box [(.tv (.sl (.int .u8)) c0), (.tv i64 c1)]))] (finM (.many [(.st 1), (.sl (.st 1))]) [(.sl (.int .u8)), i64] κ)
    = f36.b L N (fun a0 a1 a2 a3 => κ (.tup [(.tv (.st 1) a0), (.tv (.sl (.st 1)) a1)]) (a2, a3, ())) c0 c1 := by kernel_rfl
theorem f36.ok (L N : Nat) (hΦ : TellsOk Tryz.prog ((Φ63 L N))) : EntOk Tryz.prog 36 (f36.ent L N) := by
  intro args vw site h
  unfold f36.ent
  split
  · rename_i o d0 d u ha
    intro y hy hs
    obtain ⟨rest, cs, rfl, ho, hd0, hr, hu⟩ := boxD_some ha
    refine call_box (y := y) (dep := 1000) (v' := (.tup [(.tv (.st 1) y.1), (.tv (.sl (.st 1)) y.2.1)])) (d1 := (y.2.2.1, y.2.2.2, ())) (E := (E36 L N)) (ts := [(.sl (.int .u8)), i64]) (tr := []) (rs := (.many [(.st 1), (.sl (.st 1))])) (κ := (fun v d => (unR (.many [(.st 1), (.sl (.st 1))]) v).bind fun x => some (x.1, x.2, d.1, d.2.1))) (sound_of hΦ) okP (callI_sound (sound_of hΦ) okP 0 1000) (f := Tryz.f36) rfl hs ho hd0 hr hu ?_ (fun _ _ h => by obtain ⟨x, h1, h2⟩ := unR_bind h; obtain rfl := Option.some.inj h2; exact ⟨h1, rfl⟩) site
    exact (f36.b_eq L N (fun v d => (unR (.many [(.st 1), (.sl (.st 1))]) v).bind fun x => some (x.1, x.2, d.1, d.2.1)) d0.1 d0.2.1).trans (Eq.trans (b := f36.b L N (fun a0 a1 a2 a3 => some (a0, a1, a2, a3)) d0.1 d0.2.1) (by kernel_rfl) hy)
  · intro y hy
    cases hy
def Φ36 (L N : Nat) : Tells := (addT (Φ63 L N) 36 (f36.ent L N))
theorem Φ36_ok (L N : Nat) : TellsOk Tryz.prog (Φ36 L N) := addT_ok (Φ63_ok L N) (f36.ok L N (Φ63_ok L N))
def f40.b' {R : Type} (L N : Nat) (k : Bool → Option R) (x0 : Int) (x1 : Int) (x2 : Int) : Option R :=
  bif (decide (x0 ≥ x1)) then
    k (decide (x0 ≤ x2))
  else k false
def f40.b {R : Type} (L N : Nat) (k : Bool → Option R) (x0 : Int) (x1 : Int) (x2 : Int) : Option R :=
  f40.b' L N k x0 x1 x2
def f40 (L N : Nat) (x0 : Int) (x1 : Int) (x2 : Int) : Option (Bool) := f40.b L N some x0 x1 x2
def f40.ent (L N : Nat) := entRo [i64, i64, i64] (.one .bool) fun d => f40 L N d.1 d.2.1 d.2.2.1
noncomputable def E40 (L N : Nat) : Env := { P := Tryz.prog, ty := tyOf, Φ := (Φ36 L N), inl := inlT, live := lives, liveX := livesX, L := L, dp := none, prom := promT, heal := healT, ren := renT }
theorem f40.b_eq {R : Type} (L N : Nat) (κ : AV → Option R) (x0 : Int) (x1 : Int) (x2 : Int) :
    evBody (E40 L N) (evCallI (E40 L N) 0 1000) 1000 40 Tryz.f40 [(.tv i64 x0), (.tv i64 x1), (.tv i64 x2)] [] [] (finC (.one .bool) κ)
    = f40.b L N (fun a0 => κ (.tv .bool a0)) x0 x1 x2 := by kernel_rfl
theorem f40.ok (L N : Nat) (hΦ : TellsOk Tryz.prog ((Φ36 L N))) : EntOk Tryz.prog 40 (f40.ent L N) := entRo_ok (E := (E40 L N)) (dep := 1000) (f := Tryz.f40) (sound_of hΦ) okP (callI_sound (sound_of hΦ) okP 0 1000) rfl rfl fun d _ hy => (f40.b_eq L N (unR (.one .bool)) d.1 d.2.1 d.2.2.1).trans (Eq.trans (b := f40.b L N some d.1 d.2.1 d.2.2.1) (by kernel_rfl) hy)
def Φ40 (L N : Nat) : Tells := (addT (Φ36 L N) 40 (f40.ent L N))
theorem Φ40_ok (L N : Nat) : TellsOk Tryz.prog (Φ40 L N) := addT_ok (Φ36_ok L N) (f40.ok L N (Φ36_ok L N))
def f101.j0' {R : Type} (L N : Nat) (self101 : Tree → Bool → Option (Int)) (k0_e0 : Int → Option R) (rec0 : Bool → Int → Int → Int → Int → LT → Option R) (v14 : Bool) (v15 : Int) (v16 : Int) (v17 : Int) (v18 : Int) (v19 : LT) : Option R :=
  bif (decide (0 ≤ v16) && decide (v16 < (v19.length : Int))) then
    (self101 (listAt v19 (Ty.dflt (.st 1)) v16.toNat) v14).bind fun y20 =>
    rec0 v14 (bif decide (y20 > v15) then y20 else v15) (wi (v16 + (1 : Int))) v17 v18 v19
  else none
def f101.s0' {R : Type} (L N : Nat) (self101 : Tree → Bool → Option (Int)) (k0_e0 : Int → Option R) (rec0 : Bool → Int → Int → Int → Int → LT → Option R) (s0 : Bool) (s1 : Int) (s2 : Int) (s3 : Int) (s4 : Int) (s5 : LT) : Option R :=
  bif (decide (s2 < (s5.length : Int))) then
    bif s0 then
      bif (!(s3 == (1 : Int))) then
        f101.j0' L N self101 k0_e0 rec0 s0 s1 s2 s3 s4 s5
      else k0_e0 s1
    else bif (!false) then
      f101.j0' L N self101 k0_e0 rec0 s0 s1 s2 s3 s4 s5
    else k0_e0 s1
  else k0_e0 s1
def f101.s0 {R : Type} (L N : Nat) (self101 : Tree → Bool → Option (Int)) (k0_e0 : Int → Option R) (rec0 : Bool → Int → Int → Int → Int → LT → Option R) (s0 : Bool) (s1 : Int) (s2 : Int) (s3 : Int) (s4 : Int) (s5 : LT) : Option R :=
  f101.s0' L N self101 k0_e0 rec0 s0 s1 s2 s3 s4 s5
def f101.l0 {R : Type} (L N : Nat) (self101 : Tree → Bool → Option (Int)) (k0_e0 : Int → Option R) : Nat → Bool → Int → Int → Int → Int → LT → Option R
  | 0, _, _, _, _, _, _ => none
  | n + 1, s0, s1, s2, s3, s4, s5 => f101.s0 L N self101 k0_e0 (f101.l0 L N self101 k0_e0 n) s0 s1 s2 s3 s4 s5
def f101.T0 (s0 : Bool) (s1 : Int) (s2 : Int) (s3 : Int) (s4 : Int) (s5 : LT) : T := mkT 38 [(1, (.tv .bool s0)), (2, (.ptr 1002 0)), (5, (.tv i64 s1)), (6, (.tv i64 s2))]
def f101.H0 (s0 : Bool) (s1 : Int) (s2 : Int) (s3 : Int) (s4 : Int) (s5 : LT) : H := [(1002, (.box [(.tv i64 s3), (.tv i64 s4), (.tv (.sl (.st 1)) s5)]))]
def f101.T0_e0 (z13 : Int) : T := mkT 38 [(5, (.tv i64 z13))]
def f101.H0_e0 (z13 : Int) : H := []
def f101.p0_e0' {R : Type} (L N : Nat) (self101 : Tree → Bool → Option (Int)) (k : Int → Option R) (z13 : Int) : Option R :=
  k z13
def f101.p0_e0 {R : Type} (L N : Nat) (self101 : Tree → Bool → Option (Int)) (k : Int → Option R) (z13 : Int) : Option R :=
  f101.p0_e0' L N self101 k z13
def f101.b' {R : Type} (L N : Nat) (self101 : Tree → Bool → Option (Int)) (k : Int → Option R) (w0 : Bool → Int → Int → Int → Int → LT → Option R) (x0 : Tree) (x1 : Bool) : Option R :=
  bif (x0.op == (5 : Int)) then
    k x0.n
  else w0 x1 (-1 : Int) (0 : Int) x0.op x0.n x0.parts
def f101.b {R : Type} (L N : Nat) (self101 : Tree → Bool → Option (Int)) (k : Int → Option R) (x0 : Tree) (x1 : Bool) : Option R :=
  f101.b' L N self101 k (fun s0 s1 s2 s3 s4 s5 => f101.l0 L N self101 (fun z13 => f101.p0_e0 L N self101 k z13) L s0 s1 s2 s3 s4 s5) x0 x1
def f101 (L N : Nat) : Nat → Tree → Bool → Option (Int)
  | 0, _, _ => none
  | n + 1, x0, x1 => f101.b L N (f101 L N n) some x0 x1
def f101.ent (L N m : Nat) := entRo [(.st 1), .bool] (.one i64) fun d => f101 L N m d.1 d.2.1
def Φ101s (L N m : Nat) : Tells := (addT (Φ40 L N) 101 (f101.ent L N m))
noncomputable def E101 (L N m : Nat) : Env := { P := Tryz.prog, ty := tyOf, Φ := Φ101s L N m, inl := inlT, live := lives, liveX := livesX, L := L, dp := none, prom := promT, heal := healT, ren := renT }
noncomputable def f101.c0 : Code := loopAt 0 (codeOf Tryz.f101)
def f101.X0_e0 {R : Type} (κ : KX R) := fun z13 => κ (.exit 0) (f101.T0_e0 z13) (f101.H0_e0 z13)
def f101.R0 {R : Type} (rec : KT R) := fun s0 s1 s2 s3 s4 s5 => rec (f101.T0 s0 s1 s2 s3 s4 s5) (f101.H0 s0 s1 s2 s3 s4 s5)
theorem f101.s0_eq {R : Type} (L N m : Nat) (κ : KX R) (rec : KT R) (s0 : Bool) (s1 : Int) (s2 : Int) (s3 : Int) (s4 : Int) (s5 : LT) :
    evRd (E101 L N m) (evCallI (E101 L N m) 0 1000) 1000 101 38 0 f101.c0 κ rec (f101.T0 s0 s1 s2 s3 s4 s5) (f101.H0 s0 s1 s2 s3 s4 s5)
    = f101.s0 L N (f101 L N m) (f101.X0_e0 κ) (f101.R0 rec) s0 s1 s2 s3 s4 s5 := by kernel_rfl
theorem f101.l0_eq {R : Type} (L N m : Nat) (κ : KX R) : ∀ (n : Nat) (s0 : Bool) (s1 : Int) (s2 : Int) (s3 : Int) (s4 : Int) (s5 : LT),
    evLp (E101 L N m) (evCallI (E101 L N m) 0 1000) 1000 101 38 0 f101.c0 κ n (f101.T0 s0 s1 s2 s3 s4 s5) (f101.H0 s0 s1 s2 s3 s4 s5)
    = f101.l0 L N (f101 L N m) (f101.X0_e0 κ) n s0 s1 s2 s3 s4 s5 := by
  intro n
  induction n with
  | zero => intros; rfl
  | succ n ih =>
    intro s0 s1 s2 s3 s4 s5
    rw [evLp_succ, f101.s0_eq]
    delta f101.R0
    simp only [ih]
    rfl
theorem f101.p0_e0_eq {R : Type} (L N m : Nat) (κ : AV → Option R) (z13 : Int) :
    (contAt (E101 L N m) (evCallI (E101 L N m) 0 1000) 1000 101 38 0 (codeOf Tryz.f101) (finK (E101 L N m) 1000 Tryz.f101 (finC (.one i64) κ))) (.exit 0) (f101.T0_e0 z13) (f101.H0_e0 z13)
    = f101.p0_e0 L N (f101 L N m) (fun a0 => κ (.tv i64 a0)) z13 := by kernel_rfl
theorem f101.b_eq {R : Type} (L N m : Nat) (κ : AV → Option R) (x0 : Tree) (x1 : Bool) :
    evBody (E101 L N m) (evCallI (E101 L N m) 0 1000) 1000 101 Tryz.f101 [(.tv (.st 1) x0), (.tv .bool x1)] [] [] (finC (.one i64) κ)
    = f101.b L N (f101 L N m) (fun a0 => κ (.tv i64 a0)) x0 x1 := by
  refine Eq.trans (b := f101.b' L N (f101 L N m) (fun a0 => κ (.tv i64 a0)) (fun s0 s1 s2 s3 s4 s5 => evLp (E101 L N m) (evCallI (E101 L N m) 0 1000) 1000 101 38 0 f101.c0 (contAt (E101 L N m) (evCallI (E101 L N m) 0 1000) 1000 101 38 0 (codeOf Tryz.f101) (finK (E101 L N m) 1000 Tryz.f101 (finC (.one i64) κ))) L (f101.T0 s0 s1 s2 s3 s4 s5) (f101.H0 s0 s1 s2 s3 s4 s5)) x0 x1) (by kernel_rfl) ?_
  unfold f101.b
  simp only [f101.l0_eq]
  delta f101.X0_e0
  simp only [f101.p0_e0_eq]
theorem f101.ok (L N m : Nat) (hΦ : TellsOk Tryz.prog (Φ101s L N m)) : EntOk Tryz.prog 101 (f101.ent L N (m + 1)) := entRo_ok (E := (E101 L N m)) (dep := 1000) (f := Tryz.f101) (sound_of hΦ) okP (callI_sound (sound_of hΦ) okP 0 1000) rfl rfl fun d _ hy => (f101.b_eq L N m (unR (.one i64)) d.1 d.2.1).trans (Eq.trans (b := f101.b L N (f101 L N m) some d.1 d.2.1) (by kernel_rfl) hy)
theorem Φ101s_ok (L N : Nat) : ∀ m, TellsOk Tryz.prog (Φ101s L N m) := by
  intro m
  induction m with
  | zero => exact (addT_ok (Φ40_ok L N) (entRo_no fun _ => rfl))
  | succ m ih => exact (addT_ok (Φ40_ok L N) (f101.ok L N m ih))
def Φ101 (L N : Nat) : Tells := (addT (Φ40 L N) 101 (f101.ent L N N))
theorem Φ101_ok (L N : Nat) : TellsOk Tryz.prog (Φ101 L N) := Φ101s_ok L N N
def f41.b' {R : Type} (L N : Nat) (k : Bool → Option R) (x0 : Int) : Option R :=
  (f40 L N x0 (-4 : Int) (4 : Int)).bind fun y0 =>
  k y0
def f41.b {R : Type} (L N : Nat) (k : Bool → Option R) (x0 : Int) : Option R :=
  f41.b' L N k x0
def f41 (L N : Nat) (x0 : Int) : Option (Bool) := f41.b L N some x0
def f41.ent (L N : Nat) := entRo [i64] (.one .bool) fun d => f41 L N d.1
noncomputable def E41 (L N : Nat) : Env := { P := Tryz.prog, ty := tyOf, Φ := (Φ101 L N), inl := inlT, live := lives, liveX := livesX, L := L, dp := none, prom := promT, heal := healT, ren := renT }
theorem f41.b_eq {R : Type} (L N : Nat) (κ : AV → Option R) (x0 : Int) :
    evBody (E41 L N) (evCallI (E41 L N) 0 1000) 1000 41 Tryz.f41 [(.tv i64 x0)] [] [] (finC (.one .bool) κ)
    = f41.b L N (fun a0 => κ (.tv .bool a0)) x0 := by kernel_rfl
theorem f41.ok (L N : Nat) (hΦ : TellsOk Tryz.prog ((Φ101 L N))) : EntOk Tryz.prog 41 (f41.ent L N) := entRo_ok (E := (E41 L N)) (dep := 1000) (f := Tryz.f41) (sound_of hΦ) okP (callI_sound (sound_of hΦ) okP 0 1000) rfl rfl fun d _ hy => (f41.b_eq L N (unR (.one .bool)) d.1).trans (Eq.trans (b := f41.b L N some d.1) (by kernel_rfl) hy)
def Φ41 (L N : Nat) : Tells := (addT (Φ101 L N) 41 (f41.ent L N))
theorem Φ41_ok (L N : Nat) : TellsOk Tryz.prog (Φ41 L N) := addT_ok (Φ101_ok L N) (f41.ok L N (Φ101_ok L N))
def f84.s0' {R : Type} (L N : Nat) (self84 : Tree → Option (Int)) (k0_e1 : Int → Option R) (k0_r : Int → Int → Option R) (rec0 : Int → Int → Int → Int → Int → LT → Option R) (s24 : Int) (s25 : Int) (s26 : Int) (s27 : Int) (s28 : Int) (s29 : LT) : Option R :=
  bif (decide (s26 < s24)) then
    bif (decide (0 ≤ s26) && decide (s26 < (s29.length : Int))) then
      (self84 (listAt s29 (Ty.dflt (.st 1)) s26.toNat)).bind fun y31 =>
      bif (y31 == (0 : Int)) then
        k0_r (0 : Int) s25
      else rec0 s24 (bif decide ((wi (s25 + y31)) < (1000 : Int)) then (wi (s25 + y31)) else (1000 : Int)) (wi (s26 + (1 : Int))) s27 s28 s29
    else none
  else k0_e1 s25
def f84.s0 {R : Type} (L N : Nat) (self84 : Tree → Option (Int)) (k0_e1 : Int → Option R) (k0_r : Int → Int → Option R) (rec0 : Int → Int → Int → Int → Int → LT → Option R) (s24 : Int) (s25 : Int) (s26 : Int) (s27 : Int) (s28 : Int) (s29 : LT) : Option R :=
  f84.s0' L N self84 k0_e1 k0_r rec0 s24 s25 s26 s27 s28 s29
def f84.l0 {R : Type} (L N : Nat) (self84 : Tree → Option (Int)) (k0_e1 : Int → Option R) (k0_r : Int → Int → Option R) : Nat → Int → Int → Int → Int → Int → LT → Option R
  | 0, _, _, _, _, _, _ => none
  | n + 1, s24, s25, s26, s27, s28, s29 => f84.s0 L N self84 k0_e1 k0_r (f84.l0 L N self84 k0_e1 k0_r n) s24 s25 s26 s27 s28 s29
def f84.T0 (s24 : Int) (s25 : Int) (s26 : Int) (s27 : Int) (s28 : Int) (s29 : LT) : T := mkT 60 [(1, (.ptr 1001 0)), (3, (.tv i64 s24)), (5, (.tv i64 s25)), (6, (.tv i64 s26))]
def f84.H0 (s24 : Int) (s25 : Int) (s26 : Int) (s27 : Int) (s28 : Int) (s29 : LT) : H := [(1001, (.box [(.tv i64 s27), (.tv i64 s28), (.tv (.sl (.st 1)) s29)]))]
def f84.T0_e1 (z30 : Int) : T := mkT 60 [(5, (.tv i64 z30))]
def f84.H0_e1 (z30 : Int) : H := []
def f84.T0_r (z32 : Int) (z33 : Int) : T := mkT 60 [(2, (.tv i64 z32)), (5, (.tv i64 z33))]
def f84.H0_r (z32 : Int) (z33 : Int) : H := []
def f84.p0_e1' {R : Type} (L N : Nat) (self84 : Tree → Option (Int)) (k : Int → Option R) (z30 : Int) : Option R :=
  k z30
def f84.p0_e1 {R : Type} (L N : Nat) (self84 : Tree → Option (Int)) (k : Int → Option R) (z30 : Int) : Option R :=
  f84.p0_e1' L N self84 k z30
def f84.p0_r' {R : Type} (L N : Nat) (self84 : Tree → Option (Int)) (k : Int → Option R) (z32 : Int) (z33 : Int) : Option R :=
  k z32
def f84.p0_r {R : Type} (L N : Nat) (self84 : Tree → Option (Int)) (k : Int → Option R) (z32 : Int) (z33 : Int) : Option R :=
  f84.p0_r' L N self84 k z32 z33
def f84.j1' {R : Type} (L N : Nat) (self84 : Tree → Option (Int)) (k : Int → Option R) (w0 : Int → Int → Int → Int → Int → LT → Option R) (v20 : Int) (v21 : Int) (v22 : Int) (v23 : LT) : Option R :=
  w0 v20 (1 : Int) (0 : Int) v21 v22 v23
def f84.j2' {R : Type} (L N : Nat) (self84 : Tree → Option (Int)) (k : Int → Option R) (w0 : Int → Int → Int → Int → Int → LT → Option R) (v10 : Int) (v11 : Bool) (v12 : Int) (v13 : Int) (v14 : LT) : Option R :=
  bif (!v11) then
    k (0 : Int)
  else bif ((v14.length : Int) != v10) then
    k (0 : Int)
  else f84.j1' L N self84 k w0 v10 v12 v13 v14
def f84.j0' {R : Type} (L N : Nat) (self84 : Tree → Option (Int)) (k : Int → Option R) (w0 : Int → Int → Int → Int → Int → LT → Option R) (v1 : Int) (v2 : Bool) (v3 : Int) (v4 : Bool) (v5 : Int) (v6 : Int) (v7 : LT) : Option R :=
  bif v4 then
    f84.j2' L N self84 k w0 (2 : Int) v2 v5 v6 v7
  else bif (v3 == (4 : Int)) then
    (f40 L N v6 (0 : Int) (3 : Int)).bind fun y8 =>
    f84.j2' L N self84 k w0 (1 : Int) y8 v5 v6 v7
  else bif (v3 == (5 : Int)) then
    (f40 L N v6 (0 : Int) (2 : Int)).bind fun y9 =>
    f84.j2' L N self84 k w0 v1 y9 v5 v6 v7
  else f84.j2' L N self84 k w0 v1 false v5 v6 v7
def f84.b' {R : Type} (L N : Nat) (self84 : Tree → Option (Int)) (k : Int → Option R) (w0 : Int → Int → Int → Int → Int → LT → Option R) (x0 : Tree) : Option R :=
  bif (x0.op == (0 : Int)) then
    f84.j2' L N self84 k w0 (0 : Int) (x0.n == (0 : Int)) x0.op x0.n x0.parts
  else bif (x0.op == (1 : Int)) then
    (f41 L N x0.n).bind fun y0 =>
    f84.j2' L N self84 k w0 (1 : Int) y0 x0.op x0.n x0.parts
  else bif (x0.op == (2 : Int)) then
    f84.j0' L N self84 k w0 (0 : Int) (x0.n == (0 : Int)) x0.op (x0.op == (2 : Int)) x0.op x0.n x0.parts
  else f84.j0' L N self84 k w0 (0 : Int) (x0.n == (0 : Int)) x0.op (x0.op == (3 : Int)) x0.op x0.n x0.parts
def f84.b {R : Type} (L N : Nat) (self84 : Tree → Option (Int)) (k : Int → Option R) (x0 : Tree) : Option R :=
  f84.b' L N self84 k (fun s24 s25 s26 s27 s28 s29 => f84.l0 L N self84 (fun z30 => f84.p0_e1 L N self84 k z30) (fun z32 z33 => f84.p0_r L N self84 k z32 z33) L s24 s25 s26 s27 s28 s29) x0
def f84 (L N : Nat) : Nat → Tree → Option (Int)
  | 0, _ => none
  | n + 1, x0 => f84.b L N (f84 L N n) some x0
def f84.ent (L N m : Nat) := entRo [(.st 1)] (.one i64) fun d => f84 L N m d.1
def Φ84s (L N m : Nat) : Tells := (addT (Φ41 L N) 84 (f84.ent L N m))
noncomputable def E84 (L N m : Nat) : Env := { P := Tryz.prog, ty := tyOf, Φ := Φ84s L N m, inl := inlT, live := lives, liveX := livesX, L := L, dp := none, prom := promT, heal := healT, ren := renT }
noncomputable def f84.c0 : Code := loopAt 1 (codeOf Tryz.f84)
def f84.X0_e1 {R : Type} (κ : KX R) := fun z30 => κ (.exit 1) (f84.T0_e1 z30) (f84.H0_e1 z30)
def f84.X0_r {R : Type} (κ : KX R) := fun z32 z33 => κ .ret (f84.T0_r z32 z33) (f84.H0_r z32 z33)
def f84.R0 {R : Type} (rec : KT R) := fun s24 s25 s26 s27 s28 s29 => rec (f84.T0 s24 s25 s26 s27 s28 s29) (f84.H0 s24 s25 s26 s27 s28 s29)
theorem f84.s0_eq {R : Type} (L N m : Nat) (κ : KX R) (rec : KT R) (s24 : Int) (s25 : Int) (s26 : Int) (s27 : Int) (s28 : Int) (s29 : LT) :
    evRd (E84 L N m) (evCallI (E84 L N m) 0 1000) 1000 84 60 1 f84.c0 κ rec (f84.T0 s24 s25 s26 s27 s28 s29) (f84.H0 s24 s25 s26 s27 s28 s29)
    = f84.s0 L N (f84 L N m) (f84.X0_e1 κ) (f84.X0_r κ) (f84.R0 rec) s24 s25 s26 s27 s28 s29 := by kernel_rfl
theorem f84.l0_eq {R : Type} (L N m : Nat) (κ : KX R) : ∀ (n : Nat) (s24 : Int) (s25 : Int) (s26 : Int) (s27 : Int) (s28 : Int) (s29 : LT),
    evLp (E84 L N m) (evCallI (E84 L N m) 0 1000) 1000 84 60 1 f84.c0 κ n (f84.T0 s24 s25 s26 s27 s28 s29) (f84.H0 s24 s25 s26 s27 s28 s29)
    = f84.l0 L N (f84 L N m) (f84.X0_e1 κ) (f84.X0_r κ) n s24 s25 s26 s27 s28 s29 := by
  intro n
  induction n with
  | zero => intros; rfl
  | succ n ih =>
    intro s24 s25 s26 s27 s28 s29
    rw [evLp_succ, f84.s0_eq]
    delta f84.R0
    simp only [ih]
    rfl
theorem f84.p0_e1_eq {R : Type} (L N m : Nat) (κ : AV → Option R) (z30 : Int) :
    (contAt (E84 L N m) (evCallI (E84 L N m) 0 1000) 1000 84 60 1 (codeOf Tryz.f84) (finK (E84 L N m) 1000 Tryz.f84 (finC (.one i64) κ))) (.exit 1) (f84.T0_e1 z30) (f84.H0_e1 z30)
    = f84.p0_e1 L N (f84 L N m) (fun a0 => κ (.tv i64 a0)) z30 := by kernel_rfl
theorem f84.p0_r_eq {R : Type} (L N m : Nat) (κ : AV → Option R) (z32 : Int) (z33 : Int) :
    (contAt (E84 L N m) (evCallI (E84 L N m) 0 1000) 1000 84 60 1 (codeOf Tryz.f84) (finK (E84 L N m) 1000 Tryz.f84 (finC (.one i64) κ))) .ret (f84.T0_r z32 z33) (f84.H0_r z32 z33)
    = f84.p0_r L N (f84 L N m) (fun a0 => κ (.tv i64 a0)) z32 z33 := by kernel_rfl
theorem f84.b_eq {R : Type} (L N m : Nat) (κ : AV → Option R) (x0 : Tree) :
    evBody (E84 L N m) (evCallI (E84 L N m) 0 1000) 1000 84 Tryz.f84 [(.tv (.st 1) x0)] [] [] (finC (.one i64) κ)
    = f84.b L N (f84 L N m) (fun a0 => κ (.tv i64 a0)) x0 := by
  refine Eq.trans (b := f84.b' L N (f84 L N m) (fun a0 => κ (.tv i64 a0)) (fun s24 s25 s26 s27 s28 s29 => evLp (E84 L N m) (evCallI (E84 L N m) 0 1000) 1000 84 60 1 f84.c0 (contAt (E84 L N m) (evCallI (E84 L N m) 0 1000) 1000 84 60 1 (codeOf Tryz.f84) (finK (E84 L N m) 1000 Tryz.f84 (finC (.one i64) κ))) L (f84.T0 s24 s25 s26 s27 s28 s29) (f84.H0 s24 s25 s26 s27 s28 s29)) x0) (by kernel_rfl) ?_
  unfold f84.b
  simp only [f84.l0_eq]
  delta f84.X0_e1 f84.X0_r
  simp only [f84.p0_e1_eq, f84.p0_r_eq]
theorem f84.ok (L N m : Nat) (hΦ : TellsOk Tryz.prog (Φ84s L N m)) : EntOk Tryz.prog 84 (f84.ent L N (m + 1)) := entRo_ok (E := (E84 L N m)) (dep := 1000) (f := Tryz.f84) (sound_of hΦ) okP (callI_sound (sound_of hΦ) okP 0 1000) rfl rfl fun d _ hy => (f84.b_eq L N m (unR (.one i64)) d.1).trans (Eq.trans (b := f84.b L N (f84 L N m) some d.1) (by kernel_rfl) hy)
theorem Φ84s_ok (L N : Nat) : ∀ m, TellsOk Tryz.prog (Φ84s L N m) := by
  intro m
  induction m with
  | zero => exact (addT_ok (Φ41_ok L N) (entRo_no fun _ => rfl))
  | succ m ih => exact (addT_ok (Φ41_ok L N) (f84.ok L N m ih))
def Φ84 (L N : Nat) : Tells := (addT (Φ41 L N) 84 (f84.ent L N N))
theorem Φ84_ok (L N : Nat) : TellsOk Tryz.prog (Φ84 L N) := Φ84s_ok L N N
def f102.b' {R : Type} (L N : Nat) (k : Bool → Option R) (x0 : Tree) : Option R :=
  (f84 L N N (Tree.mk x0.op x0.n x0.parts)).bind fun y0 =>
  (f40 L N y0 (1 : Int) (24 : Int)).bind fun y1 =>
  k y1
def f102.b {R : Type} (L N : Nat) (k : Bool → Option R) (x0 : Tree) : Option R :=
  f102.b' L N k x0
def f102 (L N : Nat) (x0 : Tree) : Option (Bool) := f102.b L N some x0
def f102.ent (L N : Nat) := entRo [(.st 1)] (.one .bool) fun d => f102 L N d.1
noncomputable def E102 (L N : Nat) : Env := { P := Tryz.prog, ty := tyOf, Φ := (Φ84 L N), inl := inlT, live := lives, liveX := livesX, L := L, dp := none, prom := promT, heal := healT, ren := renT }
theorem f102.b_eq {R : Type} (L N : Nat) (κ : AV → Option R) (x0 : Tree) :
    evBody (E102 L N) (evCallI (E102 L N) 0 1000) 1000 102 Tryz.f102 [(.tv (.st 1) x0)] [] [] (finC (.one .bool) κ)
    = f102.b L N (fun a0 => κ (.tv .bool a0)) x0 := by kernel_rfl
theorem f102.ok (L N : Nat) (hΦ : TellsOk Tryz.prog ((Φ84 L N))) : EntOk Tryz.prog 102 (f102.ent L N) := entRo_ok (E := (E102 L N)) (dep := 1000) (f := Tryz.f102) (sound_of hΦ) okP (callI_sound (sound_of hΦ) okP 0 1000) rfl rfl fun d _ hy => (f102.b_eq L N (unR (.one .bool)) d.1).trans (Eq.trans (b := f102.b L N some d.1) (by kernel_rfl) hy)
def Φ102 (L N : Nat) : Tells := (addT (Φ84 L N) 102 (f102.ent L N))
theorem Φ102_ok (L N : Nat) : TellsOk Tryz.prog (Φ102 L N) := addT_ok (Φ84_ok L N) (f102.ok L N (Φ84_ok L N))
def f81.b' {R : Type} (L N : Nat) (k : Bool → Option R) (x0 : Tree) (x1 : Int) : Option R :=
  (f102 L N (Tree.mk x0.op x0.n x0.parts)).bind fun y0 =>
  bif y0 then
    (f40 L N x1 (0 : Int) (3 : Int)).bind fun y1 =>
    bif y1 then
      (f101 L N N (Tree.mk x0.op x0.n x0.parts) false).bind fun y2 =>
      k (decide (y2 < x1))
    else k false
  else k false
def f81.b {R : Type} (L N : Nat) (k : Bool → Option R) (x0 : Tree) (x1 : Int) : Option R :=
  f81.b' L N k x0 x1
def f81 (L N : Nat) (x0 : Tree) (x1 : Int) : Option (Bool) := f81.b L N some x0 x1
def f81.ent (L N : Nat) := entRo [(.st 1), i64] (.one .bool) fun d => f81 L N d.1 d.2.1
noncomputable def E81 (L N : Nat) : Env := { P := Tryz.prog, ty := tyOf, Φ := (Φ102 L N), inl := inlT, live := lives, liveX := livesX, L := L, dp := none, prom := promT, heal := healT, ren := renT }
theorem f81.b_eq {R : Type} (L N : Nat) (κ : AV → Option R) (x0 : Tree) (x1 : Int) :
    evBody (E81 L N) (evCallI (E81 L N) 0 1000) 1000 81 Tryz.f81 [(.tv (.st 1) x0), (.tv i64 x1)] [] [] (finC (.one .bool) κ)
    = f81.b L N (fun a0 => κ (.tv .bool a0)) x0 x1 := by kernel_rfl
theorem f81.ok (L N : Nat) (hΦ : TellsOk Tryz.prog ((Φ102 L N))) : EntOk Tryz.prog 81 (f81.ent L N) := entRo_ok (E := (E81 L N)) (dep := 1000) (f := Tryz.f81) (sound_of hΦ) okP (callI_sound (sound_of hΦ) okP 0 1000) rfl rfl fun d _ hy => (f81.b_eq L N (unR (.one .bool)) d.1 d.2.1).trans (Eq.trans (b := f81.b L N some d.1 d.2.1) (by kernel_rfl) hy)
def Φ81 (L N : Nat) : Tells := (addT (Φ102 L N) 81 (f81.ent L N))
theorem Φ81_ok (L N : Nat) : TellsOk Tryz.prog (Φ81 L N) := addT_ok (Φ102_ok L N) (f81.ok L N (Φ102_ok L N))
def f80.s0' {R : Type} (L N : Nat) (k0_e0 : LT → Option R) (k0_r : LT → Bool → Option R) (rec0 : LT → Int → Option R) (s0 : LT) (s1 : Int) : Option R :=
  bif (decide (s1 < (s0.length : Int))) then
    bif (decide (0 ≤ s1) && decide (s1 < (s0.length : Int))) then
      (f81 L N (listAt s0 (Ty.dflt (.st 1)) s1.toNat) (s0.length : Int)).bind fun y3 =>
      bif (!y3) then
        k0_r s0 false
      else bif (decide (0 ≤ s1) && decide (s1 < (s0.length : Int))) then
        (f101 L N N (listAt s0 (Ty.dflt (.st 1)) s1.toNat) true).bind fun y4 =>
        bif (decide (y4 ≥ (0 : Int))) then
          k0_r s0 false
        else rec0 s0 (wi (s1 + (1 : Int)))
      else none
    else none
  else k0_e0 s0
def f80.s0 {R : Type} (L N : Nat) (k0_e0 : LT → Option R) (k0_r : LT → Bool → Option R) (rec0 : LT → Int → Option R) (s0 : LT) (s1 : Int) : Option R :=
  f80.s0' L N k0_e0 k0_r rec0 s0 s1
def f80.l0 {R : Type} (L N : Nat) (k0_e0 : LT → Option R) (k0_r : LT → Bool → Option R) : Nat → LT → Int → Option R
  | 0, _, _ => none
  | n + 1, s0, s1 => f80.s0 L N k0_e0 k0_r (f80.l0 L N k0_e0 k0_r n) s0 s1
def f80.T0 (s0 : LT) (s1 : Int) : T := mkT 29 [(0, (.tv (.sl (.st 1)) s0)), (3, (.tv i64 s1))]
def f80.H0 (s0 : LT) (s1 : Int) : H := []
def f80.T0_e0 (z2 : LT) : T := mkT 29 [(0, (.tv (.sl (.st 1)) z2))]
def f80.H0_e0 (z2 : LT) : H := []
def f80.T0_r (z8 : LT) (z9 : Bool) : T := mkT 29 [(0, (.tv (.sl (.st 1)) z8)), (2, (.tv .bool z9))]
def f80.H0_r (z8 : LT) (z9 : Bool) : H := []
def f80.p0_e0' {R : Type} (L N : Nat) (k : Bool → Option R) (z2 : LT) : Option R :=
  k (decide ((z2.length : Int) ≤ (3 : Int)))
def f80.p0_e0 {R : Type} (L N : Nat) (k : Bool → Option R) (z2 : LT) : Option R :=
  f80.p0_e0' L N k z2
def f80.p0_r' {R : Type} (L N : Nat) (k : Bool → Option R) (z8 : LT) (z9 : Bool) : Option R :=
  k z9
def f80.p0_r {R : Type} (L N : Nat) (k : Bool → Option R) (z8 : LT) (z9 : Bool) : Option R :=
  f80.p0_r' L N k z8 z9
def f80.b' {R : Type} (L N : Nat) (k : Bool → Option R) (w0 : LT → Int → Option R) (x0 : LT) : Option R :=
  w0 x0 (0 : Int)
def f80.b {R : Type} (L N : Nat) (k : Bool → Option R) (x0 : LT) : Option R :=
  f80.b' L N k (fun s0 s1 => f80.l0 L N (fun z2 => f80.p0_e0 L N k z2) (fun z8 z9 => f80.p0_r L N k z8 z9) L s0 s1) x0
def f80 (L N : Nat) (x0 : LT) : Option (Bool) := f80.b L N some x0
def f80.ent (L N : Nat) := entRo [(.sl (.st 1))] (.one .bool) fun d => f80 L N d.1
noncomputable def E80 (L N : Nat) : Env := { P := Tryz.prog, ty := tyOf, Φ := (Φ81 L N), inl := inlT, live := lives, liveX := livesX, L := L, dp := none, prom := promT, heal := healT, ren := renT }
noncomputable def f80.c0 : Code := loopAt 0 (codeOf Tryz.f80)
def f80.X0_e0 {R : Type} (κ : KX R) := fun z2 => κ (.exit 0) (f80.T0_e0 z2) (f80.H0_e0 z2)
def f80.X0_r {R : Type} (κ : KX R) := fun z8 z9 => κ .ret (f80.T0_r z8 z9) (f80.H0_r z8 z9)
def f80.R0 {R : Type} (rec : KT R) := fun s0 s1 => rec (f80.T0 s0 s1) (f80.H0 s0 s1)
theorem f80.s0_eq {R : Type} (L N : Nat) (κ : KX R) (rec : KT R) (s0 : LT) (s1 : Int) :
    evRd (E80 L N) (evCallI (E80 L N) 0 1000) 1000 80 29 0 f80.c0 κ rec (f80.T0 s0 s1) (f80.H0 s0 s1)
    = f80.s0 L N (f80.X0_e0 κ) (f80.X0_r κ) (f80.R0 rec) s0 s1 := by kernel_rfl
theorem f80.l0_eq {R : Type} (L N : Nat) (κ : KX R) : ∀ (n : Nat) (s0 : LT) (s1 : Int),
    evLp (E80 L N) (evCallI (E80 L N) 0 1000) 1000 80 29 0 f80.c0 κ n (f80.T0 s0 s1) (f80.H0 s0 s1)
    = f80.l0 L N (f80.X0_e0 κ) (f80.X0_r κ) n s0 s1 := by
  intro n
  induction n with
  | zero => intros; rfl
  | succ n ih =>
    intro s0 s1
    rw [evLp_succ, f80.s0_eq]
    delta f80.R0
    simp only [ih]
    rfl
theorem f80.p0_e0_eq {R : Type} (L N : Nat) (κ : AV → Option R) (z2 : LT) :
    (contAt (E80 L N) (evCallI (E80 L N) 0 1000) 1000 80 29 0 (codeOf Tryz.f80) (finK (E80 L N) 1000 Tryz.f80 (finC (.one .bool) κ))) (.exit 0) (f80.T0_e0 z2) (f80.H0_e0 z2)
    = f80.p0_e0 L N (fun a0 => κ (.tv .bool a0)) z2 := by kernel_rfl
theorem f80.p0_r_eq {R : Type} (L N : Nat) (κ : AV → Option R) (z8 : LT) (z9 : Bool) :
    (contAt (E80 L N) (evCallI (E80 L N) 0 1000) 1000 80 29 0 (codeOf Tryz.f80) (finK (E80 L N) 1000 Tryz.f80 (finC (.one .bool) κ))) .ret (f80.T0_r z8 z9) (f80.H0_r z8 z9)
    = f80.p0_r L N (fun a0 => κ (.tv .bool a0)) z8 z9 := by kernel_rfl
theorem f80.b_eq {R : Type} (L N : Nat) (κ : AV → Option R) (x0 : LT) :
    evBody (E80 L N) (evCallI (E80 L N) 0 1000) 1000 80 Tryz.f80 [(.tv (.sl (.st 1)) x0)] [] [] (finC (.one .bool) κ)
    = f80.b L N (fun a0 => κ (.tv .bool a0)) x0 := by
  refine Eq.trans (b := f80.b' L N (fun a0 => κ (.tv .bool a0)) (fun s0 s1 => evLp (E80 L N) (evCallI (E80 L N) 0 1000) 1000 80 29 0 f80.c0 (contAt (E80 L N) (evCallI (E80 L N) 0 1000) 1000 80 29 0 (codeOf Tryz.f80) (finK (E80 L N) 1000 Tryz.f80 (finC (.one .bool) κ))) L (f80.T0 s0 s1) (f80.H0 s0 s1)) x0) (by kernel_rfl) ?_
  unfold f80.b
  simp only [f80.l0_eq]
  delta f80.X0_e0 f80.X0_r
  simp only [f80.p0_e0_eq, f80.p0_r_eq]
theorem f80.ok (L N : Nat) (hΦ : TellsOk Tryz.prog ((Φ81 L N))) : EntOk Tryz.prog 80 (f80.ent L N) := entRo_ok (E := (E80 L N)) (dep := 1000) (f := Tryz.f80) (sound_of hΦ) okP (callI_sound (sound_of hΦ) okP 0 1000) rfl rfl fun d _ hy => (f80.b_eq L N (unR (.one .bool)) d.1).trans (Eq.trans (b := f80.b L N some d.1) (by kernel_rfl) hy)
def Φ80 (L N : Nat) : Tells := (addT (Φ81 L N) 80 (f80.ent L N))
theorem Φ80_ok (L N : Nat) : TellsOk Tryz.prog (Φ80 L N) := addT_ok (Φ81_ok L N) (f80.ok L N (Φ81_ok L N))
def f64.b' {R : Type} (L N : Nat) (k : Bool → Option R) (x0 : Tree) (x1 : LT) : Option R :=
  (f80 L N x1).bind fun y0 =>
  bif y0 then
    (f81 L N (Tree.mk x0.op x0.n x0.parts) (x1.length : Int)).bind fun y1 =>
    k y1
  else k false
def f64.b {R : Type} (L N : Nat) (k : Bool → Option R) (x0 : Tree) (x1 : LT) : Option R :=
  f64.b' L N k x0 x1
def f64 (L N : Nat) (x0 : Tree) (x1 : LT) : Option (Bool) := f64.b L N some x0 x1
def f64.ent (L N : Nat) := entRo [(.st 1), (.sl (.st 1))] (.one .bool) fun d => f64 L N d.1 d.2.1
noncomputable def E64 (L N : Nat) : Env := { P := Tryz.prog, ty := tyOf, Φ := (Φ80 L N), inl := inlT, live := lives, liveX := livesX, L := L, dp := none, prom := promT, heal := healT, ren := renT }
theorem f64.b_eq {R : Type} (L N : Nat) (κ : AV → Option R) (x0 : Tree) (x1 : LT) :
    evBody (E64 L N) (evCallI (E64 L N) 0 1000) 1000 64 Tryz.f64 [(.tv (.st 1) x0), (.tv (.sl (.st 1)) x1)] [] [] (finC (.one .bool) κ)
    = f64.b L N (fun a0 => κ (.tv .bool a0)) x0 x1 := by kernel_rfl
theorem f64.ok (L N : Nat) (hΦ : TellsOk Tryz.prog ((Φ80 L N))) : EntOk Tryz.prog 64 (f64.ent L N) := entRo_ok (E := (E64 L N)) (dep := 1000) (f := Tryz.f64) (sound_of hΦ) okP (callI_sound (sound_of hΦ) okP 0 1000) rfl rfl fun d _ hy => (f64.b_eq L N (unR (.one .bool)) d.1 d.2.1).trans (Eq.trans (b := f64.b L N some d.1 d.2.1) (by kernel_rfl) hy)
def Φ64 (L N : Nat) : Tells := (addT (Φ80 L N) 64 (f64.ent L N))
theorem Φ64_ok (L N : Nat) : TellsOk Tryz.prog (Φ64 L N) := addT_ok (Φ80_ok L N) (f64.ok L N (Φ80_ok L N))
def f42.b' {R : Type} (L N : Nat) (k : Bool → Option R) (x0 : Move) (x1 : Move) : Option R :=
  bif (decide (x0.act < x1.act)) then
    k true
  else bif (x0.act == x1.act) then
    k (decide (x0.to < x1.to))
  else k false
def f42.b {R : Type} (L N : Nat) (k : Bool → Option R) (x0 : Move) (x1 : Move) : Option R :=
  f42.b' L N k x0 x1
def f42 (L N : Nat) (x0 : Move) (x1 : Move) : Option (Bool) := f42.b L N some x0 x1
def f42.ent (L N : Nat) := entRo [(.st 0), (.st 0)] (.one .bool) fun d => f42 L N d.1 d.2.1
noncomputable def E42 (L N : Nat) : Env := { P := Tryz.prog, ty := tyOf, Φ := (Φ64 L N), inl := inlT, live := lives, liveX := livesX, L := L, dp := none, prom := promT, heal := healT, ren := renT }
theorem f42.b_eq {R : Type} (L N : Nat) (κ : AV → Option R) (x0 : Move) (x1 : Move) :
    evBody (E42 L N) (evCallI (E42 L N) 0 1000) 1000 42 Tryz.f42 [(.tv (.st 0) x0), (.tv (.st 0) x1)] [] [] (finC (.one .bool) κ)
    = f42.b L N (fun a0 => κ (.tv .bool a0)) x0 x1 := by kernel_rfl
theorem f42.ok (L N : Nat) (hΦ : TellsOk Tryz.prog ((Φ64 L N))) : EntOk Tryz.prog 42 (f42.ent L N) := entRo_ok (E := (E42 L N)) (dep := 1000) (f := Tryz.f42) (sound_of hΦ) okP (callI_sound (sound_of hΦ) okP 0 1000) rfl rfl fun d _ hy => (f42.b_eq L N (unR (.one .bool)) d.1 d.2.1).trans (Eq.trans (b := f42.b L N some d.1 d.2.1) (by kernel_rfl) hy)
def Φ42 (L N : Nat) : Tells := (addT (Φ64 L N) 42 (f42.ent L N))
theorem Φ42_ok (L N : Nat) : TellsOk Tryz.prog (Φ42 L N) := addT_ok (Φ64_ok L N) (f42.ok L N (Φ64_ok L N))
def f67.s1' {R : Type} (L N : Nat) (k1_e2 : LM → Int → Int → LM → Option R) (rec1 : LM → Int → Int → LM → Option R) (s4 : LM) (s5 : Int) (s6 : Int) (s7 : LM) : Option R :=
  bif (decide (s6 > (0 : Int))) then
    bif (decide (0 ≤ s5) && decide (s5 < (s4.length : Int))) then
      bif (decide (0 ≤ (wi (s6 - (1 : Int)))) && decide ((wi (s6 - (1 : Int))) < (s7.length : Int))) then
        (f42 L N (listAt s4 (Ty.dflt (.st 0)) s5.toNat) (listAt s7 (Ty.dflt (.st 0)) (wi (s6 - (1 : Int))).toNat)).bind fun y8 =>
        bif y8 then
          rec1 s4 s5 (wi (s6 - (1 : Int))) s7
        else k1_e2 s4 s5 s6 s7
      else none
    else none
  else k1_e2 s4 s5 s6 s7
def f67.s1 {R : Type} (L N : Nat) (k1_e2 : LM → Int → Int → LM → Option R) (rec1 : LM → Int → Int → LM → Option R) (s4 : LM) (s5 : Int) (s6 : Int) (s7 : LM) : Option R :=
  f67.s1' L N k1_e2 rec1 s4 s5 s6 s7
def f67.l1 {R : Type} (L N : Nat) (k1_e2 : LM → Int → Int → LM → Option R) : Nat → LM → Int → Int → LM → Option R
  | 0, _, _, _, _ => none
  | n + 1, s4, s5, s6, s7 => f67.s1 L N k1_e2 (f67.l1 L N k1_e2 n) s4 s5 s6 s7
def f67.T1 (s4 : LM) (s5 : Int) (s6 : Int) (s7 : LM) : T := mkT 74 [(0, (.tv (.sl (.st 0)) s4)), (3, (.row 1007)), (4, (.tv i64 s5)), (5, (.tv i64 s6))]
def f67.H1 (s4 : LM) (s5 : Int) (s6 : Int) (s7 : LM) : H := [(1007, (.row 50 (.st 0) s7))]
def f67.T1_e2 (z14 : LM) (z15 : Int) (z16 : Int) (z17 : LM) : T := mkT 74 [(0, (.tv (.sl (.st 0)) z14)), (3, (.row 1007)), (4, (.tv i64 z15)), (5, (.tv i64 z16))]
def f67.H1_e2 (z14 : LM) (z15 : Int) (z16 : Int) (z17 : LM) : H := [(1007, (.row 50 (.st 0) z17))]
def f67.s2' {R : Type} (L N : Nat) (k2_e4 : LM → Int → Int → LM → Option R) (rec2 : LM → Int → Int → Int → LM → Option R) (s31 : LM) (s32 : Int) (s33 : Int) (s34 : Int) (s35 : LM) : Option R :=
  bif (decide (s34 > s33)) then
    bif (decide (0 ≤ (wi (s34 - (1 : Int)))) && decide ((wi (s34 - (1 : Int))) < (s35.length : Int))) then
      bif (decide (0 ≤ s34) && decide (s34 < (s35.length : Int))) then
        rec2 s31 s32 s33 (wi (s34 - (1 : Int))) (s35.set s34.toNat (listAt s35 (Ty.dflt (.st 0)) (wi (s34 - (1 : Int))).toNat))
      else none
    else none
  else k2_e4 s31 s32 s33 s35
def f67.s2 {R : Type} (L N : Nat) (k2_e4 : LM → Int → Int → LM → Option R) (rec2 : LM → Int → Int → Int → LM → Option R) (s31 : LM) (s32 : Int) (s33 : Int) (s34 : Int) (s35 : LM) : Option R :=
  f67.s2' L N k2_e4 rec2 s31 s32 s33 s34 s35
def f67.l2 {R : Type} (L N : Nat) (k2_e4 : LM → Int → Int → LM → Option R) : Nat → LM → Int → Int → Int → LM → Option R
  | 0, _, _, _, _, _ => none
  | n + 1, s31, s32, s33, s34, s35 => f67.s2 L N k2_e4 (f67.l2 L N k2_e4 n) s31 s32 s33 s34 s35
def f67.T2 (s31 : LM) (s32 : Int) (s33 : Int) (s34 : Int) (s35 : LM) : T := mkT 74 [(0, (.tv (.sl (.st 0)) s31)), (3, (.row 1007)), (4, (.tv i64 s32)), (5, (.tv i64 s33)), (6, (.tv i64 s34))]
def f67.H2 (s31 : LM) (s32 : Int) (s33 : Int) (s34 : Int) (s35 : LM) : H := [(1007, (.row 50 (.st 0) s35))]
def f67.T2_e4 (z36 : LM) (z37 : Int) (z38 : Int) (z39 : LM) : T := mkT 74 [(0, (.tv (.sl (.st 0)) z36)), (3, (.row 1007)), (4, (.tv i64 z37)), (5, (.tv i64 z38))]
def f67.H2_e4 (z36 : LM) (z37 : Int) (z38 : Int) (z39 : LM) : H := [(1007, (.row 50 (.st 0) z39))]
def f67.p2_e4' {R : Type} (L N : Nat) (k0_e0 : LM → Option R) (rec0 : LM → Int → LM → Option R) (z36 : LM) (z37 : Int) (z38 : Int) (z39 : LM) : Option R :=
  bif (decide (0 ≤ z37) && decide (z37 < (z36.length : Int))) then
    bif (decide (0 ≤ z38) && decide (z38 < (z39.length : Int))) then
      rec0 z36 (wi (z37 + (1 : Int))) (z39.set z38.toNat (listAt z36 (Ty.dflt (.st 0)) z37.toNat))
    else none
  else none
def f67.p2_e4 {R : Type} (L N : Nat) (k0_e0 : LM → Option R) (rec0 : LM → Int → LM → Option R) (z36 : LM) (z37 : Int) (z38 : Int) (z39 : LM) : Option R :=
  f67.p2_e4' L N k0_e0 rec0 z36 z37 z38 z39
def f67.j0' {R : Type} (L N : Nat) (k0_e0 : LM → Option R) (rec0 : LM → Int → LM → Option R) (w2 : LM → Int → Int → Int → LM → Option R) (v27 : LM) (v28 : Int) (v29 : Int) (v30 : LM) : Option R :=
  bif (decide (v30.length + ([(Move.mk (0 : Int) (0 : Int))] : LM).length ≤ lim)) then
    w2 v27 v28 v29 (wi (((v30 ++ ([(Move.mk (0 : Int) (0 : Int))] : LM)).length : Int) - (1 : Int))) (v30 ++ ([(Move.mk (0 : Int) (0 : Int))] : LM))
  else none
def f67.p1_e2' {R : Type} (L N : Nat) (k0_e0 : LM → Option R) (rec0 : LM → Int → LM → Option R) (w2 : LM → Int → Int → Int → LM → Option R) (z14 : LM) (z15 : Int) (z16 : Int) (z17 : LM) : Option R :=
  bif (decide (z16 > (0 : Int))) then
    bif (decide (0 ≤ (wi (z16 - (1 : Int)))) && decide ((wi (z16 - (1 : Int))) < (z17.length : Int))) then
      bif (decide (0 ≤ z15) && decide (z15 < (z14.length : Int))) then
        bif (Move.eqb (listAt z17 (Ty.dflt (.st 0)) (wi (z16 - (1 : Int))).toNat) (listAt z14 (Ty.dflt (.st 0)) z15.toNat)) then
          rec0 z14 (wi (z15 + (1 : Int))) z17
        else f67.j0' L N k0_e0 rec0 w2 z14 z15 z16 z17
      else none
    else none
  else f67.j0' L N k0_e0 rec0 w2 z14 z15 z16 z17
def f67.p1_e2 {R : Type} (L N : Nat) (k0_e0 : LM → Option R) (rec0 : LM → Int → LM → Option R) (z14 : LM) (z15 : Int) (z16 : Int) (z17 : LM) : Option R :=
  f67.p1_e2' L N k0_e0 rec0 (fun s31 s32 s33 s34 s35 => f67.l2 L N (fun z36 z37 z38 z39 => f67.p2_e4 L N k0_e0 rec0 z36 z37 z38 z39) L s31 s32 s33 s34 s35) z14 z15 z16 z17
def f67.s0' {R : Type} (L N : Nat) (k0_e0 : LM → Option R) (rec0 : LM → Int → LM → Option R) (w1 : LM → Int → Int → LM → Option R) (s0 : LM) (s1 : Int) (s2 : LM) : Option R :=
  bif (decide (s1 < (s0.length : Int))) then
    w1 s0 s1 (s2.length : Int) s2
  else k0_e0 s2
def f67.s0 {R : Type} (L N : Nat) (k0_e0 : LM → Option R) (rec0 : LM → Int → LM → Option R) (s0 : LM) (s1 : Int) (s2 : LM) : Option R :=
  f67.s0' L N k0_e0 rec0 (fun s4 s5 s6 s7 => f67.l1 L N (fun z14 z15 z16 z17 => f67.p1_e2 L N k0_e0 rec0 z14 z15 z16 z17) L s4 s5 s6 s7) s0 s1 s2
def f67.l0 {R : Type} (L N : Nat) (k0_e0 : LM → Option R) : Nat → LM → Int → LM → Option R
  | 0, _, _, _ => none
  | n + 1, s0, s1, s2 => f67.s0 L N k0_e0 (f67.l0 L N k0_e0 n) s0 s1 s2
def f67.T0 (s0 : LM) (s1 : Int) (s2 : LM) : T := mkT 74 [(0, (.tv (.sl (.st 0)) s0)), (3, (.row 1007)), (4, (.tv i64 s1))]
def f67.H0 (s0 : LM) (s1 : Int) (s2 : LM) : H := [(1007, (.row 50 (.st 0) s2))]
def f67.T0_e0 (z3 : LM) : T := mkT 74 [(3, (.row 1007))]
def f67.H0_e0 (z3 : LM) : H := [(1007, (.row 50 (.st 0) z3))]
def f67.p0_e0' {R : Type} (L N : Nat) (k : LM → Option R) (z3 : LM) : Option R :=
  k z3
def f67.p0_e0 {R : Type} (L N : Nat) (k : LM → Option R) (z3 : LM) : Option R :=
  f67.p0_e0' L N k z3
def f67.b' {R : Type} (L N : Nat) (k : LM → Option R) (w0 : LM → Int → LM → Option R) (x0 : LM) : Option R :=
  w0 x0 (0 : Int) ([] : LM)
def f67.b {R : Type} (L N : Nat) (k : LM → Option R) (x0 : LM) : Option R :=
  f67.b' L N k (fun s0 s1 s2 => f67.l0 L N (fun z3 => f67.p0_e0 L N k z3) L s0 s1 s2) x0
def f67 (L N : Nat) (x0 : LM) : Option (LM) := f67.b L N some x0
def f67.ent (L N : Nat) (args : List AV) (vw : View) (site : Nat) : Ans := match roD [(.sl (.st 0))] vw args with
  | some d => ⟨LM, f67 L N d.1, fun y => (RN.av site .row (), [(site, some (mkO none 50 (.st 0) y))], [])⟩
  | none => Ans.no
noncomputable def E67 (L N : Nat) : Env := { P := Tryz.prog, ty := tyOf, Φ := (Φ42 L N), inl := inlT, live := lives, liveX := livesX, L := L, dp := none, prom := promT, heal := healT, ren := renT }
noncomputable def f67.c0 : Code := loopAt 0 (codeOf Tryz.f67)
noncomputable def f67.c1 : Code := loopAt 2 f67.c0
def f67.X1_e2 {R : Type} (κ : KX R) := fun z14 z15 z16 z17 => κ (.exit 2) (f67.T1_e2 z14 z15 z16 z17) (f67.H1_e2 z14 z15 z16 z17)
def f67.R1 {R : Type} (rec : KT R) := fun s4 s5 s6 s7 => rec (f67.T1 s4 s5 s6 s7) (f67.H1 s4 s5 s6 s7)
theorem f67.s1_eq {R : Type} (L N : Nat) (κ : KX R) (rec : KT R) (s4 : LM) (s5 : Int) (s6 : Int) (s7 : LM) :
    evRd (E67 L N) (evCallI (E67 L N) 0 1000) 1000 67 74 2 f67.c1 κ rec (f67.T1 s4 s5 s6 s7) (f67.H1 s4 s5 s6 s7)
    = f67.s1 L N (f67.X1_e2 κ) (f67.R1 rec) s4 s5 s6 s7 := by kernel_rfl
theorem f67.l1_eq {R : Type} (L N : Nat) (κ : KX R) : ∀ (n : Nat) (s4 : LM) (s5 : Int) (s6 : Int) (s7 : LM),
    evLp (E67 L N) (evCallI (E67 L N) 0 1000) 1000 67 74 2 f67.c1 κ n (f67.T1 s4 s5 s6 s7) (f67.H1 s4 s5 s6 s7)
    = f67.l1 L N (f67.X1_e2 κ) n s4 s5 s6 s7 := by
  intro n
  induction n with
  | zero => intros; rfl
  | succ n ih =>
    intro s4 s5 s6 s7
    rw [evLp_succ, f67.s1_eq]
    delta f67.R1
    simp only [ih]
    rfl
noncomputable def f67.c2 : Code := loopAt 4 f67.c0
def f67.X2_e4 {R : Type} (κ : KX R) := fun z36 z37 z38 z39 => κ (.exit 4) (f67.T2_e4 z36 z37 z38 z39) (f67.H2_e4 z36 z37 z38 z39)
def f67.R2 {R : Type} (rec : KT R) := fun s31 s32 s33 s34 s35 => rec (f67.T2 s31 s32 s33 s34 s35) (f67.H2 s31 s32 s33 s34 s35)
theorem f67.s2_eq {R : Type} (L N : Nat) (κ : KX R) (rec : KT R) (s31 : LM) (s32 : Int) (s33 : Int) (s34 : Int) (s35 : LM) :
    evRd (E67 L N) (evCallI (E67 L N) 0 1000) 1000 67 74 4 f67.c2 κ rec (f67.T2 s31 s32 s33 s34 s35) (f67.H2 s31 s32 s33 s34 s35)
    = f67.s2 L N (f67.X2_e4 κ) (f67.R2 rec) s31 s32 s33 s34 s35 := by kernel_rfl
theorem f67.l2_eq {R : Type} (L N : Nat) (κ : KX R) : ∀ (n : Nat) (s31 : LM) (s32 : Int) (s33 : Int) (s34 : Int) (s35 : LM),
    evLp (E67 L N) (evCallI (E67 L N) 0 1000) 1000 67 74 4 f67.c2 κ n (f67.T2 s31 s32 s33 s34 s35) (f67.H2 s31 s32 s33 s34 s35)
    = f67.l2 L N (f67.X2_e4 κ) n s31 s32 s33 s34 s35 := by
  intro n
  induction n with
  | zero => intros; rfl
  | succ n ih =>
    intro s31 s32 s33 s34 s35
    rw [evLp_succ, f67.s2_eq]
    delta f67.R2
    simp only [ih]
    rfl
def f67.X0_e0 {R : Type} (κ : KX R) := fun z3 => κ (.exit 0) (f67.T0_e0 z3) (f67.H0_e0 z3)
def f67.R0 {R : Type} (rec : KT R) := fun s0 s1 s2 => rec (f67.T0 s0 s1 s2) (f67.H0 s0 s1 s2)
theorem f67.p2_e4_eq {R : Type} (L N : Nat) (κ : KX R) (rec : KT R) (z36 : LM) (z37 : Int) (z38 : Int) (z39 : LM) :
    (contAt (E67 L N) (evCallI (E67 L N) 0 1000) 1000 67 74 4 f67.c0 (rdK (E67 L N) 1000 67 74 0 κ rec)) (.exit 4) (f67.T2_e4 z36 z37 z38 z39) (f67.H2_e4 z36 z37 z38 z39)
    = f67.p2_e4 L N (f67.X0_e0 κ) (f67.R0 rec) z36 z37 z38 z39 := by kernel_rfl
theorem f67.p1_e2_eq {R : Type} (L N : Nat) (κ : KX R) (rec : KT R) (z14 : LM) (z15 : Int) (z16 : Int) (z17 : LM) :
    (contAt (E67 L N) (evCallI (E67 L N) 0 1000) 1000 67 74 2 f67.c0 (rdK (E67 L N) 1000 67 74 0 κ rec)) (.exit 2) (f67.T1_e2 z14 z15 z16 z17) (f67.H1_e2 z14 z15 z16 z17)
    = f67.p1_e2 L N (f67.X0_e0 κ) (f67.R0 rec) z14 z15 z16 z17 := by
  refine Eq.trans (b := f67.p1_e2' L N (f67.X0_e0 κ) (f67.R0 rec) (fun s31 s32 s33 s34 s35 => evLp (E67 L N) (evCallI (E67 L N) 0 1000) 1000 67 74 4 f67.c2 (contAt (E67 L N) (evCallI (E67 L N) 0 1000) 1000 67 74 4 f67.c0 (rdK (E67 L N) 1000 67 74 0 κ rec)) L (f67.T2 s31 s32 s33 s34 s35) (f67.H2 s31 s32 s33 s34 s35)) z14 z15 z16 z17) (by kernel_rfl) ?_
  unfold f67.p1_e2
  simp only [f67.l2_eq]
  delta f67.X2_e4
  simp only [f67.p2_e4_eq]
theorem f67.s0_eq {R : Type} (L N : Nat) (κ : KX R) (rec : KT R) (s0 : LM) (s1 : Int) (s2 : LM) :
    evRd (E67 L N) (evCallI (E67 L N) 0 1000) 1000 67 74 0 f67.c0 κ rec (f67.T0 s0 s1 s2) (f67.H0 s0 s1 s2)
    = f67.s0 L N (f67.X0_e0 κ) (f67.R0 rec) s0 s1 s2 := by
  refine Eq.trans (b := f67.s0' L N (f67.X0_e0 κ) (f67.R0 rec) (fun s4 s5 s6 s7 => evLp (E67 L N) (evCallI (E67 L N) 0 1000) 1000 67 74 2 f67.c1 (contAt (E67 L N) (evCallI (E67 L N) 0 1000) 1000 67 74 2 f67.c0 (rdK (E67 L N) 1000 67 74 0 κ rec)) L (f67.T1 s4 s5 s6 s7) (f67.H1 s4 s5 s6 s7)) s0 s1 s2) (by kernel_rfl) ?_
  unfold f67.s0
  simp only [f67.l1_eq]
  delta f67.X1_e2
  simp only [f67.p1_e2_eq]
theorem f67.l0_eq {R : Type} (L N : Nat) (κ : KX R) : ∀ (n : Nat) (s0 : LM) (s1 : Int) (s2 : LM),
    evLp (E67 L N) (evCallI (E67 L N) 0 1000) 1000 67 74 0 f67.c0 κ n (f67.T0 s0 s1 s2) (f67.H0 s0 s1 s2)
    = f67.l0 L N (f67.X0_e0 κ) n s0 s1 s2 := by
  intro n
  induction n with
  | zero => intros; rfl
  | succ n ih =>
    intro s0 s1 s2
    rw [evLp_succ, f67.s0_eq]
    delta f67.R0
    simp only [ih]
    rfl
theorem f67.p0_e0_eq {R : Type} (L N : Nat) (κ : RN.Den .row → List Move → Option R) (z3 : LM) :
    (contAt (E67 L N) (evCallI (E67 L N) 0 1000) 1000 67 74 0 (codeOf Tryz.f67) (finK (E67 L N) 1000 Tryz.f67 (finN .row none 50 (.st 0) κ))) (.exit 0) (f67.T0_e0 z3) (f67.H0_e0 z3)
    = f67.p0_e0 L N (fun a0 => κ () a0) z3 := by kernel_rfl
theorem f67.b_eq {R : Type} (L N : Nat) (κ : RN.Den .row → List Move → Option R) (x0 : LM) :
    evBody (E67 L N) (evCallI (E67 L N) 0 1000) 1000 67 Tryz.f67 [(.tv (.sl (.st 0)) x0)] [] [] (finN .row none 50 (.st 0) κ)
    = f67.b L N (fun a0 => κ () a0) x0 := by
  refine Eq.trans (b := f67.b' L N (fun a0 => κ () a0) (fun s0 s1 s2 => evLp (E67 L N) (evCallI (E67 L N) 0 1000) 1000 67 74 0 f67.c0 (contAt (E67 L N) (evCallI (E67 L N) 0 1000) 1000 67 74 0 (codeOf Tryz.f67) (finK (E67 L N) 1000 Tryz.f67 (finN .row none 50 (.st 0) κ))) L (f67.T0 s0 s1 s2) (f67.H0 s0 s1 s2)) x0) (by kernel_rfl) ?_
  unfold f67.b
  simp only [f67.l0_eq]
  delta f67.X0_e0
  simp only [f67.p0_e0_eq]
theorem f67.ok (L N : Nat) (hΦ : TellsOk Tryz.prog ((Φ42 L N))) : EntOk Tryz.prog 67 (f67.ent L N) := by
  intro args vw site h
  unfold f67.ent
  split
  · rename_i d ha
    intro y hy hs
    refine call_ron (y := y) (dep := 1000) (E := (E67 L N)) (ts := [(.sl (.st 0))]) (rn := .row) (q := none) (el := 50) (ty := (.st 0)) (d1 := ()) (xs := y) (κ := (fun d xs => some xs)) (sound_of hΦ) okP (callI_sound (sound_of hΦ) okP 0 1000) (f := Tryz.f67) rfl hs ha ?_ (fun _ _ h => by obtain rfl := Option.some.inj h; exact ⟨rfl, rfl⟩) rfl site
    exact (f67.b_eq L N (fun d xs => some xs) d.1).trans (Eq.trans (b := f67.b L N some d.1) (by kernel_rfl) hy)
  · intro y hy
    cases hy
def Φ67 (L N : Nat) : Tells := (addT (Φ42 L N) 67 (f67.ent L N))
theorem Φ67_ok (L N : Nat) : TellsOk Tryz.prog (Φ67 L N) := addT_ok (Φ42_ok L N) (f67.ok L N (Φ42_ok L N))
def f103.b' {R : Type} (L N : Nat) (self103 : Int → Option (ByteArray)) (k : ByteArray → Option R) (x0 : Int) : Option R :=
  bif (decide (x0 < (-9223372036854775807 : Int))) then
    k (ByteArray.mk #[45, 57, 50, 50, 51, 51, 55, 50, 48, 51, 54, 56, 53, 52, 55, 55, 53, 56, 48, 56])
  else bif (decide (x0 < (0 : Int))) then
    (self103 (wi (0 - x0))).bind fun y0 =>
    bif (decide ((ByteArray.mk #[45]).size + y0.size ≤ 4611686018427387904)) then
      k ((ByteArray.mk #[45]) ++ y0)
    else none
  else bif (decide (x0 < (10 : Int))) then
    k (strOfNums ([(IntKind.wrap .u8 ((wi ((48 : Int) + x0))))] : LI))
  else bif (decide ((10 : Int) = 0)) then
    none
  else (self103 (wi (Int.tdiv x0 (10 : Int)))).bind fun y1 =>
  bif (decide ((10 : Int) = 0)) then
    none
  else bif (decide (y1.size + (strOfNums ([(IntKind.wrap .u8 ((wi ((48 : Int) + (Int.tmod x0 (10 : Int))))))] : LI)).size ≤ 4611686018427387904)) then
    k (y1 ++ (strOfNums ([(IntKind.wrap .u8 ((wi ((48 : Int) + (Int.tmod x0 (10 : Int))))))] : LI)))
  else none
def f103.b {R : Type} (L N : Nat) (self103 : Int → Option (ByteArray)) (k : ByteArray → Option R) (x0 : Int) : Option R :=
  f103.b' L N self103 k x0
def f103 (L N : Nat) : Nat → Int → Option (ByteArray)
  | 0, _ => none
  | n + 1, x0 => f103.b L N (f103 L N n) some x0
def f103.ent (L N m : Nat) := entRo [i64] (.one .str) fun d => f103 L N m d.1
def Φ103s (L N m : Nat) : Tells := (addT (Φ67 L N) 103 (f103.ent L N m))
noncomputable def E103 (L N m : Nat) : Env := { P := Tryz.prog, ty := tyOf, Φ := Φ103s L N m, inl := inlT, live := lives, liveX := livesX, L := L, dp := none, prom := promT, heal := healT, ren := renT }
theorem f103.b_eq {R : Type} (L N m : Nat) (κ : AV → Option R) (x0 : Int) :
    evBody (E103 L N m) (evCallI (E103 L N m) 0 1000) 1000 103 Tryz.f103 [(.tv i64 x0)] [] [] (finC (.one .str) κ)
    = f103.b L N (f103 L N m) (fun a0 => κ (.tv .str a0)) x0 := by kernel_rfl
theorem f103.ok (L N m : Nat) (hΦ : TellsOk Tryz.prog (Φ103s L N m)) : EntOk Tryz.prog 103 (f103.ent L N (m + 1)) := entRo_ok (E := (E103 L N m)) (dep := 1000) (f := Tryz.f103) (sound_of hΦ) okP (callI_sound (sound_of hΦ) okP 0 1000) rfl rfl fun d _ hy => (f103.b_eq L N m (unR (.one .str)) d.1).trans (Eq.trans (b := f103.b L N (f103 L N m) some d.1) (by kernel_rfl) hy)
theorem Φ103s_ok (L N : Nat) : ∀ m, TellsOk Tryz.prog (Φ103s L N m) := by
  intro m
  induction m with
  | zero => exact (addT_ok (Φ67_ok L N) (entRo_no fun _ => rfl))
  | succ m ih => exact (addT_ok (Φ67_ok L N) (f103.ok L N m ih))
def Φ103 (L N : Nat) : Tells := (addT (Φ67 L N) 103 (f103.ent L N N))
theorem Φ103_ok (L N : Nat) : TellsOk Tryz.prog (Φ103 L N) := Φ103s_ok L N N
def f104.b' {R : Type} (L N : Nat) (k : LY → Option R) : Option R :=
  k ([(ByteArray.mk #[]), (ByteArray.mk #[97, 99, 116]), (ByteArray.mk #[115, 117, 109]), (ByteArray.mk #[112, 97, 114]), (ByteArray.mk #[104, 105, 100, 101])] : LY)
def f104.b {R : Type} (L N : Nat) (k : LY → Option R) : Option R :=
  f104.b' L N k
def f104 (L N : Nat) : Option (LY) := f104.b L N some
def f104.ent (L N : Nat) := entDa [] (.one (.sl .str)) fun d => f104 L N
noncomputable def E104 (L N : Nat) : Env := { P := Tryz.prog, ty := tyOf, Φ := (Φ103 L N), inl := inlT, live := lives, liveX := livesX, L := L, dp := none, prom := promT, heal := healT, ren := renT }
theorem f104.b_eq {R : Type} (L N : Nat) (κ : AV → Option R) :
    evBody (E104 L N) (evCallI (E104 L N) 0 1000) 1000 104 Tryz.f104 [] [] [] (finC (.one (.sl .str)) κ)
    = f104.b L N (fun a0 => κ (.tv (.sl .str) a0)) := by kernel_rfl
theorem f104.ok (L N : Nat) (hΦ : TellsOk Tryz.prog ((Φ103 L N))) : EntOk Tryz.prog 104 (f104.ent L N) := entDa_ok (E := (E104 L N)) (dep := 1000) (f := Tryz.f104) (sound_of hΦ) okP (callI_sound (sound_of hΦ) okP 0 1000) rfl fun _ _ hy => (f104.b_eq L N (unR (.one (.sl .str)))).trans (Eq.trans (b := f104.b L N some) (by kernel_rfl) hy)
def Φ104 (L N : Nat) : Tells := (addT (Φ103 L N) 104 (f104.ent L N))
theorem Φ104_ok (L N : Nat) : TellsOk Tryz.prog (Φ104 L N) := addT_ok (Φ103_ok L N) (f104.ok L N (Φ103_ok L N))
def f106.b' {R : Type} (L N : Nat) (k : Int → Option R) (x0 : Int) : Option R :=
  k (wi ((bif decide ((wi (0 - x0)) > x0) then (wi (0 - x0)) else x0) - (1 : Int)))
def f106.b {R : Type} (L N : Nat) (k : Int → Option R) (x0 : Int) : Option R :=
  f106.b' L N k x0
def f106 (L N : Nat) (x0 : Int) : Option (Int) := f106.b L N some x0
def f106.ent (L N : Nat) := entRo [i64] (.one i64) fun d => f106 L N d.1
noncomputable def E106 (L N : Nat) : Env := { P := Tryz.prog, ty := tyOf, Φ := (Φ104 L N), inl := inlT, live := lives, liveX := livesX, L := L, dp := none, prom := promT, heal := healT, ren := renT }
theorem f106.b_eq {R : Type} (L N : Nat) (κ : AV → Option R) (x0 : Int) :
    evBody (E106 L N) (evCallI (E106 L N) 0 1000) 1000 106 Tryz.f106 [(.tv i64 x0)] [] [] (finC (.one i64) κ)
    = f106.b L N (fun a0 => κ (.tv i64 a0)) x0 := by kernel_rfl
theorem f106.ok (L N : Nat) (hΦ : TellsOk Tryz.prog ((Φ104 L N))) : EntOk Tryz.prog 106 (f106.ent L N) := entRo_ok (E := (E106 L N)) (dep := 1000) (f := Tryz.f106) (sound_of hΦ) okP (callI_sound (sound_of hΦ) okP 0 1000) rfl rfl fun d _ hy => (f106.b_eq L N (unR (.one i64)) d.1).trans (Eq.trans (b := f106.b L N some d.1) (by kernel_rfl) hy)
def Φ106 (L N : Nat) : Tells := (addT (Φ104 L N) 106 (f106.ent L N))
theorem Φ106_ok (L N : Nat) : TellsOk Tryz.prog (Φ106 L N) := addT_ok (Φ104_ok L N) (f106.ok L N (Φ104_ok L N))
def f105.b' {R : Type} (L N : Nat) (k : ByteArray → Option R) (x0 : Int) : Option R :=
  bif (x0 == (0 : Int)) then
    k (ByteArray.mk #[116, 97, 117])
  else bif (decide (x0 < (0 : Int))) then
    (f106 L N x0).bind fun y0 =>
    (f106 L N x0).bind fun y1 =>
    bif (slB y0 (wi (y1 + (1 : Int))) (ByteArray.mk #[97, 98, 99, 100]).size) then
      bif (decide ((ByteArray.mk #[33]).size + ((ByteArray.mk #[97, 98, 99, 100]).extract y0.toNat (wi (y1 + (1 : Int))).toNat).size ≤ 4611686018427387904)) then
        k ((ByteArray.mk #[33]) ++ ((ByteArray.mk #[97, 98, 99, 100]).extract y0.toNat (wi (y1 + (1 : Int))).toNat))
      else none
    else none
  else (f106 L N x0).bind fun y2 =>
  (f106 L N x0).bind fun y3 =>
  bif (slB y2 (wi (y3 + (1 : Int))) (ByteArray.mk #[97, 98, 99, 100]).size) then
    k ((ByteArray.mk #[97, 98, 99, 100]).extract y2.toNat (wi (y3 + (1 : Int))).toNat)
  else none
def f105.b {R : Type} (L N : Nat) (k : ByteArray → Option R) (x0 : Int) : Option R :=
  f105.b' L N k x0
def f105 (L N : Nat) (x0 : Int) : Option (ByteArray) := f105.b L N some x0
def f105.ent (L N : Nat) := entRo [i64] (.one .str) fun d => f105 L N d.1
noncomputable def E105 (L N : Nat) : Env := { P := Tryz.prog, ty := tyOf, Φ := (Φ106 L N), inl := inlT, live := lives, liveX := livesX, L := L, dp := none, prom := promT, heal := healT, ren := renT }
theorem f105.b_eq {R : Type} (L N : Nat) (κ : AV → Option R) (x0 : Int) :
    evBody (E105 L N) (evCallI (E105 L N) 0 1000) 1000 105 Tryz.f105 [(.tv i64 x0)] [] [] (finC (.one .str) κ)
    = f105.b L N (fun a0 => κ (.tv .str a0)) x0 := by kernel_rfl
theorem f105.ok (L N : Nat) (hΦ : TellsOk Tryz.prog ((Φ106 L N))) : EntOk Tryz.prog 105 (f105.ent L N) := entRo_ok (E := (E105 L N)) (dep := 1000) (f := Tryz.f105) (sound_of hΦ) okP (callI_sound (sound_of hΦ) okP 0 1000) rfl rfl fun d _ hy => (f105.b_eq L N (unR (.one .str)) d.1).trans (Eq.trans (b := f105.b L N some d.1) (by kernel_rfl) hy)
def Φ105 (L N : Nat) : Tells := (addT (Φ106 L N) 105 (f105.ent L N))
theorem Φ105_ok (L N : Nat) : TellsOk Tryz.prog (Φ105 L N) := addT_ok (Φ106_ok L N) (f105.ok L N (Φ106_ok L N))
def f82.s0' {R : Type} (L N : Nat) (self82 : Tree → Option (ByteArray)) (k0_e1 : ByteArray → Option R) (rec0 : ByteArray → Int → Int → Int → LT → Option R) (s12 : ByteArray) (s13 : Int) (s14 : Int) (s15 : Int) (s16 : LT) : Option R :=
  bif (decide (s13 < (s16.length : Int))) then
    bif (decide (s12.size + (ByteArray.mk #[32]).size ≤ 4611686018427387904)) then
      bif (decide (0 ≤ s13) && decide (s13 < (s16.length : Int))) then
        (self82 (listAt s16 (Ty.dflt (.st 1)) s13.toNat)).bind fun y18 =>
        bif (decide ((s12 ++ (ByteArray.mk #[32])).size + y18.size ≤ 4611686018427387904)) then
          rec0 ((s12 ++ (ByteArray.mk #[32])) ++ y18) (wi (s13 + (1 : Int))) s14 s15 s16
        else none
      else none
    else none
  else k0_e1 s12
def f82.s0 {R : Type} (L N : Nat) (self82 : Tree → Option (ByteArray)) (k0_e1 : ByteArray → Option R) (rec0 : ByteArray → Int → Int → Int → LT → Option R) (s12 : ByteArray) (s13 : Int) (s14 : Int) (s15 : Int) (s16 : LT) : Option R :=
  f82.s0' L N self82 k0_e1 rec0 s12 s13 s14 s15 s16
def f82.l0 {R : Type} (L N : Nat) (self82 : Tree → Option (ByteArray)) (k0_e1 : ByteArray → Option R) : Nat → ByteArray → Int → Int → Int → LT → Option R
  | 0, _, _, _, _, _ => none
  | n + 1, s12, s13, s14, s15, s16 => f82.s0 L N self82 k0_e1 (f82.l0 L N self82 k0_e1 n) s12 s13 s14 s15 s16
def f82.T0 (s12 : ByteArray) (s13 : Int) (s14 : Int) (s15 : Int) (s16 : LT) : T := mkT 58 [(1, (.ptr 1001 0)), (3, (.tv .str s12)), (4, (.tv i64 s13))]
def f82.H0 (s12 : ByteArray) (s13 : Int) (s14 : Int) (s15 : Int) (s16 : LT) : H := [(1001, (.box [(.tv i64 s14), (.tv i64 s15), (.tv (.sl (.st 1)) s16)]))]
def f82.T0_e1 (z17 : ByteArray) : T := mkT 58 [(3, (.tv .str z17))]
def f82.H0_e1 (z17 : ByteArray) : H := []
def f82.p0_e1' {R : Type} (L N : Nat) (self82 : Tree → Option (ByteArray)) (k : ByteArray → Option R) (z17 : ByteArray) : Option R :=
  bif (decide (z17.size + (ByteArray.mk #[41]).size ≤ 4611686018427387904)) then
    k (z17 ++ (ByteArray.mk #[41]))
  else none
def f82.p0_e1 {R : Type} (L N : Nat) (self82 : Tree → Option (ByteArray)) (k : ByteArray → Option R) (z17 : ByteArray) : Option R :=
  f82.p0_e1' L N self82 k z17
def f82.j0' {R : Type} (L N : Nat) (self82 : Tree → Option (ByteArray)) (k : ByteArray → Option R) (w0 : ByteArray → Int → Int → Int → LT → Option R) (v8 : ByteArray) (v9 : Int) (v10 : Int) (v11 : LT) : Option R :=
  w0 v8 (0 : Int) v9 v10 v11
def f82.j1' {R : Type} (L N : Nat) (self82 : Tree → Option (ByteArray)) (k : ByteArray → Option R) (w0 : ByteArray → Int → Int → Int → LT → Option R) (v3 : ByteArray) (v4 : Int) (v5 : Int) (v6 : LT) : Option R :=
  bif (v4 == (4 : Int)) then
    bif (decide (v3.size + (ByteArray.mk #[32]).size ≤ 4611686018427387904)) then
      (f105 L N (wi (v5 + (1 : Int)))).bind fun y7 =>
      bif (decide ((v3 ++ (ByteArray.mk #[32])).size + y7.size ≤ 4611686018427387904)) then
        f82.j0' L N self82 k w0 ((v3 ++ (ByteArray.mk #[32])) ++ y7) v4 v5 v6
      else none
    else none
  else f82.j0' L N self82 k w0 v3 v4 v5 v6
def f82.b' {R : Type} (L N : Nat) (self82 : Tree → Option (ByteArray)) (k : ByteArray → Option R) (w0 : ByteArray → Int → Int → Int → LT → Option R) (x0 : Tree) : Option R :=
  bif (x0.op == (0 : Int)) then
    k (ByteArray.mk #[48])
  else bif (x0.op == (5 : Int)) then
    (f103 L N N x0.n).bind fun y0 =>
    bif (decide ((ByteArray.mk #[88]).size + y0.size ≤ 4611686018427387904)) then
      k ((ByteArray.mk #[88]) ++ y0)
    else none
  else (f104 L N).bind fun y1 =>
  bif (decide (0 ≤ x0.op) && decide (x0.op < (y1.length : Int))) then
    bif (decide ((ByteArray.mk #[40]).size + (listAt y1 ByteArray.empty x0.op.toNat).size ≤ 4611686018427387904)) then
      bif (x0.op == (1 : Int)) then
        bif (decide (((ByteArray.mk #[40]) ++ (listAt y1 ByteArray.empty x0.op.toNat)).size + (ByteArray.mk #[32]).size ≤ 4611686018427387904)) then
          (f105 L N x0.n).bind fun y2 =>
          bif (decide ((((ByteArray.mk #[40]) ++ (listAt y1 ByteArray.empty x0.op.toNat)) ++ (ByteArray.mk #[32])).size + y2.size ≤ 4611686018427387904)) then
            f82.j1' L N self82 k w0 ((((ByteArray.mk #[40]) ++ (listAt y1 ByteArray.empty x0.op.toNat)) ++ (ByteArray.mk #[32])) ++ y2) x0.op x0.n x0.parts
          else none
        else none
      else f82.j1' L N self82 k w0 ((ByteArray.mk #[40]) ++ (listAt y1 ByteArray.empty x0.op.toNat)) x0.op x0.n x0.parts
    else none
  else none
def f82.b {R : Type} (L N : Nat) (self82 : Tree → Option (ByteArray)) (k : ByteArray → Option R) (x0 : Tree) : Option R :=
  f82.b' L N self82 k (fun s12 s13 s14 s15 s16 => f82.l0 L N self82 (fun z17 => f82.p0_e1 L N self82 k z17) L s12 s13 s14 s15 s16) x0
def f82 (L N : Nat) : Nat → Tree → Option (ByteArray)
  | 0, _ => none
  | n + 1, x0 => f82.b L N (f82 L N n) some x0
def f82.ent (L N m : Nat) := entRo [(.st 1)] (.one .str) fun d => f82 L N m d.1
def Φ82s (L N m : Nat) : Tells := (addT (Φ105 L N) 82 (f82.ent L N m))
noncomputable def E82 (L N m : Nat) : Env := { P := Tryz.prog, ty := tyOf, Φ := Φ82s L N m, inl := inlT, live := lives, liveX := livesX, L := L, dp := none, prom := promT, heal := healT, ren := renT }
noncomputable def f82.c0 : Code := loopAt 1 (codeOf Tryz.f82)
def f82.X0_e1 {R : Type} (κ : KX R) := fun z17 => κ (.exit 1) (f82.T0_e1 z17) (f82.H0_e1 z17)
def f82.R0 {R : Type} (rec : KT R) := fun s12 s13 s14 s15 s16 => rec (f82.T0 s12 s13 s14 s15 s16) (f82.H0 s12 s13 s14 s15 s16)
theorem f82.s0_eq {R : Type} (L N m : Nat) (κ : KX R) (rec : KT R) (s12 : ByteArray) (s13 : Int) (s14 : Int) (s15 : Int) (s16 : LT) :
    evRd (E82 L N m) (evCallI (E82 L N m) 0 1000) 1000 82 58 1 f82.c0 κ rec (f82.T0 s12 s13 s14 s15 s16) (f82.H0 s12 s13 s14 s15 s16)
    = f82.s0 L N (f82 L N m) (f82.X0_e1 κ) (f82.R0 rec) s12 s13 s14 s15 s16 := by kernel_rfl
theorem f82.l0_eq {R : Type} (L N m : Nat) (κ : KX R) : ∀ (n : Nat) (s12 : ByteArray) (s13 : Int) (s14 : Int) (s15 : Int) (s16 : LT),
    evLp (E82 L N m) (evCallI (E82 L N m) 0 1000) 1000 82 58 1 f82.c0 κ n (f82.T0 s12 s13 s14 s15 s16) (f82.H0 s12 s13 s14 s15 s16)
    = f82.l0 L N (f82 L N m) (f82.X0_e1 κ) n s12 s13 s14 s15 s16 := by
  intro n
  induction n with
  | zero => intros; rfl
  | succ n ih =>
    intro s12 s13 s14 s15 s16
    rw [evLp_succ, f82.s0_eq]
    delta f82.R0
    simp only [ih]
    rfl
theorem f82.p0_e1_eq {R : Type} (L N m : Nat) (κ : AV → Option R) (z17 : ByteArray) :
    (contAt (E82 L N m) (evCallI (E82 L N m) 0 1000) 1000 82 58 1 (codeOf Tryz.f82) (finK (E82 L N m) 1000 Tryz.f82 (finC (.one .str) κ))) (.exit 1) (f82.T0_e1 z17) (f82.H0_e1 z17)
    = f82.p0_e1 L N (f82 L N m) (fun a0 => κ (.tv .str a0)) z17 := by kernel_rfl
theorem f82.b_eq {R : Type} (L N m : Nat) (κ : AV → Option R) (x0 : Tree) :
    evBody (E82 L N m) (evCallI (E82 L N m) 0 1000) 1000 82 Tryz.f82 [(.tv (.st 1) x0)] [] [] (finC (.one .str) κ)
    = f82.b L N (f82 L N m) (fun a0 => κ (.tv .str a0)) x0 := by
  refine Eq.trans (b := f82.b' L N (f82 L N m) (fun a0 => κ (.tv .str a0)) (fun s12 s13 s14 s15 s16 => evLp (E82 L N m) (evCallI (E82 L N m) 0 1000) 1000 82 58 1 f82.c0 (contAt (E82 L N m) (evCallI (E82 L N m) 0 1000) 1000 82 58 1 (codeOf Tryz.f82) (finK (E82 L N m) 1000 Tryz.f82 (finC (.one .str) κ))) L (f82.T0 s12 s13 s14 s15 s16) (f82.H0 s12 s13 s14 s15 s16)) x0) (by kernel_rfl) ?_
  unfold f82.b
  simp only [f82.l0_eq]
  delta f82.X0_e1
  simp only [f82.p0_e1_eq]
end Go.Proofs.YtffkhhblppfbfaaGreat.Ev
