/- The seat's functions as plain functions: made by program (wip/gen/gen.py). -/
import Derived.Test.YtffkhhblppfbfaaGreatEvYa
import Derived.Test.YtffkhhblppfbfaaGreatShelf
namespace Go.Proofs.YtffkhhblppfbfaaGreat.Ev
open Go
set_option linter.unusedVariables false
set_option maxRecDepth 20000
def tyTab : List (Nat × Ty) := [(2, i64), (3, i64), (4, .bool), (5, (.int .u8)), (6, (.int .u8)), (9, .str), (10, .str), (11, .str), (12, (.int .u64)), (21, (.int .i32)), (22, (.sl (.int .u8))), (23, (.sl (.sl (.st 0)))), (24, (.st 2)), (25, (.st 2)), (26, (.sl i64)), (33, (.sl .bool)), (48, (.sl (.st 0))), (49, (.st 0)), (50, (.st 0)), (61, (.sl (.st 1))), (62, (.st 1)), (63, (.st 1)), (73, (.sl (.sl i64))), (93, (.int .u64)), (102, (.sl .str)), (103, (.sl (.st 3))), (106, (.st 3)), (112, i64), (120, (.int .u32)), (122, (.int .u64)), (129, (.int .u64)), (154, (.int .u8)), (155, (.int .u8)), (158, (.int .i32)), (159, (.int .i32))]
def tyOf (t : Nat) : Option Ty := tyFind t tyTab
def lives (f i : Nat) : List Nat × List Nat :=
  bif Nat.beq f 9 && Nat.beq i 0 then ([1, 2, 4, 5, 21, 22, 23], [1, 2, 19, 20]) else
  bif Nat.beq f 9 && Nat.beq i 2 then ([1, 2, 4, 5, 8, 37, 38, 39], [1, 2, 8, 19, 20, 920]) else
  bif Nat.beq f 9 && Nat.beq i 4 then ([1, 2, 4, 5, 8, 11, 37, 38, 39, 48, 49, 50], [1, 2, 8, 19, 20, 43, 920]) else
  bif Nat.beq f 15 && Nat.beq i 0 then ([0, 3, 5, 6, 7], [3, 10]) else
  bif Nat.beq f 17 && Nat.beq i 0 then ([1, 3], [1]) else
  bif Nat.beq f 17 && Nat.beq i 2 then ([1, 3, 4], [1]) else
  bif Nat.beq f 18 && Nat.beq i 0 then ([0, 3], []) else
  bif Nat.beq f 19 && Nat.beq i 0 then ([0, 3], []) else
  bif Nat.beq f 20 && Nat.beq i 0 then ([1, 2, 5, 6], [2]) else
  bif Nat.beq f 21 && Nat.beq i 0 then ([1, 18, 19, 20], [1]) else
  bif Nat.beq f 21 && Nat.beq i 2 then ([1, 4, 18, 19, 20, 24, 25, 26], [1]) else
  bif Nat.beq f 22 && Nat.beq i 0 then ([1, 2, 3, 4, 18, 19], [1, 2, 4, 900, 901]) else
  bif Nat.beq f 22 && Nat.beq i 2 then ([1, 2, 3, 4, 6, 18, 19, 26, 27, 28], [1, 2, 4, 22, 900, 901]) else
  bif Nat.beq f 22 && Nat.beq i 4 then ([1, 2, 3, 4, 6, 18, 19, 26, 27, 28, 41, 42, 43], [1, 2, 4, 22, 900, 901]) else
  bif Nat.beq f 22 && Nat.beq i 6 then ([1, 2, 3, 4, 6, 10, 18, 19, 26, 27, 28, 41, 42, 43, 54, 55, 56], [1, 2, 4, 10, 22, 900, 901]) else
  bif Nat.beq f 24 && Nat.beq i 0 then ([0, 1, 7, 8], []) else
  bif Nat.beq f 30 && Nat.beq i 0 then ([2, 5, 11, 12, 13], [2, 10]) else
  bif Nat.beq f 38 && Nat.beq i 0 then ([0, 4, 5, 6, 7, 8], [4, 5, 900, 901]) else
  bif Nat.beq f 38 && Nat.beq i 2 then ([0, 4, 5, 6, 7, 8, 9, 10], [4, 5, 25, 900, 901]) else
  bif Nat.beq f 44 && Nat.beq i 0 then ([1, 2, 3, 7, 8], [3, 12]) else
  bif Nat.beq f 44 && Nat.beq i 2 then ([1, 2, 3, 7, 8, 9], [3, 12]) else
  bif Nat.beq f 47 && Nat.beq i 0 then ([1, 3, 8, 9], [1, 5]) else
  bif Nat.beq f 54 && Nat.beq i 0 then ([0, 1, 7, 8], []) else
  bif Nat.beq f 55 && Nat.beq i 0 then ([2, 5, 6, 17, 18, 19], [2, 15, 16]) else
  bif Nat.beq f 55 && Nat.beq i 2 then ([2, 5, 6, 9], [2, 15, 16]) else
  bif Nat.beq f 55 && Nat.beq i 4 then ([2, 5, 6, 9, 49, 50, 51], [2, 15, 16]) else
  bif Nat.beq f 56 && Nat.beq i 0 then ([2, 3, 7, 13, 14, 15], [3, 12]) else
  bif Nat.beq f 56 && Nat.beq i 2 then ([2, 3, 7, 13, 14, 15, 23, 24, 25], [3, 12]) else
  bif Nat.beq f 62 && Nat.beq i 0 then ([0, 3, 4, 5], [8]) else
  bif Nat.beq f 65 && Nat.beq i 0 then ([1, 4, 6, 7, 8, 9], [4, 8, 16, 19, 900]) else
  bif Nat.beq f 65 && Nat.beq i 2 then ([1, 4, 6, 7, 8, 9, 10, 11, 12], [4, 8, 16, 19, 32, 33, 900]) else
  bif Nat.beq f 65 && Nat.beq i 4 then ([1, 4, 6, 7, 8, 9, 10, 11, 12, 13, 14], [4, 8, 16, 19, 32, 33, 900]) else
  bif Nat.beq f 67 && Nat.beq i 0 then ([0, 3, 4], [7]) else
  bif Nat.beq f 67 && Nat.beq i 2 then ([0, 3, 4, 5], [7]) else
  bif Nat.beq f 67 && Nat.beq i 4 then ([0, 3, 4, 5, 6], [7]) else
  bif Nat.beq f 68 && Nat.beq i 0 then ([2, 5, 6], [2, 10]) else
  bif Nat.beq f 68 && Nat.beq i 2 then ([2, 5, 6, 7], [2, 10]) else
  bif Nat.beq f 68 && Nat.beq i 4 then ([2, 5, 6, 7, 8], [2, 10]) else
  bif Nat.beq f 70 && Nat.beq i 0 then ([3, 5], [3, 10]) else
  bif Nat.beq f 71 && Nat.beq i 0 then ([0, 6, 14, 15, 16], [9]) else
  bif Nat.beq f 80 && Nat.beq i 0 then ([0, 3], []) else
  bif Nat.beq f 82 && Nat.beq i 1 then ([1, 3, 4], [1]) else
  bif Nat.beq f 83 && Nat.beq i 1 then ([2, 5, 6, 7, 8], [2, 14, 51, 57]) else
  bif Nat.beq f 83 && Nat.beq i 3 then ([2, 5, 6, 7, 9], [2, 14, 51, 57]) else
  bif Nat.beq f 83 && Nat.beq i 5 then ([5, 6, 7, 10], [14, 51, 57]) else
  bif Nat.beq f 83 && Nat.beq i 7 then ([5, 6, 7, 10, 11], [14, 51, 57]) else
  bif Nat.beq f 83 && Nat.beq i 9 then ([2, 5, 12, 13], [2, 14, 165]) else
  bif Nat.beq f 84 && Nat.beq i 1 then ([1, 3, 5, 6], [1]) else
  bif Nat.beq f 86 && Nat.beq i 0 then ([0, 1, 5, 6, 16, 17], [11, 14]) else
  bif Nat.beq f 86 && Nat.beq i 2 then ([0, 1, 5, 6, 7, 8, 16, 17], [11, 14]) else
  bif Nat.beq f 88 && Nat.beq i 0 then ([0, 1, 12, 13], []) else
  bif Nat.beq f 101 && Nat.beq i 0 then ([1, 2, 5, 6], [2]) else
  bif Nat.beq f 107 && Nat.beq i 0 then ([0, 1, 12, 13], []) else
  ([], [])
def livesX (f i : Nat) : List Nat × List Nat :=
  bif Nat.beq f 9 && Nat.beq i 0 then ([1, 2, 4, 5], [1, 2, 19, 20]) else
  bif Nat.beq f 9 && Nat.beq i 2 then ([2, 8], [2, 8, 920]) else
  bif Nat.beq f 9 && Nat.beq i 4 then ([1, 2, 4, 5, 8, 11, 37, 38, 39], [1, 2, 8, 19, 20, 43, 920]) else
  bif Nat.beq f 15 && Nat.beq i 0 then ([5], [10]) else
  bif Nat.beq f 17 && Nat.beq i 0 then ([2], []) else
  bif Nat.beq f 17 && Nat.beq i 2 then ([1, 2, 3], [1]) else
  bif Nat.beq f 18 && Nat.beq i 0 then ([0, 2], []) else
  bif Nat.beq f 19 && Nat.beq i 0 then ([2], []) else
  bif Nat.beq f 20 && Nat.beq i 0 then ([5], []) else
  bif Nat.beq f 21 && Nat.beq i 0 then ([2], []) else
  bif Nat.beq f 21 && Nat.beq i 2 then ([1, 2, 18, 19, 20], [1]) else
  bif Nat.beq f 22 && Nat.beq i 0 then ([2, 4], [2, 4, 900, 901]) else
  bif Nat.beq f 22 && Nat.beq i 2 then ([1, 2, 3, 4, 6, 18, 19], [1, 2, 4, 22, 900, 901]) else
  bif Nat.beq f 22 && Nat.beq i 4 then ([1, 2, 3, 4, 6, 18, 19, 26, 27, 28], [1, 2, 4, 22, 900, 901]) else
  bif Nat.beq f 22 && Nat.beq i 6 then ([1, 2, 3, 4, 6, 18, 19, 26, 27, 28, 41, 42, 43], [1, 2, 4, 22, 900, 901]) else
  bif Nat.beq f 24 && Nat.beq i 0 then ([4], []) else
  bif Nat.beq f 30 && Nat.beq i 0 then ([5], [10]) else
  bif Nat.beq f 38 && Nat.beq i 0 then ([0, 4, 5, 6], [4, 5, 900, 901]) else
  bif Nat.beq f 38 && Nat.beq i 2 then ([0, 4, 5, 6, 7, 8, 9], [4, 5, 25, 900, 901]) else
  bif Nat.beq f 44 && Nat.beq i 0 then ([3, 7], [3, 12]) else
  bif Nat.beq f 44 && Nat.beq i 2 then ([1, 2, 3, 7, 8], [3, 12]) else
  bif Nat.beq f 47 && Nat.beq i 0 then ([3], [5]) else
  bif Nat.beq f 54 && Nat.beq i 0 then ([4], []) else
  bif Nat.beq f 55 && Nat.beq i 0 then ([2, 5, 6], [2, 15, 16]) else
  bif Nat.beq f 55 && Nat.beq i 2 then ([6], [16]) else
  bif Nat.beq f 55 && Nat.beq i 4 then ([2, 5, 6, 9], [2, 15, 16]) else
  bif Nat.beq f 56 && Nat.beq i 0 then ([3, 7], [3, 12]) else
  bif Nat.beq f 56 && Nat.beq i 2 then ([2, 3, 7, 13, 14, 15], [3, 12]) else
  bif Nat.beq f 62 && Nat.beq i 0 then ([0, 3, 4], [8]) else
  bif Nat.beq f 65 && Nat.beq i 0 then ([4, 5, 8], [4, 8, 900]) else
  bif Nat.beq f 65 && Nat.beq i 2 then ([1, 4, 5, 6, 7, 8, 9, 11], [4, 8, 16, 19, 33, 900]) else
  bif Nat.beq f 65 && Nat.beq i 4 then ([1, 4, 6, 7, 8, 9, 10, 11, 12, 13, 14], [4, 8, 16, 19, 32, 33, 900]) else
  bif Nat.beq f 67 && Nat.beq i 0 then ([3], [7]) else
  bif Nat.beq f 67 && Nat.beq i 2 then ([0, 3, 4, 5], [7]) else
  bif Nat.beq f 67 && Nat.beq i 4 then ([0, 3, 4, 5], [7]) else
  bif Nat.beq f 68 && Nat.beq i 0 then ([5], [10]) else
  bif Nat.beq f 68 && Nat.beq i 2 then ([2, 5, 6], [2, 10]) else
  bif Nat.beq f 68 && Nat.beq i 4 then ([2, 5, 6, 7], [2, 10]) else
  bif Nat.beq f 70 && Nat.beq i 0 then ([4], [10]) else
  bif Nat.beq f 71 && Nat.beq i 0 then ([6], [9]) else
  bif Nat.beq f 80 && Nat.beq i 0 then ([0, 2], []) else
  bif Nat.beq f 82 && Nat.beq i 1 then ([3], []) else
  bif Nat.beq f 83 && Nat.beq i 1 then ([2, 5, 6, 7], [2, 14, 51, 57]) else
  bif Nat.beq f 83 && Nat.beq i 3 then ([5, 6, 7], [14, 51, 57]) else
  bif Nat.beq f 83 && Nat.beq i 5 then ([5], [14]) else
  bif Nat.beq f 83 && Nat.beq i 7 then ([5, 6, 7, 10], [14, 51, 57]) else
  bif Nat.beq f 83 && Nat.beq i 9 then ([5], [14]) else
  bif Nat.beq f 84 && Nat.beq i 1 then ([2, 5], []) else
  bif Nat.beq f 86 && Nat.beq i 0 then ([5], [11]) else
  bif Nat.beq f 86 && Nat.beq i 2 then ([0, 1, 5, 6, 16, 17], [11, 14]) else
  bif Nat.beq f 88 && Nat.beq i 0 then ([4], []) else
  bif Nat.beq f 101 && Nat.beq i 0 then ([5], []) else
  bif Nat.beq f 107 && Nat.beq i 0 then ([4], []) else
  ([], [])
def promT (f i : Nat) : List (Nat × Nat × Nat × Option Nat × Nat × Ty) :=
  bif Nat.beq f 9 && Nat.beq i 2 then [(8, 0, 920, none, 48, (.sl (.st 0)))] else
  bif Nat.beq f 22 && Nat.beq i 0 then [(2, 0, 900, (some 0), 0, (.sl (.st 0))), (4, 0, 901, (some 0), 0, (.sl (.st 0)))] else
  bif Nat.beq f 38 && Nat.beq i 0 then [(4, 0, 900, (some 0), 0, (.sl (.st 0))), (5, 0, 901, (some 0), 0, (.sl (.st 0)))] else
  bif Nat.beq f 65 && Nat.beq i 0 then [(8, 0, 900, none, 48, (.sl (.st 0)))] else
  []
def healT (f i : Nat) : List Nat :=
  []
def renT (f i : Nat) : List (Nat × Nat) :=
  bif Nat.beq f 30 && Nat.beq i 0 then [(10, 20)] else
  []
def inlT (f : Nat) : Bool := memN f []
theorem okP : OkP Tryz.prog := OkP.mk' (by kernel_rfl) (by kernel_rfl)
def Φx (L N : Nat) : Tells := addT (addT (addT noTells 74 sortEnt) 25 tidyEnt) 49 (cloneEnt 3)
theorem Φx_ok (L N : Nat) : TellsOk Tryz.prog (Φx L N) := addT_ok (addT_ok (addT_ok (no_ok _) (sort_ok ⟨Tryz.f74, rfl, by kernel_rfl, by kernel_rfl⟩ sortC sortNone)) (tidy_ok ⟨Tryz.f25, rfl, by kernel_rfl, by kernel_rfl⟩ tidyC tidyNone)) (clone_ok ⟨Tryz.f49, rfl, by kernel_rfl, by kernel_rfl⟩ cloneC cloneZero cloneNil)
def f13.b' {R : Type} (L N : Nat) (k : LI → Int → Option R) (x0 : LI) : Option R :=
  bif (decide ((x0.length : Int) > (2000 : Int))) then
    bif (slB (0 : Int) (2000 : Int) x0.length) then
      k (slX x0 (0 : Int) (2000 : Int)) (0 : Int)
    else none
  else k x0 (0 : Int)
def f13.b {R : Type} (L N : Nat) (k : LI → Int → Option R) (x0 : LI) : Option R :=
  f13.b' L N k x0
def f13 (L N : Nat) (x0 : LI) : Option (LI × Int) := f13.b L N (fun a0 a1 => some (a0, a1)) x0
def f13.ent (L N : Nat) (args : List AV) (vw : View) (site : Nat) : Ans := match coeD [(.sl (.int .u8))] vw args with
  | some (d, u) => ⟨LI × Int, f13 L N d.1, fun y => (.ptr site 0, u ++ [(site, some (.box [(.tv (.sl (.int .u8)) y.1), (.tv i64 y.2)]))], [])⟩
  | none => Ans.no
noncomputable def E13 (L N : Nat) : Env := { P := Tryz.prog, ty := tyOf, Φ := (Φx L N), inl := inlT, live := lives, liveX := livesX, L := L, dp := none, prom := promT, heal := healT, ren := renT }
theorem f13.b_eq {R : Type} (L N : Nat) (κ : Dens [(.sl (.int .u8)), i64] → Option R) (x0 : LI) :
    evBody (E13 L N) (evCallI (E13 L N) 0 1000) 1000 13 Tryz.f13 [(.tv (.sl (.int .u8)) x0)] [] [] (finB [(.sl (.int .u8)), i64] κ)
    = f13.b L N (fun a0 a1 => κ (a0, a1, ())) x0 := by kernel_rfl
theorem f13.ok (L N : Nat) (hΦ : TellsOk Tryz.prog ((Φx L N))) : EntOk Tryz.prog 13 (f13.ent L N) := by
  intro args vw site h
  unfold f13.ent
  split
  · rename_i d u ha
    intro y hy hs
    refine call_newbox (y := y) (dep := 1000) (d1 := (y.1, y.2, ())) (E := (E13 L N)) (ts := [(.sl (.int .u8))]) (tb := [(.sl (.int .u8)), i64]) (κ := (fun d => some (d.1, d.2.1))) (sound_of hΦ) okP (callI_sound (sound_of hΦ) okP 0 1000) (f := Tryz.f13) rfl hs ha ?_ (fun _ h => by obtain rfl := Option.some.inj h; rfl) site
    exact (f13.b_eq L N (fun d => some (d.1, d.2.1)) d.1).trans (Eq.trans (b := f13.b L N (fun a0 a1 => some (a0, a1)) d.1) (by kernel_rfl) hy)
  · intro y hy
    cases hy
def Φ13 (L N : Nat) : Tells := (addT (Φx L N) 13 (f13.ent L N))
theorem Φ13_ok (L N : Nat) : TellsOk Tryz.prog (Φ13 L N) := addT_ok (Φx_ok L N) (f13.ok L N (Φx_ok L N))
def f35.j0' {R : Type} (L N : Nat) (k : Int → LI → Int → Option R) (v4 : Int) (v5 : LI) (v6 : Int) : Option R :=
  bif (decide ((wi (v6 - (1 : Int))) < (v5.length : Int))) then
    bif (decide (0 ≤ (wi (v6 - (1 : Int)))) && decide ((wi (v6 - (1 : Int))) < (v5.length : Int))) then
      bif (decide (v4 = 0)) then
        none
      else k (Int.tmod (wi ((listAt v5 (0 : Int) (wi (v6 - (1 : Int))).toNat))) v4) v5 v6
    else none
  else bif (decide ((v5.length : Int) = 0)) then
    none
  else bif (decide (0 ≤ (Int.tmod (wi (v6 - (1 : Int))) (v5.length : Int))) && decide ((Int.tmod (wi (v6 - (1 : Int))) (v5.length : Int)) < (v5.length : Int))) then
    bif (decide ((v5.length : Int) = 0)) then
      none
    else bif (decide (0 ≤ (Int.tmod (wi ((wi ((wi (v6 - (1 : Int))) * (7 : Int))) + (3 : Int))) (v5.length : Int))) && decide ((Int.tmod (wi ((wi ((wi (v6 - (1 : Int))) * (7 : Int))) + (3 : Int))) (v5.length : Int)) < (v5.length : Int))) then
      bif (decide ((v5.length : Int) = 0)) then
        none
      else bif (decide ((64 : Int) = 0)) then
        none
      else bif (decide (v4 = 0)) then
        none
      else k (Int.tmod (IntKind.wrap .i64 ((BitVec.ofInt (IntKind.bits .i64) (wi ((wi ((wi ((wi ((wi ((listAt v5 (0 : Int) (Int.tmod (wi (v6 - (1 : Int))) (v5.length : Int)).toNat))) * (131 : Int))) + (wi ((wi ((listAt v5 (0 : Int) (Int.tmod (wi ((wi ((wi (v6 - (1 : Int))) * (7 : Int))) + (3 : Int))) (v5.length : Int)).toNat))) * (1117 : Int))))) + (wi ((wi (v6 - (1 : Int))) * (29 : Int))))) + (wi ((wi (Int.tdiv (wi (v6 - (1 : Int))) (v5.length : Int))) * (53 : Int))))) ^^^ BitVec.ofInt (IntKind.bits .i64) (wi (Int.tdiv (wi ((wi ((wi ((wi ((wi ((listAt v5 (0 : Int) (Int.tmod (wi (v6 - (1 : Int))) (v5.length : Int)).toNat))) * (131 : Int))) + (wi ((wi ((listAt v5 (0 : Int) (Int.tmod (wi ((wi ((wi (v6 - (1 : Int))) * (7 : Int))) + (3 : Int))) (v5.length : Int)).toNat))) * (1117 : Int))))) + (wi ((wi (v6 - (1 : Int))) * (29 : Int))))) + (wi ((wi (Int.tdiv (wi (v6 - (1 : Int))) (v5.length : Int))) * (53 : Int))))) (64 : Int)))).toNat)) v4) v5 v6
    else none
  else none
def f35.b' {R : Type} (L N : Nat) (k : Int → LI → Int → Option R) (c0 : LI) (c1 : Int) (x0 : Int) : Option R :=
  bif (decide (x0 < (1 : Int))) then
    k (0 : Int) c0 (wi (c1 + (1 : Int)))
  else bif ((c0.length : Int) == (0 : Int)) then
    k (0 : Int) c0 (wi (c1 + (1 : Int)))
  else f35.j0' L N k x0 c0 (wi (c1 + (1 : Int)))
def f35.b {R : Type} (L N : Nat) (k : Int → LI → Int → Option R) (c0 : LI) (c1 : Int) (x0 : Int) : Option R :=
  f35.b' L N k c0 c1 x0
def f35 (L N : Nat) (c0 : LI) (c1 : Int) (x0 : Int) : Option (Int × LI × Int) := f35.b L N (fun a0 a1 a2 => some (a0, a1, a2)) c0 c1 x0
def f35.ent (L N : Nat) (args : List AV) (vw : View) (site : Nat) : Ans := match boxD [(.sl (.int .u8)), i64] [i64] vw args with
  | some (o, d0, d, u) => ⟨Int × LI × Int, f35 L N d0.1 d0.2.1 d.1, fun y => ((.tv i64 y.1), u ++ [(o, some (.box [(.tv (.sl (.int .u8)) y.2.1), (.tv i64 y.2.2)]))], [])⟩
  | none => Ans.no
noncomputable def E35 (L N : Nat) : Env := { P := Tryz.prog, ty := tyOf, Φ := (Φ13 L N), inl := inlT, live := lives, liveX := livesX, L := L, dp := none, prom := promT, heal := healT, ren := renT }
theorem f35.b_eq {R : Type} (L N : Nat) (κ : AV → Dens [(.sl (.int .u8)), i64] → Option R) (c0 : LI) (c1 : Int) (x0 : Int) :
    evBody (E35 L N) (evCallI (E35 L N) 0 1000) 1000 35 Tryz.f35 [(.ptr 0 0), (.tv i64 x0)] [.ptr 0 0] [(0, (.box [(.tv (.sl (.int .u8)) c0), (.tv i64 c1)]))] (finM (.one i64) [(.sl (.int .u8)), i64] κ)
    = f35.b L N (fun a0 a1 a2 => κ (.tv i64 a0) (a1, a2, ())) c0 c1 x0 := by kernel_rfl
theorem f35.ok (L N : Nat) (hΦ : TellsOk Tryz.prog ((Φ13 L N))) : EntOk Tryz.prog 35 (f35.ent L N) := by
  intro args vw site h
  unfold f35.ent
  split
  · rename_i o d0 d u ha
    intro y hy hs
    obtain ⟨rest, cs, rfl, ho, hd0, hr, hu⟩ := boxD_some ha
    refine call_box (y := y) (dep := 1000) (v' := (.tv i64 y.1)) (d1 := (y.2.1, y.2.2, ())) (E := (E35 L N)) (ts := [(.sl (.int .u8)), i64]) (tr := [i64]) (rs := (.one i64)) (κ := (fun v d => (unR (.one i64) v).bind fun x => some (x, d.1, d.2.1))) (sound_of hΦ) okP (callI_sound (sound_of hΦ) okP 0 1000) (f := Tryz.f35) rfl hs ho hd0 hr hu ?_ (fun _ _ h => by obtain ⟨x, h1, h2⟩ := unR_bind h; obtain rfl := Option.some.inj h2; exact ⟨h1, rfl⟩) site
    exact (f35.b_eq L N (fun v d => (unR (.one i64) v).bind fun x => some (x, d.1, d.2.1)) d0.1 d0.2.1 d.1).trans (Eq.trans (b := f35.b L N (fun a0 a1 a2 => some (a0, a1, a2)) d0.1 d0.2.1 d.1) (by kernel_rfl) hy)
  · intro y hy
    cases hy
def Φ35 (L N : Nat) : Tells := (addT (Φ13 L N) 35 (f35.ent L N))
theorem Φ35_ok (L N : Nat) : TellsOk Tryz.prog (Φ35 L N) := addT_ok (Φ13_ok L N) (f35.ok L N (Φ13_ok L N))
def f66.b' {R : Type} (L N : Nat) (k : Int → LI → Int → Option R) (c0 : LI) (c1 : Int) : Option R :=
  (f35 L N c0 c1 (3 : Int)).bind fun y0 =>
  bif (decide (y0.1 > (0 : Int))) then
    (f35 L N y0.2.1 y0.2.2 (5 : Int)).bind fun y1 =>
    k (wi (y1.1 - (2 : Int))) y1.2.1 y1.2.2
  else (f35 L N y0.2.1 y0.2.2 (9 : Int)).bind fun y2 =>
  k (wi (y2.1 - (4 : Int))) y2.2.1 y2.2.2
def f66.b {R : Type} (L N : Nat) (k : Int → LI → Int → Option R) (c0 : LI) (c1 : Int) : Option R :=
  f66.b' L N k c0 c1
def f66 (L N : Nat) (c0 : LI) (c1 : Int) : Option (Int × LI × Int) := f66.b L N (fun a0 a1 a2 => some (a0, a1, a2)) c0 c1
def f66.ent (L N : Nat) (args : List AV) (vw : View) (site : Nat) : Ans := match boxD [(.sl (.int .u8)), i64] [] vw args with
  | some (o, d0, d, u) => ⟨Int × LI × Int, f66 L N d0.1 d0.2.1, fun y => ((.tv i64 y.1), u ++ [(o, some (.box [(.tv (.sl (.int .u8)) y.2.1), (.tv i64 y.2.2)]))], [])⟩
  | none => Ans.no
noncomputable def E66 (L N : Nat) : Env := { P := Tryz.prog, ty := tyOf, Φ := (Φ35 L N), inl := inlT, live := lives, liveX := livesX, L := L, dp := none, prom := promT, heal := healT, ren := renT }
theorem f66.b_eq {R : Type} (L N : Nat) (κ : AV → Dens [(.sl (.int .u8)), i64] → Option R) (c0 : LI) (c1 : Int) :
    evBody (E66 L N) (evCallI (E66 L N) 0 1000) 1000 66 Tryz.f66 [(.ptr 0 0)] [.ptr 0 0] [(0, (.box [(.tv (.sl (.int .u8)) c0), (.tv i64 c1)]))] (finM (.one i64) [(.sl (.int .u8)), i64] κ)
    = f66.b L N (fun a0 a1 a2 => κ (.tv i64 a0) (a1, a2, ())) c0 c1 := by kernel_rfl
theorem f66.ok (L N : Nat) (hΦ : TellsOk Tryz.prog ((Φ35 L N))) : EntOk Tryz.prog 66 (f66.ent L N) := by
  intro args vw site h
  unfold f66.ent
  split
  · rename_i o d0 d u ha
    intro y hy hs
    obtain ⟨rest, cs, rfl, ho, hd0, hr, hu⟩ := boxD_some ha
    refine call_box (y := y) (dep := 1000) (v' := (.tv i64 y.1)) (d1 := (y.2.1, y.2.2, ())) (E := (E66 L N)) (ts := [(.sl (.int .u8)), i64]) (tr := []) (rs := (.one i64)) (κ := (fun v d => (unR (.one i64) v).bind fun x => some (x, d.1, d.2.1))) (sound_of hΦ) okP (callI_sound (sound_of hΦ) okP 0 1000) (f := Tryz.f66) rfl hs ho hd0 hr hu ?_ (fun _ _ h => by obtain ⟨x, h1, h2⟩ := unR_bind h; obtain rfl := Option.some.inj h2; exact ⟨h1, rfl⟩) site
    exact (f66.b_eq L N (fun v d => (unR (.one i64) v).bind fun x => some (x, d.1, d.2.1)) d0.1 d0.2.1).trans (Eq.trans (b := f66.b L N (fun a0 a1 a2 => some (a0, a1, a2)) d0.1 d0.2.1) (by kernel_rfl) hy)
  · intro y hy
    cases hy
def Φ66 (L N : Nat) : Tells := (addT (Φ35 L N) 66 (f66.ent L N))
theorem Φ66_ok (L N : Nat) : TellsOk Tryz.prog (Φ66 L N) := addT_ok (Φ35_ok L N) (f66.ok L N (Φ35_ok L N))
def f79.j0' {R : Type} (L N : Nat) (self79 : LI → Int → Int → Int → Bool → Option (Tree × LI × Int)) (k : Tree → LI → Int → Option R) (v10 : Int) (v11 : Int) (v12 : Bool) (v13 : Int) (v14 : Bool) (v15 : LI) (v16 : Int) (v17 : Int) (v18 : Int) : Option R :=
  bif v14 then
    (f35 L N v15 v16 v11).bind fun y19 =>
    k (Tree.mk (5 : Int) y19.1 []) y19.2.1 y19.2.2
  else bif (v13 == (0 : Int)) then
    k (Tree.mk (0 : Int) (0 : Int) []) v15 v16
  else bif (decide (v13 < (5 : Int))) then
    (f66 L N v15 v16).bind fun y20 =>
    bif (v10 == (0 : Int)) then
      k (Tree.mk (1 : Int) y20.1 ([(Tree.mk (0 : Int) (0 : Int) [])] : LT)) y20.2.1 y20.2.2
    else (self79 y20.2.1 y20.2.2 (bif decide ((wi (v10 - (1 : Int))) > (0 : Int)) then (wi (v10 - (1 : Int))) else (0 : Int)) v11 true).bind fun y21 =>
    k (Tree.mk (1 : Int) y20.1 ([y21.1] : LT)) y21.2.1 y21.2.2
  else bif (v13 == (5 : Int)) then
    (f35 L N v15 v16 (4 : Int)).bind fun y22 =>
    (self79 y22.2.1 y22.2.2 (wi (v10 - (1 : Int))) v11 v12).bind fun y23 =>
    k (Tree.mk (4 : Int) y22.1 ([y23.1] : LT)) y23.2.1 y23.2.2
  else bif (v13 == (8 : Int)) then
    (self79 v15 v16 (wi (v10 - (1 : Int))) v11 v12).bind fun y34 =>
    (self79 y34.2.1 y34.2.2 (wi (v10 - (1 : Int))) v11 v12).bind fun y35 =>
    k (Tree.mk (3 : Int) (0 : Int) ([(Tree.mk y34.1.op y34.1.n y34.1.parts), (Tree.mk y35.1.op y35.1.n y35.1.parts)] : LT)) y35.2.1 y35.2.2
  else (self79 v15 v16 (wi (v10 - (1 : Int))) v11 v12).bind fun y36 =>
  (self79 y36.2.1 y36.2.2 (wi (v10 - (1 : Int))) v11 v12).bind fun y37 =>
  k (Tree.mk (2 : Int) (0 : Int) ([(Tree.mk y36.1.op y36.1.n y36.1.parts), (Tree.mk y37.1.op y37.1.n y37.1.parts)] : LT)) y37.2.1 y37.2.2
def f79.j1' {R : Type} (L N : Nat) (self79 : LI → Int → Int → Int → Bool → Option (Tree × LI × Int)) (k : Tree → LI → Int → Option R) (v2 : Int) (v3 : Int) (v4 : Bool) (v5 : Int) (v6 : LI) (v7 : Int) (v8 : Int) (v9 : Int) : Option R :=
  bif (decide (v5 < (2 : Int))) then
    bif (decide (v3 > (0 : Int))) then
      f79.j0' L N self79 k v2 v3 v4 v5 v4 v6 v7 v8 v9
    else f79.j0' L N self79 k v2 v3 v4 v5 false v6 v7 v8 v9
  else f79.j0' L N self79 k v2 v3 v4 v5 false v6 v7 v8 v9
def f79.b' {R : Type} (L N : Nat) (self79 : LI → Int → Int → Int → Bool → Option (Tree × LI × Int)) (k : Tree → LI → Int → Option R) (c0 : LI) (c1 : Int) (x0 : Int) (x1 : Int) (x2 : Bool) : Option R :=
  (f35 L N c0 c1 (9 : Int)).bind fun y0 =>
  bif (x0 == (0 : Int)) then
    (f35 L N y0.2.1 y0.2.2 (2 : Int)).bind fun y1 =>
    f79.j1' L N self79 k x0 x1 x2 y1.1 y1.2.1 y1.2.2 (0 : Int) (0 : Int)
  else f79.j1' L N self79 k x0 x1 x2 y0.1 y0.2.1 y0.2.2 (0 : Int) (0 : Int)
def f79.b {R : Type} (L N : Nat) (self79 : LI → Int → Int → Int → Bool → Option (Tree × LI × Int)) (k : Tree → LI → Int → Option R) (c0 : LI) (c1 : Int) (x0 : Int) (x1 : Int) (x2 : Bool) : Option R :=
  f79.b' L N self79 k c0 c1 x0 x1 x2
def f79 (L N : Nat) : Nat → LI → Int → Int → Int → Bool → Option (Tree × LI × Int)
  | 0, _, _, _, _, _ => none
  | n + 1, c0, c1, x0, x1, x2 => f79.b L N (f79 L N n) (fun a0 a1 a2 => some (a0, a1, a2)) c0 c1 x0 x1 x2
def f79.ent (L N m : Nat) (args : List AV) (vw : View) (site : Nat) : Ans := match boxD [(.sl (.int .u8)), i64] [i64, i64, .bool] vw args with
  | some (o, d0, d, u) => ⟨Tree × LI × Int, f79 L N m d0.1 d0.2.1 d.1 d.2.1 d.2.2.1, fun y => ((.tv (.st 1) y.1), u ++ [(o, some (.box [(.tv (.sl (.int .u8)) y.2.1), (.tv i64 y.2.2)]))], [])⟩
  | none => Ans.no
def Φ79s (L N m : Nat) : Tells := (addT (Φ66 L N) 79 (f79.ent L N m))
noncomputable def E79 (L N m : Nat) : Env := { P := Tryz.prog, ty := tyOf, Φ := Φ79s L N m, inl := inlT, live := lives, liveX := livesX, L := L, dp := none, prom := promT, heal := healT, ren := renT }
theorem f79.b_eq {R : Type} (L N m : Nat) (κ : AV → Dens [(.sl (.int .u8)), i64] → Option R) (c0 : LI) (c1 : Int) (x0 : Int) (x1 : Int) (x2 : Bool) :
    evBody (E79 L N m) (evCallI (E79 L N m) 0 1000) 1000 79 Tryz.f79 [(.ptr 0 0), (.tv i64 x0), (.tv i64 x1), (.tv .bool x2)] [.ptr 0 0] [(0, (.box [(.tv (.sl (.int .u8)) c0), (.tv i64 c1)]))] (finM (.one (.st 1)) [(.sl (.int .u8)), i64] κ)
    = f79.b L N (f79 L N m) (fun a0 a1 a2 => κ (.tv (.st 1) a0) (a1, a2, ())) c0 c1 x0 x1 x2 := by kernel_rfl
theorem f79.ok (L N m : Nat) (hΦ : TellsOk Tryz.prog (Φ79s L N m)) : EntOk Tryz.prog 79 (f79.ent L N (m + 1)) := by
  intro args vw site h
  unfold f79.ent
  split
  · rename_i o d0 d u ha
    intro y hy hs
    obtain ⟨rest, cs, rfl, ho, hd0, hr, hu⟩ := boxD_some ha
    refine call_box (y := y) (dep := 1000) (v' := (.tv (.st 1) y.1)) (d1 := (y.2.1, y.2.2, ())) (E := (E79 L N m)) (ts := [(.sl (.int .u8)), i64]) (tr := [i64, i64, .bool]) (rs := (.one (.st 1))) (κ := (fun v d => (unR (.one (.st 1)) v).bind fun x => some (x, d.1, d.2.1))) (sound_of hΦ) okP (callI_sound (sound_of hΦ) okP 0 1000) (f := Tryz.f79) rfl hs ho hd0 hr hu ?_ (fun _ _ h => by obtain ⟨x, h1, h2⟩ := unR_bind h; obtain rfl := Option.some.inj h2; exact ⟨h1, rfl⟩) site
    exact (f79.b_eq L N m (fun v d => (unR (.one (.st 1)) v).bind fun x => some (x, d.1, d.2.1)) d0.1 d0.2.1 d.1 d.2.1 d.2.2.1).trans (Eq.trans (b := f79.b L N (f79 L N m) (fun a0 a1 a2 => some (a0, a1, a2)) d0.1 d0.2.1 d.1 d.2.1 d.2.2.1) (by kernel_rfl) hy)
  · intro y hy
    cases hy
theorem Φ79s_ok (L N : Nat) : ∀ m, TellsOk Tryz.prog (Φ79s L N m) := by
  intro m
  induction m with
  | zero => exact (addT_ok (Φ66_ok L N) (fun args vw site h => by unfold f79.ent; split <;> (intro y hy; cases hy)))
  | succ m ih => exact (addT_ok (Φ66_ok L N) (f79.ok L N m ih))
def Φ79 (L N : Nat) : Tells := (addT (Φ66 L N) 79 (f79.ent L N N))
theorem Φ79_ok (L N : Nat) : TellsOk Tryz.prog (Φ79 L N) := Φ79s_ok L N N
def f62.s0' {R : Type} (L N : Nat) (k0_e0 : Int → LI → Int → LT → Option R) (rec0 : Int → Int → LI → Int → LT → Option R) (s1 : Int) (s2 : Int) (s3 : LI) (s4 : Int) (s5 : LT) : Option R :=
  bif (decide (s2 < s1)) then
    (f35 L N s3 s4 (3 : Int)).bind fun y10 =>
    (f79 L N N y10.2.1 y10.2.2 (wi ((1 : Int) + y10.1)) s1 false).bind fun y11 =>
    bif (decide (s5.length + ([y11.1] : LT).length ≤ lim)) then
      rec0 s1 (wi (s2 + (1 : Int))) y11.2.1 y11.2.2 (s5 ++ ([y11.1] : LT))
    else none
  else k0_e0 s1 s3 s4 s5
def f62.s0 {R : Type} (L N : Nat) (k0_e0 : Int → LI → Int → LT → Option R) (rec0 : Int → Int → LI → Int → LT → Option R) (s1 : Int) (s2 : Int) (s3 : LI) (s4 : Int) (s5 : LT) : Option R :=
  f62.s0' L N k0_e0 rec0 s1 s2 s3 s4 s5
def f62.l0 {R : Type} (L N : Nat) (k0_e0 : Int → LI → Int → LT → Option R) : Nat → Int → Int → LI → Int → LT → Option R
  | 0, _, _, _, _, _ => none
  | n + 1, s1, s2, s3, s4, s5 => f62.s0 L N k0_e0 (f62.l0 L N k0_e0 n) s1 s2 s3 s4 s5
def f62.T0 (s1 : Int) (s2 : Int) (s3 : LI) (s4 : Int) (s5 : LT) : T := mkT 41 [(0, (.ptr 0 0)), (3, (.tv i64 s1)), (4, (.row 1008)), (5, (.tv i64 s2))] ++ [.ptr 0 0]
def f62.H0 (s1 : Int) (s2 : Int) (s3 : LI) (s4 : Int) (s5 : LT) : H := [(0, (.box [(.tv (.sl (.int .u8)) s3), (.tv i64 s4)])), (1008, (.row 63 (.st 1) s5))]
def f62.T0_e0 (z6 : Int) (z7 : LI) (z8 : Int) (z9 : LT) : T := mkT 41 [(0, (.ptr 0 0)), (3, (.tv i64 z6)), (4, (.row 1008))] ++ [.ptr 0 0]
def f62.H0_e0 (z6 : Int) (z7 : LI) (z8 : Int) (z9 : LT) : H := [(0, (.box [(.tv (.sl (.int .u8)) z7), (.tv i64 z8)])), (1008, (.row 63 (.st 1) z9))]
def f62.j0' {R : Type} (L N : Nat) (k : LT → LI → Int → Option R) (v13 : Int) (v14 : Bool) (v15 : LI) (v16 : Int) (v17 : LT) : Option R :=
  bif v14 then
    (f35 L N v15 v16 v13).bind fun y18 =>
    (f35 L N y18.2.1 y18.2.2 (wi (v13 + (1 : Int)))).bind fun y19 =>
    bif (decide (0 ≤ y18.1) && decide (y18.1 < (v17.length : Int))) then
      k (v17.set y18.1.toNat (Tree.mk (5 : Int) y19.1 [])) y19.2.1 y19.2.2
    else none
  else k v17 v15 v16
def f62.p0_e0' {R : Type} (L N : Nat) (k : LT → LI → Int → Option R) (z6 : Int) (z7 : LI) (z8 : Int) (z9 : LT) : Option R :=
  bif (decide (z6 > (0 : Int))) then
    (f35 L N z7 z8 (20 : Int)).bind fun y12 =>
    f62.j0' L N k z6 (y12.1 == (0 : Int)) y12.2.1 y12.2.2 z9
  else f62.j0' L N k z6 false z7 z8 z9
def f62.p0_e0 {R : Type} (L N : Nat) (k : LT → LI → Int → Option R) (z6 : Int) (z7 : LI) (z8 : Int) (z9 : LT) : Option R :=
  f62.p0_e0' L N k z6 z7 z8 z9
def f62.b' {R : Type} (L N : Nat) (k : LT → LI → Int → Option R) (w0 : Int → Int → LI → Int → LT → Option R) (c0 : LI) (c1 : Int) : Option R :=
  (f35 L N c0 c1 (4 : Int)).bind fun y0 =>
  w0 y0.1 (0 : Int) y0.2.1 y0.2.2 ([] : LT)
def f62.b {R : Type} (L N : Nat) (k : LT → LI → Int → Option R) (c0 : LI) (c1 : Int) : Option R :=
  f62.b' L N k (fun s1 s2 s3 s4 s5 => f62.l0 L N (fun z6 z7 z8 z9 => f62.p0_e0 L N k z6 z7 z8 z9) L s1 s2 s3 s4 s5) c0 c1
def f62 (L N : Nat) (c0 : LI) (c1 : Int) : Option (LT × LI × Int) := f62.b L N (fun a0 a1 a2 => some (a0, a1, a2)) c0 c1
def f62.ent (L N : Nat) (args : List AV) (vw : View) (site : Nat) : Ans := match boxD [(.sl (.int .u8)), i64] [] vw args with
  | some (o, d0, d, u) => ⟨LT × LI × Int, f62 L N d0.1 d0.2.1, fun y => ((.tv (.sl (.st 1)) y.1), u ++ [(o, some (.box [(.tv (.sl (.int .u8)) y.2.1), (.tv i64 y.2.2)]))], [])⟩
  | none => Ans.no
noncomputable def E62 (L N : Nat) : Env := { P := Tryz.prog, ty := tyOf, Φ := (Φ79 L N), inl := inlT, live := lives, liveX := livesX, L := L, dp := none, prom := promT, heal := healT, ren := renT }
noncomputable def f62.c0 : Code := loopAt 0 (codeOf Tryz.f62)
theorem f62.s0_eq {R : Type} (L N : Nat) (κ : Ex → T → H → Option R) (rec : T → H → Option R) (s1 : Int) (s2 : Int) (s3 : LI) (s4 : Int) (s5 : LT) :
    evRd (E62 L N) (evCallI (E62 L N) 0 1000) 1000 62 41 0 f62.c0 κ rec (f62.T0 s1 s2 s3 s4 s5) (f62.H0 s1 s2 s3 s4 s5)
    = f62.s0 L N (fun z6 z7 z8 z9 => κ (.exit 0) (f62.T0_e0 z6 z7 z8 z9) (f62.H0_e0 z6 z7 z8 z9)) (fun s1 s2 s3 s4 s5 => rec (f62.T0 s1 s2 s3 s4 s5) (f62.H0 s1 s2 s3 s4 s5)) s1 s2 s3 s4 s5 := by kernel_rfl
theorem f62.l0_eq {R : Type} (L N : Nat) (κ : Ex → T → H → Option R) : ∀ (n : Nat) (s1 : Int) (s2 : Int) (s3 : LI) (s4 : Int) (s5 : LT),
    evLp (E62 L N) (evCallI (E62 L N) 0 1000) 1000 62 41 0 f62.c0 κ n (f62.T0 s1 s2 s3 s4 s5) (f62.H0 s1 s2 s3 s4 s5)
    = f62.l0 L N (fun z6 z7 z8 z9 => κ (.exit 0) (f62.T0_e0 z6 z7 z8 z9) (f62.H0_e0 z6 z7 z8 z9)) n s1 s2 s3 s4 s5 := by
  intro n
  induction n with
  | zero => intros; rfl
  | succ n ih =>
    intro s1 s2 s3 s4 s5
    rw [evLp_succ, f62.s0_eq]
    simp only [ih]
    rfl
theorem f62.p0_e0_eq {R : Type} (L N : Nat) (κ : AV → Dens [(.sl (.int .u8)), i64] → Option R) (z6 : Int) (z7 : LI) (z8 : Int) (z9 : LT) :
    (contAt (E62 L N) (evCallI (E62 L N) 0 1000) 1000 62 41 0 (codeOf Tryz.f62) (finK (E62 L N) 1000 Tryz.f62 (finM (.one (.sl (.st 1))) [(.sl (.int .u8)), i64] κ))) (.exit 0) (f62.T0_e0 z6 z7 z8 z9) (f62.H0_e0 z6 z7 z8 z9)
    = f62.p0_e0 L N (fun a0 a1 a2 => κ (.tv (.sl (.st 1)) a0) (a1, a2, ())) z6 z7 z8 z9 := by kernel_rfl
theorem f62.b_eq {R : Type} (L N : Nat) (κ : AV → Dens [(.sl (.int .u8)), i64] → Option R) (c0 : LI) (c1 : Int) :
    evBody (E62 L N) (evCallI (E62 L N) 0 1000) 1000 62 Tryz.f62 [(.ptr 0 0)] [.ptr 0 0] [(0, (.box [(.tv (.sl (.int .u8)) c0), (.tv i64 c1)]))] (finM (.one (.sl (.st 1))) [(.sl (.int .u8)), i64] κ)
    = f62.b L N (fun a0 a1 a2 => κ (.tv (.sl (.st 1)) a0) (a1, a2, ())) c0 c1 := by
  refine Eq.trans (b := f62.b' L N (fun a0 a1 a2 => κ (.tv (.sl (.st 1)) a0) (a1, a2, ())) (fun s1 s2 s3 s4 s5 => evLp (E62 L N) (evCallI (E62 L N) 0 1000) 1000 62 41 0 f62.c0 (contAt (E62 L N) (evCallI (E62 L N) 0 1000) 1000 62 41 0 (codeOf Tryz.f62) (finK (E62 L N) 1000 Tryz.f62 (finM (.one (.sl (.st 1))) [(.sl (.int .u8)), i64] κ))) L (f62.T0 s1 s2 s3 s4 s5) (f62.H0 s1 s2 s3 s4 s5)) c0 c1) (by kernel_rfl) ?_
  unfold f62.b
  simp only [f62.l0_eq, f62.p0_e0_eq]
theorem f62.ok (L N : Nat) (hΦ : TellsOk Tryz.prog ((Φ79 L N))) : EntOk Tryz.prog 62 (f62.ent L N) := by
  intro args vw site h
  unfold f62.ent
  split
  · rename_i o d0 d u ha
    intro y hy hs
    obtain ⟨rest, cs, rfl, ho, hd0, hr, hu⟩ := boxD_some ha
    refine call_box (y := y) (dep := 1000) (v' := (.tv (.sl (.st 1)) y.1)) (d1 := (y.2.1, y.2.2, ())) (E := (E62 L N)) (ts := [(.sl (.int .u8)), i64]) (tr := []) (rs := (.one (.sl (.st 1)))) (κ := (fun v d => (unR (.one (.sl (.st 1))) v).bind fun x => some (x, d.1, d.2.1))) (sound_of hΦ) okP (callI_sound (sound_of hΦ) okP 0 1000) (f := Tryz.f62) rfl hs ho hd0 hr hu ?_ (fun _ _ h => by obtain ⟨x, h1, h2⟩ := unR_bind h; obtain rfl := Option.some.inj h2; exact ⟨h1, rfl⟩) site
    exact (f62.b_eq L N (fun v d => (unR (.one (.sl (.st 1))) v).bind fun x => some (x, d.1, d.2.1)) d0.1 d0.2.1).trans (Eq.trans (b := f62.b L N (fun a0 a1 a2 => some (a0, a1, a2)) d0.1 d0.2.1) (by kernel_rfl) hy)
  · intro y hy
    cases hy
def Φ62 (L N : Nat) : Tells := (addT (Φ79 L N) 62 (f62.ent L N))
theorem Φ62_ok (L N : Nat) : TellsOk Tryz.prog (Φ62 L N) := addT_ok (Φ79_ok L N) (f62.ok L N (Φ79_ok L N))
def f63.b' {R : Type} (L N : Nat) (k : Tree → LI → Int → Option R) (c0 : LI) (c1 : Int) (x0 : Int) : Option R :=
  (f35 L N c0 c1 (4 : Int)).bind fun y0 =>
  (f79 L N N y0.2.1 y0.2.2 (wi ((1 : Int) + y0.1)) x0 false).bind fun y1 =>
  (f35 L N y1.2.1 y1.2.2 (24 : Int)).bind fun y2 =>
  bif (y2.1 == (0 : Int)) then
    k (Tree.mk ((Tree.mk y1.1.op (wi (y1.1.n + (7 : Int))) y1.1.parts).op) ((Tree.mk y1.1.op (wi (y1.1.n + (7 : Int))) y1.1.parts).n) ((Tree.mk y1.1.op (wi (y1.1.n + (7 : Int))) y1.1.parts).parts)) y2.2.1 y2.2.2
  else bif (y2.1 == (1 : Int)) then
    (f35 L N y2.2.1 y2.2.2 (8 : Int)).bind fun y3 =>
    k (Tree.mk ((Tree.mk y3.1 y1.1.n y1.1.parts).op) ((Tree.mk y3.1 y1.1.n y1.1.parts).n) ((Tree.mk y3.1 y1.1.n y1.1.parts).parts)) y3.2.1 y3.2.2
  else bif (y2.1 == (2 : Int)) then
    bif (decide (([(Tree.mk (0 : Int) (0 : Int) [])] : LT).length + y1.1.parts.length ≤ lim)) then
      k (Tree.mk y1.1.op y1.1.n (([(Tree.mk (0 : Int) (0 : Int) [])] : LT) ++ y1.1.parts)) y2.2.1 y2.2.2
    else none
  else k (Tree.mk ((Tree.mk y1.1.op y1.1.n y1.1.parts).op) ((Tree.mk y1.1.op y1.1.n y1.1.parts).n) ((Tree.mk y1.1.op y1.1.n y1.1.parts).parts)) y2.2.1 y2.2.2
def f63.b {R : Type} (L N : Nat) (k : Tree → LI → Int → Option R) (c0 : LI) (c1 : Int) (x0 : Int) : Option R :=
  f63.b' L N k c0 c1 x0
def f63 (L N : Nat) (c0 : LI) (c1 : Int) (x0 : Int) : Option (Tree × LI × Int) := f63.b L N (fun a0 a1 a2 => some (a0, a1, a2)) c0 c1 x0
def f63.ent (L N : Nat) (args : List AV) (vw : View) (site : Nat) : Ans := match boxD [(.sl (.int .u8)), i64] [i64] vw args with
  | some (o, d0, d, u) => ⟨Tree × LI × Int, f63 L N d0.1 d0.2.1 d.1, fun y => ((.tv (.st 1) y.1), u ++ [(o, some (.box [(.tv (.sl (.int .u8)) y.2.1), (.tv i64 y.2.2)]))], [])⟩
  | none => Ans.no
noncomputable def E63 (L N : Nat) : Env := { P := Tryz.prog, ty := tyOf, Φ := (Φ62 L N), inl := inlT, live := lives, liveX := livesX, L := L, dp := none, prom := promT, heal := healT, ren := renT }
theorem f63.b_eq {R : Type} (L N : Nat) (κ : AV → Dens [(.sl (.int .u8)), i64] → Option R) (c0 : LI) (c1 : Int) (x0 : Int) :
    evBody (E63 L N) (evCallI (E63 L N) 0 1000) 1000 63 Tryz.f63 [(.ptr 0 0), (.tv i64 x0)] [.ptr 0 0] [(0, (.box [(.tv (.sl (.int .u8)) c0), (.tv i64 c1)]))] (finM (.one (.st 1)) [(.sl (.int .u8)), i64] κ)
    = f63.b L N (fun a0 a1 a2 => κ (.tv (.st 1) a0) (a1, a2, ())) c0 c1 x0 := by kernel_rfl
theorem f63.ok (L N : Nat) (hΦ : TellsOk Tryz.prog ((Φ62 L N))) : EntOk Tryz.prog 63 (f63.ent L N) := by
  intro args vw site h
  unfold f63.ent
  split
  · rename_i o d0 d u ha
    intro y hy hs
    obtain ⟨rest, cs, rfl, ho, hd0, hr, hu⟩ := boxD_some ha
    refine call_box (y := y) (dep := 1000) (v' := (.tv (.st 1) y.1)) (d1 := (y.2.1, y.2.2, ())) (E := (E63 L N)) (ts := [(.sl (.int .u8)), i64]) (tr := [i64]) (rs := (.one (.st 1))) (κ := (fun v d => (unR (.one (.st 1)) v).bind fun x => some (x, d.1, d.2.1))) (sound_of hΦ) okP (callI_sound (sound_of hΦ) okP 0 1000) (f := Tryz.f63) rfl hs ho hd0 hr hu ?_ (fun _ _ h => by obtain ⟨x, h1, h2⟩ := unR_bind h; obtain rfl := Option.some.inj h2; exact ⟨h1, rfl⟩) site
    exact (f63.b_eq L N (fun v d => (unR (.one (.st 1)) v).bind fun x => some (x, d.1, d.2.1)) d0.1 d0.2.1 d.1).trans (Eq.trans (b := f63.b L N (fun a0 a1 a2 => some (a0, a1, a2)) d0.1 d0.2.1 d.1) (by kernel_rfl) hy)
  · intro y hy
    cases hy
def Φ63 (L N : Nat) : Tells := (addT (Φ62 L N) 63 (f63.ent L N))
theorem Φ63_ok (L N : Nat) : TellsOk Tryz.prog (Φ63 L N) := addT_ok (Φ62_ok L N) (f63.ok L N (Φ62_ok L N))
def f36.j0' {R : Type} (L N : Nat) (k : Tree → LT → LI → Int → Option R) (v3 : LT) (v4 : Bool) (v5 : LI) (v6 : Int) (v7 : Int) (v8 : Int) (v9 : Int) (v10 : Int) (v11 : LT) : Option R :=
  bif v4 then
    (f35 L N v5 v6 (v3.length : Int)).bind fun y12 =>
    k (Tree.mk (5 : Int) y12.1 []) v3 y12.2.1 y12.2.2
  else k (Tree.mk ((Tree.mk v9 v10 v11).op) ((Tree.mk v9 v10 v11).n) ((Tree.mk v9 v10 v11).parts)) v3 v5 v6
def f36.b' {R : Type} (L N : Nat) (k : Tree → LT → LI → Int → Option R) (c0 : LI) (c1 : Int) : Option R :=
  (f62 L N c0 c1).bind fun y0 =>
  (f63 L N y0.2.1 y0.2.2 (y0.1.length : Int)).bind fun y1 =>
  bif (decide ((y0.1.length : Int) > (0 : Int))) then
    (f35 L N y1.2.1 y1.2.2 (3 : Int)).bind fun y2 =>
    f36.j0' L N k y0.1 (y2.1 == (0 : Int)) y2.2.1 y2.2.2 (0 : Int) (0 : Int) y1.1.op y1.1.n y1.1.parts
  else f36.j0' L N k y0.1 false y1.2.1 y1.2.2 (0 : Int) (0 : Int) y1.1.op y1.1.n y1.1.parts
def f36.b {R : Type} (L N : Nat) (k : Tree → LT → LI → Int → Option R) (c0 : LI) (c1 : Int) : Option R :=
  f36.b' L N k c0 c1
def f36 (L N : Nat) (c0 : LI) (c1 : Int) : Option (Tree × LT × LI × Int) := f36.b L N (fun a0 a1 a2 a3 => some (a0, a1, a2, a3)) c0 c1
def f36.ent (L N : Nat) (args : List AV) (vw : View) (site : Nat) : Ans := match boxD [(.sl (.int .u8)), i64] [] vw args with
  | some (o, d0, d, u) => ⟨Tree × LT × LI × Int, f36 L N d0.1 d0.2.1, fun y => ((.tup [(.tv (.st 1) y.1), (.tv (.sl (.st 1)) y.2.1)]), u ++ [(o, some (.box [(.tv (.sl (.int .u8)) y.2.2.1), (.tv i64 y.2.2.2)]))], [])⟩
  | none => Ans.no
noncomputable def E36 (L N : Nat) : Env := { P := Tryz.prog, ty := tyOf, Φ := (Φ63 L N), inl := inlT, live := lives, liveX := livesX, L := L, dp := none, prom := promT, heal := healT, ren := renT }
theorem f36.b_eq {R : Type} (L N : Nat) (κ : AV → Dens [(.sl (.int .u8)), i64] → Option R) (c0 : LI) (c1 : Int) :
    evBody (E36 L N) (evCallI (E36 L N) 0 1000) 1000 36 Tryz.f36 [(.ptr 0 0)] [.ptr 0 0] [(0, (.box [(.tv (.sl (.int .u8)) c0), (.tv i64 c1)]))] (finM (.many [(.st 1), (.sl (.st 1))]) [(.sl (.int .u8)), i64] κ)
    = f36.b L N (fun a0 a1 a2 a3 => κ (.tup [(.tv (.st 1) a0), (.tv (.sl (.st 1)) a1)]) (a2, a3, ())) c0 c1 := by kernel_rfl
theorem f36.ok (L N : Nat) (hΦ : TellsOk Tryz.prog ((Φ63 L N))) : EntOk Tryz.prog 36 (f36.ent L N) := by
  intro args vw site h
  unfold f36.ent
  split
  · rename_i o d0 d u ha
    intro y hy hs
    obtain ⟨rest, cs, rfl, ho, hd0, hr, hu⟩ := boxD_some ha
    refine call_box (y := y) (dep := 1000) (v' := (.tup [(.tv (.st 1) y.1), (.tv (.sl (.st 1)) y.2.1)])) (d1 := (y.2.2.1, y.2.2.2, ())) (E := (E36 L N)) (ts := [(.sl (.int .u8)), i64]) (tr := []) (rs := (.many [(.st 1), (.sl (.st 1))])) (κ := (fun v d => (unR (.many [(.st 1), (.sl (.st 1))]) v).bind fun x => some (x.1, x.2, d.1, d.2.1))) (sound_of hΦ) okP (callI_sound (sound_of hΦ) okP 0 1000) (f := Tryz.f36) rfl hs ho hd0 hr hu ?_ (fun _ _ h => by obtain ⟨x, h1, h2⟩ := unR_bind h; obtain rfl := Option.some.inj h2; exact ⟨h1, rfl⟩) site
    exact (f36.b_eq L N (fun v d => (unR (.many [(.st 1), (.sl (.st 1))]) v).bind fun x => some (x.1, x.2, d.1, d.2.1)) d0.1 d0.2.1).trans (Eq.trans (b := f36.b L N (fun a0 a1 a2 a3 => some (a0, a1, a2, a3)) d0.1 d0.2.1) (by kernel_rfl) hy)
  · intro y hy
    cases hy
def Φ36 (L N : Nat) : Tells := (addT (Φ63 L N) 36 (f36.ent L N))
theorem Φ36_ok (L N : Nat) : TellsOk Tryz.prog (Φ36 L N) := addT_ok (Φ63_ok L N) (f36.ok L N (Φ63_ok L N))
def f40.b' {R : Type} (L N : Nat) (k : Bool → Option R) (x0 : Int) (x1 : Int) (x2 : Int) : Option R :=
  bif (decide (x0 ≥ x1)) then
    k (decide (x0 ≤ x2))
  else k false
def f40.b {R : Type} (L N : Nat) (k : Bool → Option R) (x0 : Int) (x1 : Int) (x2 : Int) : Option R :=
  f40.b' L N k x0 x1 x2
def f40 (L N : Nat) (x0 : Int) (x1 : Int) (x2 : Int) : Option (Bool) := f40.b L N some x0 x1 x2
def f40.ent (L N : Nat) (args : List AV) (vw : View) (site : Nat) : Ans := match roD [i64, i64, i64] vw args with
  | some d => ⟨Bool, f40 L N d.1 d.2.1 d.2.2.1, fun y => ((.tv .bool y), [], [])⟩
  | none => Ans.no
noncomputable def E40 (L N : Nat) : Env := { P := Tryz.prog, ty := tyOf, Φ := (Φ36 L N), inl := inlT, live := lives, liveX := livesX, L := L, dp := none, prom := promT, heal := healT, ren := renT }
theorem f40.b_eq {R : Type} (L N : Nat) (κ : AV → Option R) (x0 : Int) (x1 : Int) (x2 : Int) :
    evBody (E40 L N) (evCallI (E40 L N) 0 1000) 1000 40 Tryz.f40 [(.tv i64 x0), (.tv i64 x1), (.tv i64 x2)] [] [] (finC (.one .bool) κ)
    = f40.b L N (fun a0 => κ (.tv .bool a0)) x0 x1 x2 := by kernel_rfl
theorem f40.ok (L N : Nat) (hΦ : TellsOk Tryz.prog ((Φ36 L N))) : EntOk Tryz.prog 40 (f40.ent L N) := by
  intro args vw site h
  unfold f40.ent
  split
  · rename_i d ha
    intro y hy hs
    refine call_ro (dep := 1000) (E := (E40 L N)) (rs := (.one .bool)) (κ := unR (.one .bool)) (sound_of hΦ) okP (callI_sound (sound_of hΦ) okP 0 1000) (f := Tryz.f40) rfl hs ha ?_ (fun _ h => unR_some h) rfl site
    exact (f40.b_eq L N (unR (.one .bool)) d.1 d.2.1 d.2.2.1).trans (Eq.trans (b := f40.b L N some d.1 d.2.1 d.2.2.1) (by kernel_rfl) hy)
  · intro y hy
    cases hy
def Φ40 (L N : Nat) : Tells := (addT (Φ36 L N) 40 (f40.ent L N))
theorem Φ40_ok (L N : Nat) : TellsOk Tryz.prog (Φ40 L N) := addT_ok (Φ36_ok L N) (f40.ok L N (Φ36_ok L N))
def f101.j0' {R : Type} (L N : Nat) (self101 : Tree → Bool → Option (Int)) (k0_e0 : Int → Option R) (rec0 : Bool → Int → Int → Int → Int → LT → Option R) (v14 : Bool) (v15 : Int) (v16 : Int) (v17 : Int) (v18 : Int) (v19 : LT) : Option R :=
  bif (decide (0 ≤ v16) && decide (v16 < (v19.length : Int))) then
    (self101 (listAt v19 (Ty.dflt (.st 1)) v16.toNat) v14).bind fun y20 =>
    rec0 v14 (bif decide (y20 > v15) then y20 else v15) (wi (v16 + (1 : Int))) v17 v18 v19
  else none
def f101.s0' {R : Type} (L N : Nat) (self101 : Tree → Bool → Option (Int)) (k0_e0 : Int → Option R) (rec0 : Bool → Int → Int → Int → Int → LT → Option R) (s0 : Bool) (s1 : Int) (s2 : Int) (s3 : Int) (s4 : Int) (s5 : LT) : Option R :=
  bif (decide (s2 < (s5.length : Int))) then
    bif s0 then
      bif (!(s3 == (1 : Int))) then
        f101.j0' L N self101 k0_e0 rec0 s0 s1 s2 s3 s4 s5
      else k0_e0 s1
    else bif (!false) then
      f101.j0' L N self101 k0_e0 rec0 s0 s1 s2 s3 s4 s5
    else k0_e0 s1
  else k0_e0 s1
def f101.s0 {R : Type} (L N : Nat) (self101 : Tree → Bool → Option (Int)) (k0_e0 : Int → Option R) (rec0 : Bool → Int → Int → Int → Int → LT → Option R) (s0 : Bool) (s1 : Int) (s2 : Int) (s3 : Int) (s4 : Int) (s5 : LT) : Option R :=
  f101.s0' L N self101 k0_e0 rec0 s0 s1 s2 s3 s4 s5
def f101.l0 {R : Type} (L N : Nat) (self101 : Tree → Bool → Option (Int)) (k0_e0 : Int → Option R) : Nat → Bool → Int → Int → Int → Int → LT → Option R
  | 0, _, _, _, _, _, _ => none
  | n + 1, s0, s1, s2, s3, s4, s5 => f101.s0 L N self101 k0_e0 (f101.l0 L N self101 k0_e0 n) s0 s1 s2 s3 s4 s5
def f101.T0 (s0 : Bool) (s1 : Int) (s2 : Int) (s3 : Int) (s4 : Int) (s5 : LT) : T := mkT 38 [(1, (.tv .bool s0)), (2, (.ptr 1002 0)), (5, (.tv i64 s1)), (6, (.tv i64 s2))]
def f101.H0 (s0 : Bool) (s1 : Int) (s2 : Int) (s3 : Int) (s4 : Int) (s5 : LT) : H := [(1002, (.box [(.tv i64 s3), (.tv i64 s4), (.tv (.sl (.st 1)) s5)]))]
def f101.T0_e0 (z13 : Int) : T := mkT 38 [(5, (.tv i64 z13))]
def f101.H0_e0 (z13 : Int) : H := []
def f101.p0_e0' {R : Type} (L N : Nat) (self101 : Tree → Bool → Option (Int)) (k : Int → Option R) (z13 : Int) : Option R :=
  k z13
def f101.p0_e0 {R : Type} (L N : Nat) (self101 : Tree → Bool → Option (Int)) (k : Int → Option R) (z13 : Int) : Option R :=
  f101.p0_e0' L N self101 k z13
def f101.b' {R : Type} (L N : Nat) (self101 : Tree → Bool → Option (Int)) (k : Int → Option R) (w0 : Bool → Int → Int → Int → Int → LT → Option R) (x0 : Tree) (x1 : Bool) : Option R :=
  bif (x0.op == (5 : Int)) then
    k x0.n
  else w0 x1 (-1 : Int) (0 : Int) x0.op x0.n x0.parts
def f101.b {R : Type} (L N : Nat) (self101 : Tree → Bool → Option (Int)) (k : Int → Option R) (x0 : Tree) (x1 : Bool) : Option R :=
  f101.b' L N self101 k (fun s0 s1 s2 s3 s4 s5 => f101.l0 L N self101 (fun z13 => f101.p0_e0 L N self101 k z13) L s0 s1 s2 s3 s4 s5) x0 x1
def f101 (L N : Nat) : Nat → Tree → Bool → Option (Int)
  | 0, _, _ => none
  | n + 1, x0, x1 => f101.b L N (f101 L N n) some x0 x1
def f101.ent (L N m : Nat) (args : List AV) (vw : View) (site : Nat) : Ans := match roD [(.st 1), .bool] vw args with
  | some d => ⟨Int, f101 L N m d.1 d.2.1, fun y => ((.tv i64 y), [], [])⟩
  | none => Ans.no
def Φ101s (L N m : Nat) : Tells := (addT (Φ40 L N) 101 (f101.ent L N m))
noncomputable def E101 (L N m : Nat) : Env := { P := Tryz.prog, ty := tyOf, Φ := Φ101s L N m, inl := inlT, live := lives, liveX := livesX, L := L, dp := none, prom := promT, heal := healT, ren := renT }
noncomputable def f101.c0 : Code := loopAt 0 (codeOf Tryz.f101)
theorem f101.s0_eq {R : Type} (L N m : Nat) (κ : Ex → T → H → Option R) (rec : T → H → Option R) (s0 : Bool) (s1 : Int) (s2 : Int) (s3 : Int) (s4 : Int) (s5 : LT) :
    evRd (E101 L N m) (evCallI (E101 L N m) 0 1000) 1000 101 38 0 f101.c0 κ rec (f101.T0 s0 s1 s2 s3 s4 s5) (f101.H0 s0 s1 s2 s3 s4 s5)
    = f101.s0 L N (f101 L N m) (fun z13 => κ (.exit 0) (f101.T0_e0 z13) (f101.H0_e0 z13)) (fun s0 s1 s2 s3 s4 s5 => rec (f101.T0 s0 s1 s2 s3 s4 s5) (f101.H0 s0 s1 s2 s3 s4 s5)) s0 s1 s2 s3 s4 s5 := by kernel_rfl
theorem f101.l0_eq {R : Type} (L N m : Nat) (κ : Ex → T → H → Option R) : ∀ (n : Nat) (s0 : Bool) (s1 : Int) (s2 : Int) (s3 : Int) (s4 : Int) (s5 : LT),
    evLp (E101 L N m) (evCallI (E101 L N m) 0 1000) 1000 101 38 0 f101.c0 κ n (f101.T0 s0 s1 s2 s3 s4 s5) (f101.H0 s0 s1 s2 s3 s4 s5)
    = f101.l0 L N (f101 L N m) (fun z13 => κ (.exit 0) (f101.T0_e0 z13) (f101.H0_e0 z13)) n s0 s1 s2 s3 s4 s5 := by
  intro n
  induction n with
  | zero => intros; rfl
  | succ n ih =>
    intro s0 s1 s2 s3 s4 s5
    rw [evLp_succ, f101.s0_eq]
    simp only [ih]
    rfl
theorem f101.p0_e0_eq {R : Type} (L N m : Nat) (κ : AV → Option R) (z13 : Int) :
    (contAt (E101 L N m) (evCallI (E101 L N m) 0 1000) 1000 101 38 0 (codeOf Tryz.f101) (finK (E101 L N m) 1000 Tryz.f101 (finC (.one i64) κ))) (.exit 0) (f101.T0_e0 z13) (f101.H0_e0 z13)
    = f101.p0_e0 L N (f101 L N m) (fun a0 => κ (.tv i64 a0)) z13 := by kernel_rfl
theorem f101.b_eq {R : Type} (L N m : Nat) (κ : AV → Option R) (x0 : Tree) (x1 : Bool) :
    evBody (E101 L N m) (evCallI (E101 L N m) 0 1000) 1000 101 Tryz.f101 [(.tv (.st 1) x0), (.tv .bool x1)] [] [] (finC (.one i64) κ)
    = f101.b L N (f101 L N m) (fun a0 => κ (.tv i64 a0)) x0 x1 := by
  refine Eq.trans (b := f101.b' L N (f101 L N m) (fun a0 => κ (.tv i64 a0)) (fun s0 s1 s2 s3 s4 s5 => evLp (E101 L N m) (evCallI (E101 L N m) 0 1000) 1000 101 38 0 f101.c0 (contAt (E101 L N m) (evCallI (E101 L N m) 0 1000) 1000 101 38 0 (codeOf Tryz.f101) (finK (E101 L N m) 1000 Tryz.f101 (finC (.one i64) κ))) L (f101.T0 s0 s1 s2 s3 s4 s5) (f101.H0 s0 s1 s2 s3 s4 s5)) x0 x1) (by kernel_rfl) ?_
  unfold f101.b
  simp only [f101.l0_eq, f101.p0_e0_eq]
theorem f101.ok (L N m : Nat) (hΦ : TellsOk Tryz.prog (Φ101s L N m)) : EntOk Tryz.prog 101 (f101.ent L N (m + 1)) := by
  intro args vw site h
  unfold f101.ent
  split
  · rename_i d ha
    intro y hy hs
    refine call_ro (dep := 1000) (E := (E101 L N m)) (rs := (.one i64)) (κ := unR (.one i64)) (sound_of hΦ) okP (callI_sound (sound_of hΦ) okP 0 1000) (f := Tryz.f101) rfl hs ha ?_ (fun _ h => unR_some h) rfl site
    exact (f101.b_eq L N m (unR (.one i64)) d.1 d.2.1).trans (Eq.trans (b := f101.b L N (f101 L N m) some d.1 d.2.1) (by kernel_rfl) hy)
  · intro y hy
    cases hy
theorem Φ101s_ok (L N : Nat) : ∀ m, TellsOk Tryz.prog (Φ101s L N m) := by
  intro m
  induction m with
  | zero => exact (addT_ok (Φ40_ok L N) (fun args vw site h => by unfold f101.ent; split <;> (intro y hy; cases hy)))
  | succ m ih => exact (addT_ok (Φ40_ok L N) (f101.ok L N m ih))
def Φ101 (L N : Nat) : Tells := (addT (Φ40 L N) 101 (f101.ent L N N))
theorem Φ101_ok (L N : Nat) : TellsOk Tryz.prog (Φ101 L N) := Φ101s_ok L N N
def f41.b' {R : Type} (L N : Nat) (k : Bool → Option R) (x0 : Int) : Option R :=
  (f40 L N x0 (-4 : Int) (4 : Int)).bind fun y0 =>
  k y0
def f41.b {R : Type} (L N : Nat) (k : Bool → Option R) (x0 : Int) : Option R :=
  f41.b' L N k x0
def f41 (L N : Nat) (x0 : Int) : Option (Bool) := f41.b L N some x0
def f41.ent (L N : Nat) (args : List AV) (vw : View) (site : Nat) : Ans := match roD [i64] vw args with
  | some d => ⟨Bool, f41 L N d.1, fun y => ((.tv .bool y), [], [])⟩
  | none => Ans.no
noncomputable def E41 (L N : Nat) : Env := { P := Tryz.prog, ty := tyOf, Φ := (Φ101 L N), inl := inlT, live := lives, liveX := livesX, L := L, dp := none, prom := promT, heal := healT, ren := renT }
theorem f41.b_eq {R : Type} (L N : Nat) (κ : AV → Option R) (x0 : Int) :
    evBody (E41 L N) (evCallI (E41 L N) 0 1000) 1000 41 Tryz.f41 [(.tv i64 x0)] [] [] (finC (.one .bool) κ)
    = f41.b L N (fun a0 => κ (.tv .bool a0)) x0 := by kernel_rfl
theorem f41.ok (L N : Nat) (hΦ : TellsOk Tryz.prog ((Φ101 L N))) : EntOk Tryz.prog 41 (f41.ent L N) := by
  intro args vw site h
  unfold f41.ent
  split
  · rename_i d ha
    intro y hy hs
    refine call_ro (dep := 1000) (E := (E41 L N)) (rs := (.one .bool)) (κ := unR (.one .bool)) (sound_of hΦ) okP (callI_sound (sound_of hΦ) okP 0 1000) (f := Tryz.f41) rfl hs ha ?_ (fun _ h => unR_some h) rfl site
    exact (f41.b_eq L N (unR (.one .bool)) d.1).trans (Eq.trans (b := f41.b L N some d.1) (by kernel_rfl) hy)
  · intro y hy
    cases hy
def Φ41 (L N : Nat) : Tells := (addT (Φ101 L N) 41 (f41.ent L N))
theorem Φ41_ok (L N : Nat) : TellsOk Tryz.prog (Φ41 L N) := addT_ok (Φ101_ok L N) (f41.ok L N (Φ101_ok L N))
def f84.s0' {R : Type} (L N : Nat) (self84 : Tree → Option (Int)) (k0_e1 : Int → Option R) (k0_r : Int → Int → Option R) (rec0 : Int → Int → Int → Int → Int → LT → Option R) (s24 : Int) (s25 : Int) (s26 : Int) (s27 : Int) (s28 : Int) (s29 : LT) : Option R :=
  bif (decide (s26 < s24)) then
    bif (decide (0 ≤ s26) && decide (s26 < (s29.length : Int))) then
      (self84 (listAt s29 (Ty.dflt (.st 1)) s26.toNat)).bind fun y31 =>
      bif (y31 == (0 : Int)) then
        k0_r (0 : Int) s25
      else rec0 s24 (bif decide ((wi (s25 + y31)) < (1000 : Int)) then (wi (s25 + y31)) else (1000 : Int)) (wi (s26 + (1 : Int))) s27 s28 s29
    else none
  else k0_e1 s25
def f84.s0 {R : Type} (L N : Nat) (self84 : Tree → Option (Int)) (k0_e1 : Int → Option R) (k0_r : Int → Int → Option R) (rec0 : Int → Int → Int → Int → Int → LT → Option R) (s24 : Int) (s25 : Int) (s26 : Int) (s27 : Int) (s28 : Int) (s29 : LT) : Option R :=
  f84.s0' L N self84 k0_e1 k0_r rec0 s24 s25 s26 s27 s28 s29
def f84.l0 {R : Type} (L N : Nat) (self84 : Tree → Option (Int)) (k0_e1 : Int → Option R) (k0_r : Int → Int → Option R) : Nat → Int → Int → Int → Int → Int → LT → Option R
  | 0, _, _, _, _, _, _ => none
  | n + 1, s24, s25, s26, s27, s28, s29 => f84.s0 L N self84 k0_e1 k0_r (f84.l0 L N self84 k0_e1 k0_r n) s24 s25 s26 s27 s28 s29
def f84.T0 (s24 : Int) (s25 : Int) (s26 : Int) (s27 : Int) (s28 : Int) (s29 : LT) : T := mkT 60 [(1, (.ptr 1001 0)), (3, (.tv i64 s24)), (5, (.tv i64 s25)), (6, (.tv i64 s26))]
def f84.H0 (s24 : Int) (s25 : Int) (s26 : Int) (s27 : Int) (s28 : Int) (s29 : LT) : H := [(1001, (.box [(.tv i64 s27), (.tv i64 s28), (.tv (.sl (.st 1)) s29)]))]
def f84.T0_e1 (z30 : Int) : T := mkT 60 [(5, (.tv i64 z30))]
def f84.H0_e1 (z30 : Int) : H := []
def f84.T0_r (z32 : Int) (z33 : Int) : T := mkT 60 [(2, (.tv i64 z32)), (5, (.tv i64 z33))]
def f84.H0_r (z32 : Int) (z33 : Int) : H := []
def f84.p0_e1' {R : Type} (L N : Nat) (self84 : Tree → Option (Int)) (k : Int → Option R) (z30 : Int) : Option R :=
  k z30
def f84.p0_e1 {R : Type} (L N : Nat) (self84 : Tree → Option (Int)) (k : Int → Option R) (z30 : Int) : Option R :=
  f84.p0_e1' L N self84 k z30
def f84.p0_r' {R : Type} (L N : Nat) (self84 : Tree → Option (Int)) (k : Int → Option R) (z32 : Int) (z33 : Int) : Option R :=
  k z32
def f84.p0_r {R : Type} (L N : Nat) (self84 : Tree → Option (Int)) (k : Int → Option R) (z32 : Int) (z33 : Int) : Option R :=
  f84.p0_r' L N self84 k z32 z33
def f84.j1' {R : Type} (L N : Nat) (self84 : Tree → Option (Int)) (k : Int → Option R) (w0 : Int → Int → Int → Int → Int → LT → Option R) (v20 : Int) (v21 : Int) (v22 : Int) (v23 : LT) : Option R :=
  w0 v20 (1 : Int) (0 : Int) v21 v22 v23
def f84.j2' {R : Type} (L N : Nat) (self84 : Tree → Option (Int)) (k : Int → Option R) (w0 : Int → Int → Int → Int → Int → LT → Option R) (v10 : Int) (v11 : Bool) (v12 : Int) (v13 : Int) (v14 : LT) : Option R :=
  bif (!v11) then
    k (0 : Int)
  else bif ((v14.length : Int) != v10) then
    k (0 : Int)
  else f84.j1' L N self84 k w0 v10 v12 v13 v14
def f84.j0' {R : Type} (L N : Nat) (self84 : Tree → Option (Int)) (k : Int → Option R) (w0 : Int → Int → Int → Int → Int → LT → Option R) (v1 : Int) (v2 : Bool) (v3 : Int) (v4 : Bool) (v5 : Int) (v6 : Int) (v7 : LT) : Option R :=
  bif v4 then
    f84.j2' L N self84 k w0 (2 : Int) v2 v5 v6 v7
  else bif (v3 == (4 : Int)) then
    (f40 L N v6 (0 : Int) (3 : Int)).bind fun y8 =>
    f84.j2' L N self84 k w0 (1 : Int) y8 v5 v6 v7
  else bif (v3 == (5 : Int)) then
    (f40 L N v6 (0 : Int) (2 : Int)).bind fun y9 =>
    f84.j2' L N self84 k w0 v1 y9 v5 v6 v7
  else f84.j2' L N self84 k w0 v1 false v5 v6 v7
def f84.b' {R : Type} (L N : Nat) (self84 : Tree → Option (Int)) (k : Int → Option R) (w0 : Int → Int → Int → Int → Int → LT → Option R) (x0 : Tree) : Option R :=
  bif (x0.op == (0 : Int)) then
    f84.j2' L N self84 k w0 (0 : Int) (x0.n == (0 : Int)) x0.op x0.n x0.parts
  else bif (x0.op == (1 : Int)) then
    (f41 L N x0.n).bind fun y0 =>
    f84.j2' L N self84 k w0 (1 : Int) y0 x0.op x0.n x0.parts
  else bif (x0.op == (2 : Int)) then
    f84.j0' L N self84 k w0 (0 : Int) (x0.n == (0 : Int)) x0.op (x0.op == (2 : Int)) x0.op x0.n x0.parts
  else f84.j0' L N self84 k w0 (0 : Int) (x0.n == (0 : Int)) x0.op (x0.op == (3 : Int)) x0.op x0.n x0.parts
def f84.b {R : Type} (L N : Nat) (self84 : Tree → Option (Int)) (k : Int → Option R) (x0 : Tree) : Option R :=
  f84.b' L N self84 k (fun s24 s25 s26 s27 s28 s29 => f84.l0 L N self84 (fun z30 => f84.p0_e1 L N self84 k z30) (fun z32 z33 => f84.p0_r L N self84 k z32 z33) L s24 s25 s26 s27 s28 s29) x0
def f84 (L N : Nat) : Nat → Tree → Option (Int)
  | 0, _ => none
  | n + 1, x0 => f84.b L N (f84 L N n) some x0
def f84.ent (L N m : Nat) (args : List AV) (vw : View) (site : Nat) : Ans := match roD [(.st 1)] vw args with
  | some d => ⟨Int, f84 L N m d.1, fun y => ((.tv i64 y), [], [])⟩
  | none => Ans.no
def Φ84s (L N m : Nat) : Tells := (addT (Φ41 L N) 84 (f84.ent L N m))
noncomputable def E84 (L N m : Nat) : Env := { P := Tryz.prog, ty := tyOf, Φ := Φ84s L N m, inl := inlT, live := lives, liveX := livesX, L := L, dp := none, prom := promT, heal := healT, ren := renT }
noncomputable def f84.c0 : Code := loopAt 1 (codeOf Tryz.f84)
theorem f84.s0_eq {R : Type} (L N m : Nat) (κ : Ex → T → H → Option R) (rec : T → H → Option R) (s24 : Int) (s25 : Int) (s26 : Int) (s27 : Int) (s28 : Int) (s29 : LT) :
    evRd (E84 L N m) (evCallI (E84 L N m) 0 1000) 1000 84 60 1 f84.c0 κ rec (f84.T0 s24 s25 s26 s27 s28 s29) (f84.H0 s24 s25 s26 s27 s28 s29)
    = f84.s0 L N (f84 L N m) (fun z30 => κ (.exit 1) (f84.T0_e1 z30) (f84.H0_e1 z30)) (fun z32 z33 => κ .ret (f84.T0_r z32 z33) (f84.H0_r z32 z33)) (fun s24 s25 s26 s27 s28 s29 => rec (f84.T0 s24 s25 s26 s27 s28 s29) (f84.H0 s24 s25 s26 s27 s28 s29)) s24 s25 s26 s27 s28 s29 := by kernel_rfl
theorem f84.l0_eq {R : Type} (L N m : Nat) (κ : Ex → T → H → Option R) : ∀ (n : Nat) (s24 : Int) (s25 : Int) (s26 : Int) (s27 : Int) (s28 : Int) (s29 : LT),
    evLp (E84 L N m) (evCallI (E84 L N m) 0 1000) 1000 84 60 1 f84.c0 κ n (f84.T0 s24 s25 s26 s27 s28 s29) (f84.H0 s24 s25 s26 s27 s28 s29)
    = f84.l0 L N (f84 L N m) (fun z30 => κ (.exit 1) (f84.T0_e1 z30) (f84.H0_e1 z30)) (fun z32 z33 => κ .ret (f84.T0_r z32 z33) (f84.H0_r z32 z33)) n s24 s25 s26 s27 s28 s29 := by
  intro n
  induction n with
  | zero => intros; rfl
  | succ n ih =>
    intro s24 s25 s26 s27 s28 s29
    rw [evLp_succ, f84.s0_eq]
    simp only [ih]
    rfl
theorem f84.p0_e1_eq {R : Type} (L N m : Nat) (κ : AV → Option R) (z30 : Int) :
    (contAt (E84 L N m) (evCallI (E84 L N m) 0 1000) 1000 84 60 1 (codeOf Tryz.f84) (finK (E84 L N m) 1000 Tryz.f84 (finC (.one i64) κ))) (.exit 1) (f84.T0_e1 z30) (f84.H0_e1 z30)
    = f84.p0_e1 L N (f84 L N m) (fun a0 => κ (.tv i64 a0)) z30 := by kernel_rfl
theorem f84.p0_r_eq {R : Type} (L N m : Nat) (κ : AV → Option R) (z32 : Int) (z33 : Int) :
    (contAt (E84 L N m) (evCallI (E84 L N m) 0 1000) 1000 84 60 1 (codeOf Tryz.f84) (finK (E84 L N m) 1000 Tryz.f84 (finC (.one i64) κ))) .ret (f84.T0_r z32 z33) (f84.H0_r z32 z33)
    = f84.p0_r L N (f84 L N m) (fun a0 => κ (.tv i64 a0)) z32 z33 := by kernel_rfl
theorem f84.b_eq {R : Type} (L N m : Nat) (κ : AV → Option R) (x0 : Tree) :
    evBody (E84 L N m) (evCallI (E84 L N m) 0 1000) 1000 84 Tryz.f84 [(.tv (.st 1) x0)] [] [] (finC (.one i64) κ)
    = f84.b L N (f84 L N m) (fun a0 => κ (.tv i64 a0)) x0 := by
  refine Eq.trans (b := f84.b' L N (f84 L N m) (fun a0 => κ (.tv i64 a0)) (fun s24 s25 s26 s27 s28 s29 => evLp (E84 L N m) (evCallI (E84 L N m) 0 1000) 1000 84 60 1 f84.c0 (contAt (E84 L N m) (evCallI (E84 L N m) 0 1000) 1000 84 60 1 (codeOf Tryz.f84) (finK (E84 L N m) 1000 Tryz.f84 (finC (.one i64) κ))) L (f84.T0 s24 s25 s26 s27 s28 s29) (f84.H0 s24 s25 s26 s27 s28 s29)) x0) (by kernel_rfl) ?_
  unfold f84.b
  simp only [f84.l0_eq, f84.p0_e1_eq, f84.p0_r_eq]
theorem f84.ok (L N m : Nat) (hΦ : TellsOk Tryz.prog (Φ84s L N m)) : EntOk Tryz.prog 84 (f84.ent L N (m + 1)) := by
  intro args vw site h
  unfold f84.ent
  split
  · rename_i d ha
    intro y hy hs
    refine call_ro (dep := 1000) (E := (E84 L N m)) (rs := (.one i64)) (κ := unR (.one i64)) (sound_of hΦ) okP (callI_sound (sound_of hΦ) okP 0 1000) (f := Tryz.f84) rfl hs ha ?_ (fun _ h => unR_some h) rfl site
    exact (f84.b_eq L N m (unR (.one i64)) d.1).trans (Eq.trans (b := f84.b L N (f84 L N m) some d.1) (by kernel_rfl) hy)
  · intro y hy
    cases hy
theorem Φ84s_ok (L N : Nat) : ∀ m, TellsOk Tryz.prog (Φ84s L N m) := by
  intro m
  induction m with
  | zero => exact (addT_ok (Φ41_ok L N) (fun args vw site h => by unfold f84.ent; split <;> (intro y hy; cases hy)))
  | succ m ih => exact (addT_ok (Φ41_ok L N) (f84.ok L N m ih))
def Φ84 (L N : Nat) : Tells := (addT (Φ41 L N) 84 (f84.ent L N N))
theorem Φ84_ok (L N : Nat) : TellsOk Tryz.prog (Φ84 L N) := Φ84s_ok L N N
def f102.b' {R : Type} (L N : Nat) (k : Bool → Option R) (x0 : Tree) : Option R :=
  (f84 L N N (Tree.mk x0.op x0.n x0.parts)).bind fun y0 =>
  (f40 L N y0 (1 : Int) (24 : Int)).bind fun y1 =>
  k y1
def f102.b {R : Type} (L N : Nat) (k : Bool → Option R) (x0 : Tree) : Option R :=
  f102.b' L N k x0
def f102 (L N : Nat) (x0 : Tree) : Option (Bool) := f102.b L N some x0
def f102.ent (L N : Nat) (args : List AV) (vw : View) (site : Nat) : Ans := match roD [(.st 1)] vw args with
  | some d => ⟨Bool, f102 L N d.1, fun y => ((.tv .bool y), [], [])⟩
  | none => Ans.no
noncomputable def E102 (L N : Nat) : Env := { P := Tryz.prog, ty := tyOf, Φ := (Φ84 L N), inl := inlT, live := lives, liveX := livesX, L := L, dp := none, prom := promT, heal := healT, ren := renT }
theorem f102.b_eq {R : Type} (L N : Nat) (κ : AV → Option R) (x0 : Tree) :
    evBody (E102 L N) (evCallI (E102 L N) 0 1000) 1000 102 Tryz.f102 [(.tv (.st 1) x0)] [] [] (finC (.one .bool) κ)
    = f102.b L N (fun a0 => κ (.tv .bool a0)) x0 := by kernel_rfl
theorem f102.ok (L N : Nat) (hΦ : TellsOk Tryz.prog ((Φ84 L N))) : EntOk Tryz.prog 102 (f102.ent L N) := by
  intro args vw site h
  unfold f102.ent
  split
  · rename_i d ha
    intro y hy hs
    refine call_ro (dep := 1000) (E := (E102 L N)) (rs := (.one .bool)) (κ := unR (.one .bool)) (sound_of hΦ) okP (callI_sound (sound_of hΦ) okP 0 1000) (f := Tryz.f102) rfl hs ha ?_ (fun _ h => unR_some h) rfl site
    exact (f102.b_eq L N (unR (.one .bool)) d.1).trans (Eq.trans (b := f102.b L N some d.1) (by kernel_rfl) hy)
  · intro y hy
    cases hy
def Φ102 (L N : Nat) : Tells := (addT (Φ84 L N) 102 (f102.ent L N))
theorem Φ102_ok (L N : Nat) : TellsOk Tryz.prog (Φ102 L N) := addT_ok (Φ84_ok L N) (f102.ok L N (Φ84_ok L N))
def f81.b' {R : Type} (L N : Nat) (k : Bool → Option R) (x0 : Tree) (x1 : Int) : Option R :=
  (f102 L N (Tree.mk x0.op x0.n x0.parts)).bind fun y0 =>
  bif y0 then
    (f40 L N x1 (0 : Int) (3 : Int)).bind fun y1 =>
    bif y1 then
      (f101 L N N (Tree.mk x0.op x0.n x0.parts) false).bind fun y2 =>
      k (decide (y2 < x1))
    else k false
  else k false
def f81.b {R : Type} (L N : Nat) (k : Bool → Option R) (x0 : Tree) (x1 : Int) : Option R :=
  f81.b' L N k x0 x1
def f81 (L N : Nat) (x0 : Tree) (x1 : Int) : Option (Bool) := f81.b L N some x0 x1
def f81.ent (L N : Nat) (args : List AV) (vw : View) (site : Nat) : Ans := match roD [(.st 1), i64] vw args with
  | some d => ⟨Bool, f81 L N d.1 d.2.1, fun y => ((.tv .bool y), [], [])⟩
  | none => Ans.no
noncomputable def E81 (L N : Nat) : Env := { P := Tryz.prog, ty := tyOf, Φ := (Φ102 L N), inl := inlT, live := lives, liveX := livesX, L := L, dp := none, prom := promT, heal := healT, ren := renT }
theorem f81.b_eq {R : Type} (L N : Nat) (κ : AV → Option R) (x0 : Tree) (x1 : Int) :
    evBody (E81 L N) (evCallI (E81 L N) 0 1000) 1000 81 Tryz.f81 [(.tv (.st 1) x0), (.tv i64 x1)] [] [] (finC (.one .bool) κ)
    = f81.b L N (fun a0 => κ (.tv .bool a0)) x0 x1 := by kernel_rfl
theorem f81.ok (L N : Nat) (hΦ : TellsOk Tryz.prog ((Φ102 L N))) : EntOk Tryz.prog 81 (f81.ent L N) := by
  intro args vw site h
  unfold f81.ent
  split
  · rename_i d ha
    intro y hy hs
    refine call_ro (dep := 1000) (E := (E81 L N)) (rs := (.one .bool)) (κ := unR (.one .bool)) (sound_of hΦ) okP (callI_sound (sound_of hΦ) okP 0 1000) (f := Tryz.f81) rfl hs ha ?_ (fun _ h => unR_some h) rfl site
    exact (f81.b_eq L N (unR (.one .bool)) d.1 d.2.1).trans (Eq.trans (b := f81.b L N some d.1 d.2.1) (by kernel_rfl) hy)
  · intro y hy
    cases hy
def Φ81 (L N : Nat) : Tells := (addT (Φ102 L N) 81 (f81.ent L N))
theorem Φ81_ok (L N : Nat) : TellsOk Tryz.prog (Φ81 L N) := addT_ok (Φ102_ok L N) (f81.ok L N (Φ102_ok L N))
def f80.s0' {R : Type} (L N : Nat) (k0_e0 : LT → Option R) (k0_r : LT → Bool → Option R) (rec0 : LT → Int → Option R) (s0 : LT) (s1 : Int) : Option R :=
  bif (decide (s1 < (s0.length : Int))) then
    bif (decide (0 ≤ s1) && decide (s1 < (s0.length : Int))) then
      (f81 L N (listAt s0 (Ty.dflt (.st 1)) s1.toNat) (s0.length : Int)).bind fun y3 =>
      bif (!y3) then
        k0_r s0 false
      else bif (decide (0 ≤ s1) && decide (s1 < (s0.length : Int))) then
        (f101 L N N (listAt s0 (Ty.dflt (.st 1)) s1.toNat) true).bind fun y4 =>
        bif (decide (y4 ≥ (0 : Int))) then
          k0_r s0 false
        else rec0 s0 (wi (s1 + (1 : Int)))
      else none
    else none
  else k0_e0 s0
def f80.s0 {R : Type} (L N : Nat) (k0_e0 : LT → Option R) (k0_r : LT → Bool → Option R) (rec0 : LT → Int → Option R) (s0 : LT) (s1 : Int) : Option R :=
  f80.s0' L N k0_e0 k0_r rec0 s0 s1
def f80.l0 {R : Type} (L N : Nat) (k0_e0 : LT → Option R) (k0_r : LT → Bool → Option R) : Nat → LT → Int → Option R
  | 0, _, _ => none
  | n + 1, s0, s1 => f80.s0 L N k0_e0 k0_r (f80.l0 L N k0_e0 k0_r n) s0 s1
def f80.T0 (s0 : LT) (s1 : Int) : T := mkT 29 [(0, (.tv (.sl (.st 1)) s0)), (3, (.tv i64 s1))]
def f80.H0 (s0 : LT) (s1 : Int) : H := []
def f80.T0_e0 (z2 : LT) : T := mkT 29 [(0, (.tv (.sl (.st 1)) z2))]
def f80.H0_e0 (z2 : LT) : H := []
def f80.T0_r (z8 : LT) (z9 : Bool) : T := mkT 29 [(0, (.tv (.sl (.st 1)) z8)), (2, (.tv .bool z9))]
def f80.H0_r (z8 : LT) (z9 : Bool) : H := []
def f80.p0_e0' {R : Type} (L N : Nat) (k : Bool → Option R) (z2 : LT) : Option R :=
  k (decide ((z2.length : Int) ≤ (3 : Int)))
def f80.p0_e0 {R : Type} (L N : Nat) (k : Bool → Option R) (z2 : LT) : Option R :=
  f80.p0_e0' L N k z2
def f80.p0_r' {R : Type} (L N : Nat) (k : Bool → Option R) (z8 : LT) (z9 : Bool) : Option R :=
  k z9
def f80.p0_r {R : Type} (L N : Nat) (k : Bool → Option R) (z8 : LT) (z9 : Bool) : Option R :=
  f80.p0_r' L N k z8 z9
def f80.b' {R : Type} (L N : Nat) (k : Bool → Option R) (w0 : LT → Int → Option R) (x0 : LT) : Option R :=
  w0 x0 (0 : Int)
def f80.b {R : Type} (L N : Nat) (k : Bool → Option R) (x0 : LT) : Option R :=
  f80.b' L N k (fun s0 s1 => f80.l0 L N (fun z2 => f80.p0_e0 L N k z2) (fun z8 z9 => f80.p0_r L N k z8 z9) L s0 s1) x0
def f80 (L N : Nat) (x0 : LT) : Option (Bool) := f80.b L N some x0
def f80.ent (L N : Nat) (args : List AV) (vw : View) (site : Nat) : Ans := match roD [(.sl (.st 1))] vw args with
  | some d => ⟨Bool, f80 L N d.1, fun y => ((.tv .bool y), [], [])⟩
  | none => Ans.no
noncomputable def E80 (L N : Nat) : Env := { P := Tryz.prog, ty := tyOf, Φ := (Φ81 L N), inl := inlT, live := lives, liveX := livesX, L := L, dp := none, prom := promT, heal := healT, ren := renT }
noncomputable def f80.c0 : Code := loopAt 0 (codeOf Tryz.f80)
theorem f80.s0_eq {R : Type} (L N : Nat) (κ : Ex → T → H → Option R) (rec : T → H → Option R) (s0 : LT) (s1 : Int) :
    evRd (E80 L N) (evCallI (E80 L N) 0 1000) 1000 80 29 0 f80.c0 κ rec (f80.T0 s0 s1) (f80.H0 s0 s1)
    = f80.s0 L N (fun z2 => κ (.exit 0) (f80.T0_e0 z2) (f80.H0_e0 z2)) (fun z8 z9 => κ .ret (f80.T0_r z8 z9) (f80.H0_r z8 z9)) (fun s0 s1 => rec (f80.T0 s0 s1) (f80.H0 s0 s1)) s0 s1 := by kernel_rfl
theorem f80.l0_eq {R : Type} (L N : Nat) (κ : Ex → T → H → Option R) : ∀ (n : Nat) (s0 : LT) (s1 : Int),
    evLp (E80 L N) (evCallI (E80 L N) 0 1000) 1000 80 29 0 f80.c0 κ n (f80.T0 s0 s1) (f80.H0 s0 s1)
    = f80.l0 L N (fun z2 => κ (.exit 0) (f80.T0_e0 z2) (f80.H0_e0 z2)) (fun z8 z9 => κ .ret (f80.T0_r z8 z9) (f80.H0_r z8 z9)) n s0 s1 := by
  intro n
  induction n with
  | zero => intros; rfl
  | succ n ih =>
    intro s0 s1
    rw [evLp_succ, f80.s0_eq]
    simp only [ih]
    rfl
theorem f80.p0_e0_eq {R : Type} (L N : Nat) (κ : AV → Option R) (z2 : LT) :
    (contAt (E80 L N) (evCallI (E80 L N) 0 1000) 1000 80 29 0 (codeOf Tryz.f80) (finK (E80 L N) 1000 Tryz.f80 (finC (.one .bool) κ))) (.exit 0) (f80.T0_e0 z2) (f80.H0_e0 z2)
    = f80.p0_e0 L N (fun a0 => κ (.tv .bool a0)) z2 := by kernel_rfl
theorem f80.p0_r_eq {R : Type} (L N : Nat) (κ : AV → Option R) (z8 : LT) (z9 : Bool) :
    (contAt (E80 L N) (evCallI (E80 L N) 0 1000) 1000 80 29 0 (codeOf Tryz.f80) (finK (E80 L N) 1000 Tryz.f80 (finC (.one .bool) κ))) .ret (f80.T0_r z8 z9) (f80.H0_r z8 z9)
    = f80.p0_r L N (fun a0 => κ (.tv .bool a0)) z8 z9 := by kernel_rfl
theorem f80.b_eq {R : Type} (L N : Nat) (κ : AV → Option R) (x0 : LT) :
    evBody (E80 L N) (evCallI (E80 L N) 0 1000) 1000 80 Tryz.f80 [(.tv (.sl (.st 1)) x0)] [] [] (finC (.one .bool) κ)
    = f80.b L N (fun a0 => κ (.tv .bool a0)) x0 := by
  refine Eq.trans (b := f80.b' L N (fun a0 => κ (.tv .bool a0)) (fun s0 s1 => evLp (E80 L N) (evCallI (E80 L N) 0 1000) 1000 80 29 0 f80.c0 (contAt (E80 L N) (evCallI (E80 L N) 0 1000) 1000 80 29 0 (codeOf Tryz.f80) (finK (E80 L N) 1000 Tryz.f80 (finC (.one .bool) κ))) L (f80.T0 s0 s1) (f80.H0 s0 s1)) x0) (by kernel_rfl) ?_
  unfold f80.b
  simp only [f80.l0_eq, f80.p0_e0_eq, f80.p0_r_eq]
theorem f80.ok (L N : Nat) (hΦ : TellsOk Tryz.prog ((Φ81 L N))) : EntOk Tryz.prog 80 (f80.ent L N) := by
  intro args vw site h
  unfold f80.ent
  split
  · rename_i d ha
    intro y hy hs
    refine call_ro (dep := 1000) (E := (E80 L N)) (rs := (.one .bool)) (κ := unR (.one .bool)) (sound_of hΦ) okP (callI_sound (sound_of hΦ) okP 0 1000) (f := Tryz.f80) rfl hs ha ?_ (fun _ h => unR_some h) rfl site
    exact (f80.b_eq L N (unR (.one .bool)) d.1).trans (Eq.trans (b := f80.b L N some d.1) (by kernel_rfl) hy)
  · intro y hy
    cases hy
def Φ80 (L N : Nat) : Tells := (addT (Φ81 L N) 80 (f80.ent L N))
theorem Φ80_ok (L N : Nat) : TellsOk Tryz.prog (Φ80 L N) := addT_ok (Φ81_ok L N) (f80.ok L N (Φ81_ok L N))
def f64.b' {R : Type} (L N : Nat) (k : Bool → Option R) (x0 : Tree) (x1 : LT) : Option R :=
  (f80 L N x1).bind fun y0 =>
  bif y0 then
    (f81 L N (Tree.mk x0.op x0.n x0.parts) (x1.length : Int)).bind fun y1 =>
    k y1
  else k false
def f64.b {R : Type} (L N : Nat) (k : Bool → Option R) (x0 : Tree) (x1 : LT) : Option R :=
  f64.b' L N k x0 x1
def f64 (L N : Nat) (x0 : Tree) (x1 : LT) : Option (Bool) := f64.b L N some x0 x1
def f64.ent (L N : Nat) (args : List AV) (vw : View) (site : Nat) : Ans := match roD [(.st 1), (.sl (.st 1))] vw args with
  | some d => ⟨Bool, f64 L N d.1 d.2.1, fun y => ((.tv .bool y), [], [])⟩
  | none => Ans.no
noncomputable def E64 (L N : Nat) : Env := { P := Tryz.prog, ty := tyOf, Φ := (Φ80 L N), inl := inlT, live := lives, liveX := livesX, L := L, dp := none, prom := promT, heal := healT, ren := renT }
theorem f64.b_eq {R : Type} (L N : Nat) (κ : AV → Option R) (x0 : Tree) (x1 : LT) :
    evBody (E64 L N) (evCallI (E64 L N) 0 1000) 1000 64 Tryz.f64 [(.tv (.st 1) x0), (.tv (.sl (.st 1)) x1)] [] [] (finC (.one .bool) κ)
    = f64.b L N (fun a0 => κ (.tv .bool a0)) x0 x1 := by kernel_rfl
theorem f64.ok (L N : Nat) (hΦ : TellsOk Tryz.prog ((Φ80 L N))) : EntOk Tryz.prog 64 (f64.ent L N) := by
  intro args vw site h
  unfold f64.ent
  split
  · rename_i d ha
    intro y hy hs
    refine call_ro (dep := 1000) (E := (E64 L N)) (rs := (.one .bool)) (κ := unR (.one .bool)) (sound_of hΦ) okP (callI_sound (sound_of hΦ) okP 0 1000) (f := Tryz.f64) rfl hs ha ?_ (fun _ h => unR_some h) rfl site
    exact (f64.b_eq L N (unR (.one .bool)) d.1 d.2.1).trans (Eq.trans (b := f64.b L N some d.1 d.2.1) (by kernel_rfl) hy)
  · intro y hy
    cases hy
def Φ64 (L N : Nat) : Tells := (addT (Φ80 L N) 64 (f64.ent L N))
theorem Φ64_ok (L N : Nat) : TellsOk Tryz.prog (Φ64 L N) := addT_ok (Φ80_ok L N) (f64.ok L N (Φ80_ok L N))
def f42.b' {R : Type} (L N : Nat) (k : Bool → Option R) (x0 : Move) (x1 : Move) : Option R :=
  bif (decide (x0.act < x1.act)) then
    k true
  else bif (x0.act == x1.act) then
    k (decide (x0.to < x1.to))
  else k false
def f42.b {R : Type} (L N : Nat) (k : Bool → Option R) (x0 : Move) (x1 : Move) : Option R :=
  f42.b' L N k x0 x1
def f42 (L N : Nat) (x0 : Move) (x1 : Move) : Option (Bool) := f42.b L N some x0 x1
def f42.ent (L N : Nat) (args : List AV) (vw : View) (site : Nat) : Ans := match roD [(.st 0), (.st 0)] vw args with
  | some d => ⟨Bool, f42 L N d.1 d.2.1, fun y => ((.tv .bool y), [], [])⟩
  | none => Ans.no
noncomputable def E42 (L N : Nat) : Env := { P := Tryz.prog, ty := tyOf, Φ := (Φ64 L N), inl := inlT, live := lives, liveX := livesX, L := L, dp := none, prom := promT, heal := healT, ren := renT }
theorem f42.b_eq {R : Type} (L N : Nat) (κ : AV → Option R) (x0 : Move) (x1 : Move) :
    evBody (E42 L N) (evCallI (E42 L N) 0 1000) 1000 42 Tryz.f42 [(.tv (.st 0) x0), (.tv (.st 0) x1)] [] [] (finC (.one .bool) κ)
    = f42.b L N (fun a0 => κ (.tv .bool a0)) x0 x1 := by kernel_rfl
theorem f42.ok (L N : Nat) (hΦ : TellsOk Tryz.prog ((Φ64 L N))) : EntOk Tryz.prog 42 (f42.ent L N) := by
  intro args vw site h
  unfold f42.ent
  split
  · rename_i d ha
    intro y hy hs
    refine call_ro (dep := 1000) (E := (E42 L N)) (rs := (.one .bool)) (κ := unR (.one .bool)) (sound_of hΦ) okP (callI_sound (sound_of hΦ) okP 0 1000) (f := Tryz.f42) rfl hs ha ?_ (fun _ h => unR_some h) rfl site
    exact (f42.b_eq L N (unR (.one .bool)) d.1 d.2.1).trans (Eq.trans (b := f42.b L N some d.1 d.2.1) (by kernel_rfl) hy)
  · intro y hy
    cases hy
def Φ42 (L N : Nat) : Tells := (addT (Φ64 L N) 42 (f42.ent L N))
theorem Φ42_ok (L N : Nat) : TellsOk Tryz.prog (Φ42 L N) := addT_ok (Φ64_ok L N) (f42.ok L N (Φ64_ok L N))
def f67.s1' {R : Type} (L N : Nat) (k1_e2 : LM → Int → Int → LM → Option R) (rec1 : LM → Int → Int → LM → Option R) (s4 : LM) (s5 : Int) (s6 : Int) (s7 : LM) : Option R :=
  bif (decide (s6 > (0 : Int))) then
    bif (decide (0 ≤ s5) && decide (s5 < (s4.length : Int))) then
      bif (decide (0 ≤ (wi (s6 - (1 : Int)))) && decide ((wi (s6 - (1 : Int))) < (s7.length : Int))) then
        (f42 L N (listAt s4 (Ty.dflt (.st 0)) s5.toNat) (listAt s7 (Ty.dflt (.st 0)) (wi (s6 - (1 : Int))).toNat)).bind fun y8 =>
        bif y8 then
          rec1 s4 s5 (wi (s6 - (1 : Int))) s7
        else k1_e2 s4 s5 s6 s7
      else none
    else none
  else k1_e2 s4 s5 s6 s7
def f67.s1 {R : Type} (L N : Nat) (k1_e2 : LM → Int → Int → LM → Option R) (rec1 : LM → Int → Int → LM → Option R) (s4 : LM) (s5 : Int) (s6 : Int) (s7 : LM) : Option R :=
  f67.s1' L N k1_e2 rec1 s4 s5 s6 s7
def f67.l1 {R : Type} (L N : Nat) (k1_e2 : LM → Int → Int → LM → Option R) : Nat → LM → Int → Int → LM → Option R
  | 0, _, _, _, _ => none
  | n + 1, s4, s5, s6, s7 => f67.s1 L N k1_e2 (f67.l1 L N k1_e2 n) s4 s5 s6 s7
def f67.T1 (s4 : LM) (s5 : Int) (s6 : Int) (s7 : LM) : T := mkT 74 [(0, (.tv (.sl (.st 0)) s4)), (3, (.row 1007)), (4, (.tv i64 s5)), (5, (.tv i64 s6))]
def f67.H1 (s4 : LM) (s5 : Int) (s6 : Int) (s7 : LM) : H := [(1007, (.row 50 (.st 0) s7))]
def f67.T1_e2 (z14 : LM) (z15 : Int) (z16 : Int) (z17 : LM) : T := mkT 74 [(0, (.tv (.sl (.st 0)) z14)), (3, (.row 1007)), (4, (.tv i64 z15)), (5, (.tv i64 z16))]
def f67.H1_e2 (z14 : LM) (z15 : Int) (z16 : Int) (z17 : LM) : H := [(1007, (.row 50 (.st 0) z17))]
def f67.s2' {R : Type} (L N : Nat) (k2_e4 : LM → Int → Int → LM → Option R) (rec2 : LM → Int → Int → Int → LM → Option R) (s31 : LM) (s32 : Int) (s33 : Int) (s34 : Int) (s35 : LM) : Option R :=
  bif (decide (s34 > s33)) then
    bif (decide (0 ≤ (wi (s34 - (1 : Int)))) && decide ((wi (s34 - (1 : Int))) < (s35.length : Int))) then
      bif (decide (0 ≤ s34) && decide (s34 < (s35.length : Int))) then
        rec2 s31 s32 s33 (wi (s34 - (1 : Int))) (s35.set s34.toNat (listAt s35 (Ty.dflt (.st 0)) (wi (s34 - (1 : Int))).toNat))
      else none
    else none
  else k2_e4 s31 s32 s33 s35
def f67.s2 {R : Type} (L N : Nat) (k2_e4 : LM → Int → Int → LM → Option R) (rec2 : LM → Int → Int → Int → LM → Option R) (s31 : LM) (s32 : Int) (s33 : Int) (s34 : Int) (s35 : LM) : Option R :=
  f67.s2' L N k2_e4 rec2 s31 s32 s33 s34 s35
def f67.l2 {R : Type} (L N : Nat) (k2_e4 : LM → Int → Int → LM → Option R) : Nat → LM → Int → Int → Int → LM → Option R
  | 0, _, _, _, _, _ => none
  | n + 1, s31, s32, s33, s34, s35 => f67.s2 L N k2_e4 (f67.l2 L N k2_e4 n) s31 s32 s33 s34 s35
def f67.T2 (s31 : LM) (s32 : Int) (s33 : Int) (s34 : Int) (s35 : LM) : T := mkT 74 [(0, (.tv (.sl (.st 0)) s31)), (3, (.row 1007)), (4, (.tv i64 s32)), (5, (.tv i64 s33)), (6, (.tv i64 s34))]
def f67.H2 (s31 : LM) (s32 : Int) (s33 : Int) (s34 : Int) (s35 : LM) : H := [(1007, (.row 50 (.st 0) s35))]
def f67.T2_e4 (z36 : LM) (z37 : Int) (z38 : Int) (z39 : LM) : T := mkT 74 [(0, (.tv (.sl (.st 0)) z36)), (3, (.row 1007)), (4, (.tv i64 z37)), (5, (.tv i64 z38))]
def f67.H2_e4 (z36 : LM) (z37 : Int) (z38 : Int) (z39 : LM) : H := [(1007, (.row 50 (.st 0) z39))]
def f67.p2_e4' {R : Type} (L N : Nat) (k0_e0 : LM → Option R) (rec0 : LM → Int → LM → Option R) (z36 : LM) (z37 : Int) (z38 : Int) (z39 : LM) : Option R :=
  bif (decide (0 ≤ z37) && decide (z37 < (z36.length : Int))) then
    bif (decide (0 ≤ z38) && decide (z38 < (z39.length : Int))) then
      rec0 z36 (wi (z37 + (1 : Int))) (z39.set z38.toNat (listAt z36 (Ty.dflt (.st 0)) z37.toNat))
    else none
  else none
def f67.p2_e4 {R : Type} (L N : Nat) (k0_e0 : LM → Option R) (rec0 : LM → Int → LM → Option R) (z36 : LM) (z37 : Int) (z38 : Int) (z39 : LM) : Option R :=
  f67.p2_e4' L N k0_e0 rec0 z36 z37 z38 z39
def f67.j0' {R : Type} (L N : Nat) (k0_e0 : LM → Option R) (rec0 : LM → Int → LM → Option R) (w2 : LM → Int → Int → Int → LM → Option R) (v27 : LM) (v28 : Int) (v29 : Int) (v30 : LM) : Option R :=
  bif (decide (v30.length + ([(Move.mk (0 : Int) (0 : Int))] : LM).length ≤ lim)) then
    w2 v27 v28 v29 (wi (((v30 ++ ([(Move.mk (0 : Int) (0 : Int))] : LM)).length : Int) - (1 : Int))) (v30 ++ ([(Move.mk (0 : Int) (0 : Int))] : LM))
  else none
def f67.p1_e2' {R : Type} (L N : Nat) (k0_e0 : LM → Option R) (rec0 : LM → Int → LM → Option R) (w2 : LM → Int → Int → Int → LM → Option R) (z14 : LM) (z15 : Int) (z16 : Int) (z17 : LM) : Option R :=
  bif (decide (z16 > (0 : Int))) then
    bif (decide (0 ≤ (wi (z16 - (1 : Int)))) && decide ((wi (z16 - (1 : Int))) < (z17.length : Int))) then
      bif (decide (0 ≤ z15) && decide (z15 < (z14.length : Int))) then
        bif (Move.eqb (listAt z17 (Ty.dflt (.st 0)) (wi (z16 - (1 : Int))).toNat) (listAt z14 (Ty.dflt (.st 0)) z15.toNat)) then
          rec0 z14 (wi (z15 + (1 : Int))) z17
        else f67.j0' L N k0_e0 rec0 w2 z14 z15 z16 z17
      else none
    else none
  else f67.j0' L N k0_e0 rec0 w2 z14 z15 z16 z17
def f67.p1_e2 {R : Type} (L N : Nat) (k0_e0 : LM → Option R) (rec0 : LM → Int → LM → Option R) (z14 : LM) (z15 : Int) (z16 : Int) (z17 : LM) : Option R :=
  f67.p1_e2' L N k0_e0 rec0 (fun s31 s32 s33 s34 s35 => f67.l2 L N (fun z36 z37 z38 z39 => f67.p2_e4 L N k0_e0 rec0 z36 z37 z38 z39) L s31 s32 s33 s34 s35) z14 z15 z16 z17
def f67.s0' {R : Type} (L N : Nat) (k0_e0 : LM → Option R) (rec0 : LM → Int → LM → Option R) (w1 : LM → Int → Int → LM → Option R) (s0 : LM) (s1 : Int) (s2 : LM) : Option R :=
  bif (decide (s1 < (s0.length : Int))) then
    w1 s0 s1 (s2.length : Int) s2
  else k0_e0 s2
def f67.s0 {R : Type} (L N : Nat) (k0_e0 : LM → Option R) (rec0 : LM → Int → LM → Option R) (s0 : LM) (s1 : Int) (s2 : LM) : Option R :=
  f67.s0' L N k0_e0 rec0 (fun s4 s5 s6 s7 => f67.l1 L N (fun z14 z15 z16 z17 => f67.p1_e2 L N k0_e0 rec0 z14 z15 z16 z17) L s4 s5 s6 s7) s0 s1 s2
def f67.l0 {R : Type} (L N : Nat) (k0_e0 : LM → Option R) : Nat → LM → Int → LM → Option R
  | 0, _, _, _ => none
  | n + 1, s0, s1, s2 => f67.s0 L N k0_e0 (f67.l0 L N k0_e0 n) s0 s1 s2
def f67.T0 (s0 : LM) (s1 : Int) (s2 : LM) : T := mkT 74 [(0, (.tv (.sl (.st 0)) s0)), (3, (.row 1007)), (4, (.tv i64 s1))]
def f67.H0 (s0 : LM) (s1 : Int) (s2 : LM) : H := [(1007, (.row 50 (.st 0) s2))]
def f67.T0_e0 (z3 : LM) : T := mkT 74 [(3, (.row 1007))]
def f67.H0_e0 (z3 : LM) : H := [(1007, (.row 50 (.st 0) z3))]
def f67.p0_e0' {R : Type} (L N : Nat) (k : LM → Option R) (z3 : LM) : Option R :=
  k z3
def f67.p0_e0 {R : Type} (L N : Nat) (k : LM → Option R) (z3 : LM) : Option R :=
  f67.p0_e0' L N k z3
def f67.b' {R : Type} (L N : Nat) (k : LM → Option R) (w0 : LM → Int → LM → Option R) (x0 : LM) : Option R :=
  w0 x0 (0 : Int) ([] : LM)
def f67.b {R : Type} (L N : Nat) (k : LM → Option R) (x0 : LM) : Option R :=
  f67.b' L N k (fun s0 s1 s2 => f67.l0 L N (fun z3 => f67.p0_e0 L N k z3) L s0 s1 s2) x0
def f67 (L N : Nat) (x0 : LM) : Option (LM) := f67.b L N some x0
def f67.ent (L N : Nat) (args : List AV) (vw : View) (site : Nat) : Ans := match roD [(.sl (.st 0))] vw args with
  | some d => ⟨LM, f67 L N d.1, fun y => (RN.av site .row (), [(site, some (mkO none 50 (.st 0) y))], [])⟩
  | none => Ans.no
noncomputable def E67 (L N : Nat) : Env := { P := Tryz.prog, ty := tyOf, Φ := (Φ42 L N), inl := inlT, live := lives, liveX := livesX, L := L, dp := none, prom := promT, heal := healT, ren := renT }
noncomputable def f67.c0 : Code := loopAt 0 (codeOf Tryz.f67)
noncomputable def f67.c1 : Code := loopAt 2 f67.c0
theorem f67.s1_eq {R : Type} (L N : Nat) (κ : Ex → T → H → Option R) (rec : T → H → Option R) (s4 : LM) (s5 : Int) (s6 : Int) (s7 : LM) :
    evRd (E67 L N) (evCallI (E67 L N) 0 1000) 1000 67 74 2 f67.c1 κ rec (f67.T1 s4 s5 s6 s7) (f67.H1 s4 s5 s6 s7)
    = f67.s1 L N (fun z14 z15 z16 z17 => κ (.exit 2) (f67.T1_e2 z14 z15 z16 z17) (f67.H1_e2 z14 z15 z16 z17)) (fun s4 s5 s6 s7 => rec (f67.T1 s4 s5 s6 s7) (f67.H1 s4 s5 s6 s7)) s4 s5 s6 s7 := by kernel_rfl
theorem f67.l1_eq {R : Type} (L N : Nat) (κ : Ex → T → H → Option R) : ∀ (n : Nat) (s4 : LM) (s5 : Int) (s6 : Int) (s7 : LM),
    evLp (E67 L N) (evCallI (E67 L N) 0 1000) 1000 67 74 2 f67.c1 κ n (f67.T1 s4 s5 s6 s7) (f67.H1 s4 s5 s6 s7)
    = f67.l1 L N (fun z14 z15 z16 z17 => κ (.exit 2) (f67.T1_e2 z14 z15 z16 z17) (f67.H1_e2 z14 z15 z16 z17)) n s4 s5 s6 s7 := by
  intro n
  induction n with
  | zero => intros; rfl
  | succ n ih =>
    intro s4 s5 s6 s7
    rw [evLp_succ, f67.s1_eq]
    simp only [ih]
    rfl
noncomputable def f67.c2 : Code := loopAt 4 f67.c0
theorem f67.s2_eq {R : Type} (L N : Nat) (κ : Ex → T → H → Option R) (rec : T → H → Option R) (s31 : LM) (s32 : Int) (s33 : Int) (s34 : Int) (s35 : LM) :
    evRd (E67 L N) (evCallI (E67 L N) 0 1000) 1000 67 74 4 f67.c2 κ rec (f67.T2 s31 s32 s33 s34 s35) (f67.H2 s31 s32 s33 s34 s35)
    = f67.s2 L N (fun z36 z37 z38 z39 => κ (.exit 4) (f67.T2_e4 z36 z37 z38 z39) (f67.H2_e4 z36 z37 z38 z39)) (fun s31 s32 s33 s34 s35 => rec (f67.T2 s31 s32 s33 s34 s35) (f67.H2 s31 s32 s33 s34 s35)) s31 s32 s33 s34 s35 := by kernel_rfl
theorem f67.l2_eq {R : Type} (L N : Nat) (κ : Ex → T → H → Option R) : ∀ (n : Nat) (s31 : LM) (s32 : Int) (s33 : Int) (s34 : Int) (s35 : LM),
    evLp (E67 L N) (evCallI (E67 L N) 0 1000) 1000 67 74 4 f67.c2 κ n (f67.T2 s31 s32 s33 s34 s35) (f67.H2 s31 s32 s33 s34 s35)
    = f67.l2 L N (fun z36 z37 z38 z39 => κ (.exit 4) (f67.T2_e4 z36 z37 z38 z39) (f67.H2_e4 z36 z37 z38 z39)) n s31 s32 s33 s34 s35 := by
  intro n
  induction n with
  | zero => intros; rfl
  | succ n ih =>
    intro s31 s32 s33 s34 s35
    rw [evLp_succ, f67.s2_eq]
    simp only [ih]
    rfl
theorem f67.p2_e4_eq {R : Type} (L N : Nat) (κ : Ex → T → H → Option R) (rec : T → H → Option R) (z36 : LM) (z37 : Int) (z38 : Int) (z39 : LM) :
    (contAt (E67 L N) (evCallI (E67 L N) 0 1000) 1000 67 74 4 f67.c0 (rdK (E67 L N) 1000 67 74 0 κ rec)) (.exit 4) (f67.T2_e4 z36 z37 z38 z39) (f67.H2_e4 z36 z37 z38 z39)
    = f67.p2_e4 L N (fun z3 => κ (.exit 0) (f67.T0_e0 z3) (f67.H0_e0 z3)) (fun s0 s1 s2 => rec (f67.T0 s0 s1 s2) (f67.H0 s0 s1 s2)) z36 z37 z38 z39 := by kernel_rfl
theorem f67.p1_e2_eq {R : Type} (L N : Nat) (κ : Ex → T → H → Option R) (rec : T → H → Option R) (z14 : LM) (z15 : Int) (z16 : Int) (z17 : LM) :
    (contAt (E67 L N) (evCallI (E67 L N) 0 1000) 1000 67 74 2 f67.c0 (rdK (E67 L N) 1000 67 74 0 κ rec)) (.exit 2) (f67.T1_e2 z14 z15 z16 z17) (f67.H1_e2 z14 z15 z16 z17)
    = f67.p1_e2 L N (fun z3 => κ (.exit 0) (f67.T0_e0 z3) (f67.H0_e0 z3)) (fun s0 s1 s2 => rec (f67.T0 s0 s1 s2) (f67.H0 s0 s1 s2)) z14 z15 z16 z17 := by
  refine Eq.trans (b := f67.p1_e2' L N (fun z3 => κ (.exit 0) (f67.T0_e0 z3) (f67.H0_e0 z3)) (fun s0 s1 s2 => rec (f67.T0 s0 s1 s2) (f67.H0 s0 s1 s2)) (fun s31 s32 s33 s34 s35 => evLp (E67 L N) (evCallI (E67 L N) 0 1000) 1000 67 74 4 f67.c2 (contAt (E67 L N) (evCallI (E67 L N) 0 1000) 1000 67 74 4 f67.c0 (rdK (E67 L N) 1000 67 74 0 κ rec)) L (f67.T2 s31 s32 s33 s34 s35) (f67.H2 s31 s32 s33 s34 s35)) z14 z15 z16 z17) (by kernel_rfl) ?_
  unfold f67.p1_e2
  simp only [f67.l2_eq, f67.p2_e4_eq]
theorem f67.s0_eq {R : Type} (L N : Nat) (κ : Ex → T → H → Option R) (rec : T → H → Option R) (s0 : LM) (s1 : Int) (s2 : LM) :
    evRd (E67 L N) (evCallI (E67 L N) 0 1000) 1000 67 74 0 f67.c0 κ rec (f67.T0 s0 s1 s2) (f67.H0 s0 s1 s2)
    = f67.s0 L N (fun z3 => κ (.exit 0) (f67.T0_e0 z3) (f67.H0_e0 z3)) (fun s0 s1 s2 => rec (f67.T0 s0 s1 s2) (f67.H0 s0 s1 s2)) s0 s1 s2 := by
  refine Eq.trans (b := f67.s0' L N (fun z3 => κ (.exit 0) (f67.T0_e0 z3) (f67.H0_e0 z3)) (fun s0 s1 s2 => rec (f67.T0 s0 s1 s2) (f67.H0 s0 s1 s2)) (fun s4 s5 s6 s7 => evLp (E67 L N) (evCallI (E67 L N) 0 1000) 1000 67 74 2 f67.c1 (contAt (E67 L N) (evCallI (E67 L N) 0 1000) 1000 67 74 2 f67.c0 (rdK (E67 L N) 1000 67 74 0 κ rec)) L (f67.T1 s4 s5 s6 s7) (f67.H1 s4 s5 s6 s7)) s0 s1 s2) (by kernel_rfl) ?_
  unfold f67.s0
  simp only [f67.l1_eq, f67.p1_e2_eq]
theorem f67.l0_eq {R : Type} (L N : Nat) (κ : Ex → T → H → Option R) : ∀ (n : Nat) (s0 : LM) (s1 : Int) (s2 : LM),
    evLp (E67 L N) (evCallI (E67 L N) 0 1000) 1000 67 74 0 f67.c0 κ n (f67.T0 s0 s1 s2) (f67.H0 s0 s1 s2)
    = f67.l0 L N (fun z3 => κ (.exit 0) (f67.T0_e0 z3) (f67.H0_e0 z3)) n s0 s1 s2 := by
  intro n
  induction n with
  | zero => intros; rfl
  | succ n ih =>
    intro s0 s1 s2
    rw [evLp_succ, f67.s0_eq]
    simp only [ih]
    rfl
theorem f67.p0_e0_eq {R : Type} (L N : Nat) (κ : RN.Den .row → List Move → Option R) (z3 : LM) :
    (contAt (E67 L N) (evCallI (E67 L N) 0 1000) 1000 67 74 0 (codeOf Tryz.f67) (finK (E67 L N) 1000 Tryz.f67 (finN .row none 50 (.st 0) κ))) (.exit 0) (f67.T0_e0 z3) (f67.H0_e0 z3)
    = f67.p0_e0 L N (fun a0 => κ () a0) z3 := by kernel_rfl
theorem f67.b_eq {R : Type} (L N : Nat) (κ : RN.Den .row → List Move → Option R) (x0 : LM) :
    evBody (E67 L N) (evCallI (E67 L N) 0 1000) 1000 67 Tryz.f67 [(.tv (.sl (.st 0)) x0)] [] [] (finN .row none 50 (.st 0) κ)
    = f67.b L N (fun a0 => κ () a0) x0 := by
  refine Eq.trans (b := f67.b' L N (fun a0 => κ () a0) (fun s0 s1 s2 => evLp (E67 L N) (evCallI (E67 L N) 0 1000) 1000 67 74 0 f67.c0 (contAt (E67 L N) (evCallI (E67 L N) 0 1000) 1000 67 74 0 (codeOf Tryz.f67) (finK (E67 L N) 1000 Tryz.f67 (finN .row none 50 (.st 0) κ))) L (f67.T0 s0 s1 s2) (f67.H0 s0 s1 s2)) x0) (by kernel_rfl) ?_
  unfold f67.b
  simp only [f67.l0_eq, f67.p0_e0_eq]
theorem f67.ok (L N : Nat) (hΦ : TellsOk Tryz.prog ((Φ42 L N))) : EntOk Tryz.prog 67 (f67.ent L N) := by
  intro args vw site h
  unfold f67.ent
  split
  · rename_i d ha
    intro y hy hs
    refine call_ron (y := y) (dep := 1000) (E := (E67 L N)) (ts := [(.sl (.st 0))]) (rn := .row) (q := none) (el := 50) (ty := (.st 0)) (d1 := ()) (xs := y) (κ := (fun d xs => some xs)) (sound_of hΦ) okP (callI_sound (sound_of hΦ) okP 0 1000) (f := Tryz.f67) rfl hs ha ?_ (fun _ _ h => by obtain rfl := Option.some.inj h; exact ⟨rfl, rfl⟩) rfl site
    exact (f67.b_eq L N (fun d xs => some xs) d.1).trans (Eq.trans (b := f67.b L N some d.1) (by kernel_rfl) hy)
  · intro y hy
    cases hy
def Φ67 (L N : Nat) : Tells := (addT (Φ42 L N) 67 (f67.ent L N))
theorem Φ67_ok (L N : Nat) : TellsOk Tryz.prog (Φ67 L N) := addT_ok (Φ42_ok L N) (f67.ok L N (Φ42_ok L N))
def f103.b' {R : Type} (L N : Nat) (self103 : Int → Option (ByteArray)) (k : ByteArray → Option R) (x0 : Int) : Option R :=
  bif (decide (x0 < (-9223372036854775807 : Int))) then
    k (ByteArray.mk #[45, 57, 50, 50, 51, 51, 55, 50, 48, 51, 54, 56, 53, 52, 55, 55, 53, 56, 48, 56])
  else bif (decide (x0 < (0 : Int))) then
    (self103 (wi (0 - x0))).bind fun y0 =>
    bif (decide ((ByteArray.mk #[45]).size + y0.size ≤ 4611686018427387904)) then
      k ((ByteArray.mk #[45]) ++ y0)
    else none
  else bif (decide (x0 < (10 : Int))) then
    k (strOfNums ([(IntKind.wrap .u8 ((wi ((48 : Int) + x0))))] : LI))
  else bif (decide ((10 : Int) = 0)) then
    none
  else (self103 (wi (Int.tdiv x0 (10 : Int)))).bind fun y1 =>
  bif (decide ((10 : Int) = 0)) then
    none
  else bif (decide (y1.size + (strOfNums ([(IntKind.wrap .u8 ((wi ((48 : Int) + (Int.tmod x0 (10 : Int))))))] : LI)).size ≤ 4611686018427387904)) then
    k (y1 ++ (strOfNums ([(IntKind.wrap .u8 ((wi ((48 : Int) + (Int.tmod x0 (10 : Int))))))] : LI)))
  else none
def f103.b {R : Type} (L N : Nat) (self103 : Int → Option (ByteArray)) (k : ByteArray → Option R) (x0 : Int) : Option R :=
  f103.b' L N self103 k x0
def f103 (L N : Nat) : Nat → Int → Option (ByteArray)
  | 0, _ => none
  | n + 1, x0 => f103.b L N (f103 L N n) some x0
def f103.ent (L N m : Nat) (args : List AV) (vw : View) (site : Nat) : Ans := match roD [i64] vw args with
  | some d => ⟨ByteArray, f103 L N m d.1, fun y => ((.tv .str y), [], [])⟩
  | none => Ans.no
def Φ103s (L N m : Nat) : Tells := (addT (Φ67 L N) 103 (f103.ent L N m))
noncomputable def E103 (L N m : Nat) : Env := { P := Tryz.prog, ty := tyOf, Φ := Φ103s L N m, inl := inlT, live := lives, liveX := livesX, L := L, dp := none, prom := promT, heal := healT, ren := renT }
theorem f103.b_eq {R : Type} (L N m : Nat) (κ : AV → Option R) (x0 : Int) :
    evBody (E103 L N m) (evCallI (E103 L N m) 0 1000) 1000 103 Tryz.f103 [(.tv i64 x0)] [] [] (finC (.one .str) κ)
    = f103.b L N (f103 L N m) (fun a0 => κ (.tv .str a0)) x0 := by kernel_rfl
theorem f103.ok (L N m : Nat) (hΦ : TellsOk Tryz.prog (Φ103s L N m)) : EntOk Tryz.prog 103 (f103.ent L N (m + 1)) := by
  intro args vw site h
  unfold f103.ent
  split
  · rename_i d ha
    intro y hy hs
    refine call_ro (dep := 1000) (E := (E103 L N m)) (rs := (.one .str)) (κ := unR (.one .str)) (sound_of hΦ) okP (callI_sound (sound_of hΦ) okP 0 1000) (f := Tryz.f103) rfl hs ha ?_ (fun _ h => unR_some h) rfl site
    exact (f103.b_eq L N m (unR (.one .str)) d.1).trans (Eq.trans (b := f103.b L N (f103 L N m) some d.1) (by kernel_rfl) hy)
  · intro y hy
    cases hy
theorem Φ103s_ok (L N : Nat) : ∀ m, TellsOk Tryz.prog (Φ103s L N m) := by
  intro m
  induction m with
  | zero => exact (addT_ok (Φ67_ok L N) (fun args vw site h => by unfold f103.ent; split <;> (intro y hy; cases hy)))
  | succ m ih => exact (addT_ok (Φ67_ok L N) (f103.ok L N m ih))
def Φ103 (L N : Nat) : Tells := (addT (Φ67 L N) 103 (f103.ent L N N))
theorem Φ103_ok (L N : Nat) : TellsOk Tryz.prog (Φ103 L N) := Φ103s_ok L N N
def f104.b' {R : Type} (L N : Nat) (k : LY → Option R) : Option R :=
  k ([(ByteArray.mk #[]), (ByteArray.mk #[97, 99, 116]), (ByteArray.mk #[115, 117, 109]), (ByteArray.mk #[112, 97, 114]), (ByteArray.mk #[104, 105, 100, 101])] : LY)
def f104.b {R : Type} (L N : Nat) (k : LY → Option R) : Option R :=
  f104.b' L N k
def f104 (L N : Nat) : Option (LY) := f104.b L N some
def f104.ent (L N : Nat) (args : List AV) (vw : View) (site : Nat) : Ans := match coeD [] vw args with
  | some (d, u) => ⟨LY, f104 L N, fun y => ((.tv (.sl .str) y), u, [])⟩
  | none => Ans.no
noncomputable def E104 (L N : Nat) : Env := { P := Tryz.prog, ty := tyOf, Φ := (Φ103 L N), inl := inlT, live := lives, liveX := livesX, L := L, dp := none, prom := promT, heal := healT, ren := renT }
theorem f104.b_eq {R : Type} (L N : Nat) (κ : AV → Option R) :
    evBody (E104 L N) (evCallI (E104 L N) 0 1000) 1000 104 Tryz.f104 [] [] [] (finC (.one (.sl .str)) κ)
    = f104.b L N (fun a0 => κ (.tv (.sl .str) a0)) := by kernel_rfl
theorem f104.ok (L N : Nat) (hΦ : TellsOk Tryz.prog ((Φ103 L N))) : EntOk Tryz.prog 104 (f104.ent L N) := by
  intro args vw site h
  unfold f104.ent
  split
  · rename_i d u ha
    intro y hy hs
    refine call_data (dep := 1000) (E := (E104 L N)) (rs := (.one (.sl .str))) (κ := unR (.one (.sl .str))) (sound_of hΦ) okP (callI_sound (sound_of hΦ) okP 0 1000) (f := Tryz.f104) rfl hs ha ?_ (fun _ h => unR_some h) site
    exact (f104.b_eq L N (unR (.one (.sl .str)))).trans (Eq.trans (b := f104.b L N some) (by kernel_rfl) hy)
  · intro y hy
    cases hy
def Φ104 (L N : Nat) : Tells := (addT (Φ103 L N) 104 (f104.ent L N))
theorem Φ104_ok (L N : Nat) : TellsOk Tryz.prog (Φ104 L N) := addT_ok (Φ103_ok L N) (f104.ok L N (Φ103_ok L N))
def f106.b' {R : Type} (L N : Nat) (k : Int → Option R) (x0 : Int) : Option R :=
  k (wi ((bif decide ((wi (0 - x0)) > x0) then (wi (0 - x0)) else x0) - (1 : Int)))
def f106.b {R : Type} (L N : Nat) (k : Int → Option R) (x0 : Int) : Option R :=
  f106.b' L N k x0
def f106 (L N : Nat) (x0 : Int) : Option (Int) := f106.b L N some x0
def f106.ent (L N : Nat) (args : List AV) (vw : View) (site : Nat) : Ans := match roD [i64] vw args with
  | some d => ⟨Int, f106 L N d.1, fun y => ((.tv i64 y), [], [])⟩
  | none => Ans.no
noncomputable def E106 (L N : Nat) : Env := { P := Tryz.prog, ty := tyOf, Φ := (Φ104 L N), inl := inlT, live := lives, liveX := livesX, L := L, dp := none, prom := promT, heal := healT, ren := renT }
theorem f106.b_eq {R : Type} (L N : Nat) (κ : AV → Option R) (x0 : Int) :
    evBody (E106 L N) (evCallI (E106 L N) 0 1000) 1000 106 Tryz.f106 [(.tv i64 x0)] [] [] (finC (.one i64) κ)
    = f106.b L N (fun a0 => κ (.tv i64 a0)) x0 := by kernel_rfl
theorem f106.ok (L N : Nat) (hΦ : TellsOk Tryz.prog ((Φ104 L N))) : EntOk Tryz.prog 106 (f106.ent L N) := by
  intro args vw site h
  unfold f106.ent
  split
  · rename_i d ha
    intro y hy hs
    refine call_ro (dep := 1000) (E := (E106 L N)) (rs := (.one i64)) (κ := unR (.one i64)) (sound_of hΦ) okP (callI_sound (sound_of hΦ) okP 0 1000) (f := Tryz.f106) rfl hs ha ?_ (fun _ h => unR_some h) rfl site
    exact (f106.b_eq L N (unR (.one i64)) d.1).trans (Eq.trans (b := f106.b L N some d.1) (by kernel_rfl) hy)
  · intro y hy
    cases hy
def Φ106 (L N : Nat) : Tells := (addT (Φ104 L N) 106 (f106.ent L N))
theorem Φ106_ok (L N : Nat) : TellsOk Tryz.prog (Φ106 L N) := addT_ok (Φ104_ok L N) (f106.ok L N (Φ104_ok L N))
def f105.b' {R : Type} (L N : Nat) (k : ByteArray → Option R) (x0 : Int) : Option R :=
  bif (x0 == (0 : Int)) then
    k (ByteArray.mk #[116, 97, 117])
  else bif (decide (x0 < (0 : Int))) then
    (f106 L N x0).bind fun y0 =>
    (f106 L N x0).bind fun y1 =>
    bif (slB y0 (wi (y1 + (1 : Int))) (ByteArray.mk #[97, 98, 99, 100]).size) then
      bif (decide ((ByteArray.mk #[33]).size + ((ByteArray.mk #[97, 98, 99, 100]).extract y0.toNat (wi (y1 + (1 : Int))).toNat).size ≤ 4611686018427387904)) then
        k ((ByteArray.mk #[33]) ++ ((ByteArray.mk #[97, 98, 99, 100]).extract y0.toNat (wi (y1 + (1 : Int))).toNat))
      else none
    else none
  else (f106 L N x0).bind fun y2 =>
  (f106 L N x0).bind fun y3 =>
  bif (slB y2 (wi (y3 + (1 : Int))) (ByteArray.mk #[97, 98, 99, 100]).size) then
    k ((ByteArray.mk #[97, 98, 99, 100]).extract y2.toNat (wi (y3 + (1 : Int))).toNat)
  else none
def f105.b {R : Type} (L N : Nat) (k : ByteArray → Option R) (x0 : Int) : Option R :=
  f105.b' L N k x0
def f105 (L N : Nat) (x0 : Int) : Option (ByteArray) := f105.b L N some x0
def f105.ent (L N : Nat) (args : List AV) (vw : View) (site : Nat) : Ans := match roD [i64] vw args with
  | some d => ⟨ByteArray, f105 L N d.1, fun y => ((.tv .str y), [], [])⟩
  | none => Ans.no
noncomputable def E105 (L N : Nat) : Env := { P := Tryz.prog, ty := tyOf, Φ := (Φ106 L N), inl := inlT, live := lives, liveX := livesX, L := L, dp := none, prom := promT, heal := healT, ren := renT }
theorem f105.b_eq {R : Type} (L N : Nat) (κ : AV → Option R) (x0 : Int) :
    evBody (E105 L N) (evCallI (E105 L N) 0 1000) 1000 105 Tryz.f105 [(.tv i64 x0)] [] [] (finC (.one .str) κ)
    = f105.b L N (fun a0 => κ (.tv .str a0)) x0 := by kernel_rfl
theorem f105.ok (L N : Nat) (hΦ : TellsOk Tryz.prog ((Φ106 L N))) : EntOk Tryz.prog 105 (f105.ent L N) := by
  intro args vw site h
  unfold f105.ent
  split
  · rename_i d ha
    intro y hy hs
    refine call_ro (dep := 1000) (E := (E105 L N)) (rs := (.one .str)) (κ := unR (.one .str)) (sound_of hΦ) okP (callI_sound (sound_of hΦ) okP 0 1000) (f := Tryz.f105) rfl hs ha ?_ (fun _ h => unR_some h) rfl site
    exact (f105.b_eq L N (unR (.one .str)) d.1).trans (Eq.trans (b := f105.b L N some d.1) (by kernel_rfl) hy)
  · intro y hy
    cases hy
def Φ105 (L N : Nat) : Tells := (addT (Φ106 L N) 105 (f105.ent L N))
theorem Φ105_ok (L N : Nat) : TellsOk Tryz.prog (Φ105 L N) := addT_ok (Φ106_ok L N) (f105.ok L N (Φ106_ok L N))
def f82.s0' {R : Type} (L N : Nat) (self82 : Tree → Option (ByteArray)) (k0_e1 : ByteArray → Option R) (rec0 : ByteArray → Int → Int → Int → LT → Option R) (s12 : ByteArray) (s13 : Int) (s14 : Int) (s15 : Int) (s16 : LT) : Option R :=
  bif (decide (s13 < (s16.length : Int))) then
    bif (decide (s12.size + (ByteArray.mk #[32]).size ≤ 4611686018427387904)) then
      bif (decide (0 ≤ s13) && decide (s13 < (s16.length : Int))) then
        (self82 (listAt s16 (Ty.dflt (.st 1)) s13.toNat)).bind fun y18 =>
        bif (decide ((s12 ++ (ByteArray.mk #[32])).size + y18.size ≤ 4611686018427387904)) then
          rec0 ((s12 ++ (ByteArray.mk #[32])) ++ y18) (wi (s13 + (1 : Int))) s14 s15 s16
        else none
      else none
    else none
  else k0_e1 s12
def f82.s0 {R : Type} (L N : Nat) (self82 : Tree → Option (ByteArray)) (k0_e1 : ByteArray → Option R) (rec0 : ByteArray → Int → Int → Int → LT → Option R) (s12 : ByteArray) (s13 : Int) (s14 : Int) (s15 : Int) (s16 : LT) : Option R :=
  f82.s0' L N self82 k0_e1 rec0 s12 s13 s14 s15 s16
def f82.l0 {R : Type} (L N : Nat) (self82 : Tree → Option (ByteArray)) (k0_e1 : ByteArray → Option R) : Nat → ByteArray → Int → Int → Int → LT → Option R
  | 0, _, _, _, _, _ => none
  | n + 1, s12, s13, s14, s15, s16 => f82.s0 L N self82 k0_e1 (f82.l0 L N self82 k0_e1 n) s12 s13 s14 s15 s16
def f82.T0 (s12 : ByteArray) (s13 : Int) (s14 : Int) (s15 : Int) (s16 : LT) : T := mkT 58 [(1, (.ptr 1001 0)), (3, (.tv .str s12)), (4, (.tv i64 s13))]
def f82.H0 (s12 : ByteArray) (s13 : Int) (s14 : Int) (s15 : Int) (s16 : LT) : H := [(1001, (.box [(.tv i64 s14), (.tv i64 s15), (.tv (.sl (.st 1)) s16)]))]
def f82.T0_e1 (z17 : ByteArray) : T := mkT 58 [(3, (.tv .str z17))]
def f82.H0_e1 (z17 : ByteArray) : H := []
def f82.p0_e1' {R : Type} (L N : Nat) (self82 : Tree → Option (ByteArray)) (k : ByteArray → Option R) (z17 : ByteArray) : Option R :=
  bif (decide (z17.size + (ByteArray.mk #[41]).size ≤ 4611686018427387904)) then
    k (z17 ++ (ByteArray.mk #[41]))
  else none
def f82.p0_e1 {R : Type} (L N : Nat) (self82 : Tree → Option (ByteArray)) (k : ByteArray → Option R) (z17 : ByteArray) : Option R :=
  f82.p0_e1' L N self82 k z17
def f82.j0' {R : Type} (L N : Nat) (self82 : Tree → Option (ByteArray)) (k : ByteArray → Option R) (w0 : ByteArray → Int → Int → Int → LT → Option R) (v8 : ByteArray) (v9 : Int) (v10 : Int) (v11 : LT) : Option R :=
  w0 v8 (0 : Int) v9 v10 v11
def f82.j1' {R : Type} (L N : Nat) (self82 : Tree → Option (ByteArray)) (k : ByteArray → Option R) (w0 : ByteArray → Int → Int → Int → LT → Option R) (v3 : ByteArray) (v4 : Int) (v5 : Int) (v6 : LT) : Option R :=
  bif (v4 == (4 : Int)) then
    bif (decide (v3.size + (ByteArray.mk #[32]).size ≤ 4611686018427387904)) then
      (f105 L N (wi (v5 + (1 : Int)))).bind fun y7 =>
      bif (decide ((v3 ++ (ByteArray.mk #[32])).size + y7.size ≤ 4611686018427387904)) then
        f82.j0' L N self82 k w0 ((v3 ++ (ByteArray.mk #[32])) ++ y7) v4 v5 v6
      else none
    else none
  else f82.j0' L N self82 k w0 v3 v4 v5 v6
def f82.b' {R : Type} (L N : Nat) (self82 : Tree → Option (ByteArray)) (k : ByteArray → Option R) (w0 : ByteArray → Int → Int → Int → LT → Option R) (x0 : Tree) : Option R :=
  bif (x0.op == (0 : Int)) then
    k (ByteArray.mk #[48])
  else bif (x0.op == (5 : Int)) then
    (f103 L N N x0.n).bind fun y0 =>
    bif (decide ((ByteArray.mk #[88]).size + y0.size ≤ 4611686018427387904)) then
      k ((ByteArray.mk #[88]) ++ y0)
    else none
  else (f104 L N).bind fun y1 =>
  bif (decide (0 ≤ x0.op) && decide (x0.op < (y1.length : Int))) then
    bif (decide ((ByteArray.mk #[40]).size + (listAt y1 ByteArray.empty x0.op.toNat).size ≤ 4611686018427387904)) then
      bif (x0.op == (1 : Int)) then
        bif (decide (((ByteArray.mk #[40]) ++ (listAt y1 ByteArray.empty x0.op.toNat)).size + (ByteArray.mk #[32]).size ≤ 4611686018427387904)) then
          (f105 L N x0.n).bind fun y2 =>
          bif (decide ((((ByteArray.mk #[40]) ++ (listAt y1 ByteArray.empty x0.op.toNat)) ++ (ByteArray.mk #[32])).size + y2.size ≤ 4611686018427387904)) then
            f82.j1' L N self82 k w0 ((((ByteArray.mk #[40]) ++ (listAt y1 ByteArray.empty x0.op.toNat)) ++ (ByteArray.mk #[32])) ++ y2) x0.op x0.n x0.parts
          else none
        else none
      else f82.j1' L N self82 k w0 ((ByteArray.mk #[40]) ++ (listAt y1 ByteArray.empty x0.op.toNat)) x0.op x0.n x0.parts
    else none
  else none
def f82.b {R : Type} (L N : Nat) (self82 : Tree → Option (ByteArray)) (k : ByteArray → Option R) (x0 : Tree) : Option R :=
  f82.b' L N self82 k (fun s12 s13 s14 s15 s16 => f82.l0 L N self82 (fun z17 => f82.p0_e1 L N self82 k z17) L s12 s13 s14 s15 s16) x0
def f82 (L N : Nat) : Nat → Tree → Option (ByteArray)
  | 0, _ => none
  | n + 1, x0 => f82.b L N (f82 L N n) some x0
def f82.ent (L N m : Nat) (args : List AV) (vw : View) (site : Nat) : Ans := match roD [(.st 1)] vw args with
  | some d => ⟨ByteArray, f82 L N m d.1, fun y => ((.tv .str y), [], [])⟩
  | none => Ans.no
def Φ82s (L N m : Nat) : Tells := (addT (Φ105 L N) 82 (f82.ent L N m))
noncomputable def E82 (L N m : Nat) : Env := { P := Tryz.prog, ty := tyOf, Φ := Φ82s L N m, inl := inlT, live := lives, liveX := livesX, L := L, dp := none, prom := promT, heal := healT, ren := renT }
noncomputable def f82.c0 : Code := loopAt 1 (codeOf Tryz.f82)
theorem f82.s0_eq {R : Type} (L N m : Nat) (κ : Ex → T → H → Option R) (rec : T → H → Option R) (s12 : ByteArray) (s13 : Int) (s14 : Int) (s15 : Int) (s16 : LT) :
    evRd (E82 L N m) (evCallI (E82 L N m) 0 1000) 1000 82 58 1 f82.c0 κ rec (f82.T0 s12 s13 s14 s15 s16) (f82.H0 s12 s13 s14 s15 s16)
    = f82.s0 L N (f82 L N m) (fun z17 => κ (.exit 1) (f82.T0_e1 z17) (f82.H0_e1 z17)) (fun s12 s13 s14 s15 s16 => rec (f82.T0 s12 s13 s14 s15 s16) (f82.H0 s12 s13 s14 s15 s16)) s12 s13 s14 s15 s16 := by kernel_rfl
theorem f82.l0_eq {R : Type} (L N m : Nat) (κ : Ex → T → H → Option R) : ∀ (n : Nat) (s12 : ByteArray) (s13 : Int) (s14 : Int) (s15 : Int) (s16 : LT),
    evLp (E82 L N m) (evCallI (E82 L N m) 0 1000) 1000 82 58 1 f82.c0 κ n (f82.T0 s12 s13 s14 s15 s16) (f82.H0 s12 s13 s14 s15 s16)
    = f82.l0 L N (f82 L N m) (fun z17 => κ (.exit 1) (f82.T0_e1 z17) (f82.H0_e1 z17)) n s12 s13 s14 s15 s16 := by
  intro n
  induction n with
  | zero => intros; rfl
  | succ n ih =>
    intro s12 s13 s14 s15 s16
    rw [evLp_succ, f82.s0_eq]
    simp only [ih]
    rfl
theorem f82.p0_e1_eq {R : Type} (L N m : Nat) (κ : AV → Option R) (z17 : ByteArray) :
    (contAt (E82 L N m) (evCallI (E82 L N m) 0 1000) 1000 82 58 1 (codeOf Tryz.f82) (finK (E82 L N m) 1000 Tryz.f82 (finC (.one .str) κ))) (.exit 1) (f82.T0_e1 z17) (f82.H0_e1 z17)
    = f82.p0_e1 L N (f82 L N m) (fun a0 => κ (.tv .str a0)) z17 := by kernel_rfl
theorem f82.b_eq {R : Type} (L N m : Nat) (κ : AV → Option R) (x0 : Tree) :
    evBody (E82 L N m) (evCallI (E82 L N m) 0 1000) 1000 82 Tryz.f82 [(.tv (.st 1) x0)] [] [] (finC (.one .str) κ)
    = f82.b L N (f82 L N m) (fun a0 => κ (.tv .str a0)) x0 := by
  refine Eq.trans (b := f82.b' L N (f82 L N m) (fun a0 => κ (.tv .str a0)) (fun s12 s13 s14 s15 s16 => evLp (E82 L N m) (evCallI (E82 L N m) 0 1000) 1000 82 58 1 f82.c0 (contAt (E82 L N m) (evCallI (E82 L N m) 0 1000) 1000 82 58 1 (codeOf Tryz.f82) (finK (E82 L N m) 1000 Tryz.f82 (finC (.one .str) κ))) L (f82.T0 s12 s13 s14 s15 s16) (f82.H0 s12 s13 s14 s15 s16)) x0) (by kernel_rfl) ?_
  unfold f82.b
  simp only [f82.l0_eq, f82.p0_e1_eq]
theorem f82.ok (L N m : Nat) (hΦ : TellsOk Tryz.prog (Φ82s L N m)) : EntOk Tryz.prog 82 (f82.ent L N (m + 1)) := by
  intro args vw site h
  unfold f82.ent
  split
  · rename_i d ha
    intro y hy hs
    refine call_ro (dep := 1000) (E := (E82 L N m)) (rs := (.one .str)) (κ := unR (.one .str)) (sound_of hΦ) okP (callI_sound (sound_of hΦ) okP 0 1000) (f := Tryz.f82) rfl hs ha ?_ (fun _ h => unR_some h) rfl site
    exact (f82.b_eq L N m (unR (.one .str)) d.1).trans (Eq.trans (b := f82.b L N (f82 L N m) some d.1) (by kernel_rfl) hy)
  · intro y hy
    cases hy
theorem Φ82s_ok (L N : Nat) : ∀ m, TellsOk Tryz.prog (Φ82s L N m) := by
  intro m
  induction m with
  | zero => exact (addT_ok (Φ105_ok L N) (fun args vw site h => by unfold f82.ent; split <;> (intro y hy; cases hy)))
  | succ m ih => exact (addT_ok (Φ105_ok L N) (f82.ok L N m ih))
def Φ82 (L N : Nat) : Tells := (addT (Φ105 L N) 82 (f82.ent L N N))
theorem Φ82_ok (L N : Nat) : TellsOk Tryz.prog (Φ82 L N) := Φ82s_ok L N N
def f83.s0' {R : Type} (L N : Nat) (self83 : Tree → LT → Option (LS)) (k0_e1 : Int → Int → LT → LS → LS → LS → Option R) (rec0 : Int → Int → Int → LT → LS → LS → LS → Option R) (s4 : Int) (s5 : Int) (s6 : Int) (s7 : LT) (s8 : LS) (s9 : LS) (s10 : LS) : Option R :=
  bif (decide (s4 < (s9.length : Int))) then
    bif (decide (0 ≤ s4) && decide (s4 < (s9.length : Int))) then
      bif (decide (0 ≤ s4) && decide (s4 < (s9.length : Int))) then
        bif (decide (0 ≤ (1 : Int)) && decide ((1 : Int) < (s7.length : Int))) then
          bif (decide (s8.length + ([(Step.mk ((listAt s9 (Ty.dflt (.st 3)) s4.toNat).act) (Tree.mk (3 : Int) (0 : Int) ([(Tree.mk ((listAt s9 (Ty.dflt (.st 3)) s4.toNat).thn.op) ((listAt s9 (Ty.dflt (.st 3)) s4.toNat).thn.n) ((listAt s9 (Ty.dflt (.st 3)) s4.toNat).thn.parts)), (listAt s7 (Ty.dflt (.st 1)) (1 : Int).toNat)] : LT)))] : LS).length ≤ lim)) then
            rec0 (wi (s4 + (1 : Int))) s5 s6 s7 (s8 ++ ([(Step.mk ((listAt s9 (Ty.dflt (.st 3)) s4.toNat).act) (Tree.mk (3 : Int) (0 : Int) ([(Tree.mk ((listAt s9 (Ty.dflt (.st 3)) s4.toNat).thn.op) ((listAt s9 (Ty.dflt (.st 3)) s4.toNat).thn.n) ((listAt s9 (Ty.dflt (.st 3)) s4.toNat).thn.parts)), (listAt s7 (Ty.dflt (.st 1)) (1 : Int).toNat)] : LT)))] : LS)) s9 s10
          else none
        else none
      else none
    else none
  else k0_e1 s5 s6 s7 s8 s9 s10
def f83.s0 {R : Type} (L N : Nat) (self83 : Tree → LT → Option (LS)) (k0_e1 : Int → Int → LT → LS → LS → LS → Option R) (rec0 : Int → Int → Int → LT → LS → LS → LS → Option R) (s4 : Int) (s5 : Int) (s6 : Int) (s7 : LT) (s8 : LS) (s9 : LS) (s10 : LS) : Option R :=
  f83.s0' L N self83 k0_e1 rec0 s4 s5 s6 s7 s8 s9 s10
def f83.l0 {R : Type} (L N : Nat) (self83 : Tree → LT → Option (LS)) (k0_e1 : Int → Int → LT → LS → LS → LS → Option R) : Nat → Int → Int → Int → LT → LS → LS → LS → Option R
  | 0, _, _, _, _, _, _, _ => none
  | n + 1, s4, s5, s6, s7, s8, s9, s10 => f83.s0 L N self83 k0_e1 (f83.l0 L N self83 k0_e1 n) s4 s5 s6 s7 s8 s9 s10
def f83.T0 (s4 : Int) (s5 : Int) (s6 : Int) (s7 : LT) (s8 : LS) (s9 : LS) (s10 : LS) : T := mkT 217 [(2, (.ptr 1002 0)), (5, (.row 1014)), (6, (.row 1051)), (7, (.row 1057)), (8, (.tv i64 s4))]
def f83.H0 (s4 : Int) (s5 : Int) (s6 : Int) (s7 : LT) (s8 : LS) (s9 : LS) (s10 : LS) : H := [(1002, (.box [(.tv i64 s5), (.tv i64 s6), (.tv (.sl (.st 1)) s7)])), (1014, (.row 106 (.st 3) s8)), (1051, (.row 106 (.st 3) s9)), (1057, (.row 106 (.st 3) s10))]
def f83.T0_e1 (z11 : Int) (z12 : Int) (z13 : LT) (z14 : LS) (z15 : LS) (z16 : LS) : T := mkT 217 [(2, (.ptr 1002 0)), (5, (.row 1014)), (6, (.row 1051)), (7, (.row 1057))]
def f83.H0_e1 (z11 : Int) (z12 : Int) (z13 : LT) (z14 : LS) (z15 : LS) (z16 : LS) : H := [(1002, (.box [(.tv i64 z11), (.tv i64 z12), (.tv (.sl (.st 1)) z13)])), (1014, (.row 106 (.st 3) z14)), (1051, (.row 106 (.st 3) z15)), (1057, (.row 106 (.st 3) z16))]
def f83.s1' {R : Type} (L N : Nat) (self83 : Tree → LT → Option (LS)) (k1_e3 : LS → LS → LS → Option R) (rec1 : Int → Int → Int → LT → LS → LS → LS → Option R) (s17 : Int) (s18 : Int) (s19 : Int) (s20 : LT) (s21 : LS) (s22 : LS) (s23 : LS) : Option R :=
  bif (decide (s17 < (s23.length : Int))) then
    bif (decide (0 ≤ s17) && decide (s17 < (s23.length : Int))) then
      bif (decide (0 ≤ (0 : Int)) && decide ((0 : Int) < (s20.length : Int))) then
        bif (decide (0 ≤ s17) && decide (s17 < (s23.length : Int))) then
          bif (decide (s21.length + ([(Step.mk ((listAt s23 (Ty.dflt (.st 3)) s17.toNat).act) (Tree.mk (3 : Int) (0 : Int) ([(listAt s20 (Ty.dflt (.st 1)) (0 : Int).toNat), (Tree.mk ((listAt s23 (Ty.dflt (.st 3)) s17.toNat).thn.op) ((listAt s23 (Ty.dflt (.st 3)) s17.toNat).thn.n) ((listAt s23 (Ty.dflt (.st 3)) s17.toNat).thn.parts))] : LT)))] : LS).length ≤ lim)) then
            rec1 (wi (s17 + (1 : Int))) s18 s19 s20 (s21 ++ ([(Step.mk ((listAt s23 (Ty.dflt (.st 3)) s17.toNat).act) (Tree.mk (3 : Int) (0 : Int) ([(listAt s20 (Ty.dflt (.st 1)) (0 : Int).toNat), (Tree.mk ((listAt s23 (Ty.dflt (.st 3)) s17.toNat).thn.op) ((listAt s23 (Ty.dflt (.st 3)) s17.toNat).thn.n) ((listAt s23 (Ty.dflt (.st 3)) s17.toNat).thn.parts))] : LT)))] : LS)) s22 s23
          else none
        else none
      else none
    else none
  else k1_e3 s21 s22 s23
def f83.s1 {R : Type} (L N : Nat) (self83 : Tree → LT → Option (LS)) (k1_e3 : LS → LS → LS → Option R) (rec1 : Int → Int → Int → LT → LS → LS → LS → Option R) (s17 : Int) (s18 : Int) (s19 : Int) (s20 : LT) (s21 : LS) (s22 : LS) (s23 : LS) : Option R :=
  f83.s1' L N self83 k1_e3 rec1 s17 s18 s19 s20 s21 s22 s23
def f83.l1 {R : Type} (L N : Nat) (self83 : Tree → LT → Option (LS)) (k1_e3 : LS → LS → LS → Option R) : Nat → Int → Int → Int → LT → LS → LS → LS → Option R
  | 0, _, _, _, _, _, _, _ => none
  | n + 1, s17, s18, s19, s20, s21, s22, s23 => f83.s1 L N self83 k1_e3 (f83.l1 L N self83 k1_e3 n) s17 s18 s19 s20 s21 s22 s23
def f83.T1 (s17 : Int) (s18 : Int) (s19 : Int) (s20 : LT) (s21 : LS) (s22 : LS) (s23 : LS) : T := mkT 217 [(2, (.ptr 1002 0)), (5, (.row 1014)), (6, (.row 1051)), (7, (.row 1057)), (9, (.tv i64 s17))]
def f83.H1 (s17 : Int) (s18 : Int) (s19 : Int) (s20 : LT) (s21 : LS) (s22 : LS) (s23 : LS) : H := [(1002, (.box [(.tv i64 s18), (.tv i64 s19), (.tv (.sl (.st 1)) s20)])), (1014, (.row 106 (.st 3) s21)), (1051, (.row 106 (.st 3) s22)), (1057, (.row 106 (.st 3) s23))]
def f83.T1_e3 (z24 : LS) (z25 : LS) (z26 : LS) : T := mkT 217 [(5, (.row 1014)), (6, (.row 1051)), (7, (.row 1057))]
def f83.H1_e3 (z24 : LS) (z25 : LS) (z26 : LS) : H := [(1014, (.row 106 (.st 3) z24)), (1051, (.row 106 (.st 3) z25)), (1057, (.row 106 (.st 3) z26))]
def f83.j0' {R : Type} (L N : Nat) (self83 : Tree → LT → Option (LS)) (k3_e7 : Int → LS → LS → LS → Option R) (rec3 : Int → Int → LS → LS → LS → Option R) (v41 : Int) (v42 : Int) (v43 : Bool) (v44 : LS) (v45 : LS) (v46 : LS) : Option R :=
  bif v43 then
    bif (decide (0 ≤ v41) && decide (v41 < (v45.length : Int))) then
      bif (decide (0 ≤ v42) && decide (v42 < (v46.length : Int))) then
        bif (decide (v44.length + ([(Step.mk (0 : Int) (Tree.mk (3 : Int) (0 : Int) ([(Tree.mk ((listAt v45 (Ty.dflt (.st 3)) v41.toNat).thn.op) ((listAt v45 (Ty.dflt (.st 3)) v41.toNat).thn.n) ((listAt v45 (Ty.dflt (.st 3)) v41.toNat).thn.parts)), (Tree.mk ((listAt v46 (Ty.dflt (.st 3)) v42.toNat).thn.op) ((listAt v46 (Ty.dflt (.st 3)) v42.toNat).thn.n) ((listAt v46 (Ty.dflt (.st 3)) v42.toNat).thn.parts))] : LT)))] : LS).length ≤ lim)) then
          rec3 v41 (wi (v42 + (1 : Int))) (v44 ++ ([(Step.mk (0 : Int) (Tree.mk (3 : Int) (0 : Int) ([(Tree.mk ((listAt v45 (Ty.dflt (.st 3)) v41.toNat).thn.op) ((listAt v45 (Ty.dflt (.st 3)) v41.toNat).thn.n) ((listAt v45 (Ty.dflt (.st 3)) v41.toNat).thn.parts)), (Tree.mk ((listAt v46 (Ty.dflt (.st 3)) v42.toNat).thn.op) ((listAt v46 (Ty.dflt (.st 3)) v42.toNat).thn.n) ((listAt v46 (Ty.dflt (.st 3)) v42.toNat).thn.parts))] : LT)))] : LS)) v45 v46
        else none
      else none
    else none
  else rec3 v41 (wi (v42 + (1 : Int))) v44 v45 v46
def f83.s3' {R : Type} (L N : Nat) (self83 : Tree → LT → Option (LS)) (k3_e7 : Int → LS → LS → LS → Option R) (rec3 : Int → Int → LS → LS → LS → Option R) (s32 : Int) (s33 : Int) (s34 : LS) (s35 : LS) (s36 : LS) : Option R :=
  bif (decide (s33 < (s36.length : Int))) then
    bif (decide (0 ≤ s32) && decide (s32 < (s35.length : Int))) then
      bif ((listAt s35 (Ty.dflt (.st 3)) s32.toNat).act != (0 : Int)) then
        bif (decide (0 ≤ s32) && decide (s32 < (s35.length : Int))) then
          bif (decide (0 ≤ s33) && decide (s33 < (s36.length : Int))) then
            f83.j0' L N self83 k3_e7 rec3 s32 s33 ((listAt s35 (Ty.dflt (.st 3)) s32.toNat).act == (wi (0 - (listAt s36 (Ty.dflt (.st 3)) s33.toNat).act))) s34 s35 s36
          else none
        else none
      else f83.j0' L N self83 k3_e7 rec3 s32 s33 false s34 s35 s36
    else none
  else k3_e7 s32 s34 s35 s36
def f83.s3 {R : Type} (L N : Nat) (self83 : Tree → LT → Option (LS)) (k3_e7 : Int → LS → LS → LS → Option R) (rec3 : Int → Int → LS → LS → LS → Option R) (s32 : Int) (s33 : Int) (s34 : LS) (s35 : LS) (s36 : LS) : Option R :=
  f83.s3' L N self83 k3_e7 rec3 s32 s33 s34 s35 s36
def f83.l3 {R : Type} (L N : Nat) (self83 : Tree → LT → Option (LS)) (k3_e7 : Int → LS → LS → LS → Option R) : Nat → Int → Int → LS → LS → LS → Option R
  | 0, _, _, _, _, _ => none
  | n + 1, s32, s33, s34, s35, s36 => f83.s3 L N self83 k3_e7 (f83.l3 L N self83 k3_e7 n) s32 s33 s34 s35 s36
def f83.T3 (s32 : Int) (s33 : Int) (s34 : LS) (s35 : LS) (s36 : LS) : T := mkT 217 [(5, (.row 1014)), (6, (.row 1051)), (7, (.row 1057)), (10, (.tv i64 s32)), (11, (.tv i64 s33))]
def f83.H3 (s32 : Int) (s33 : Int) (s34 : LS) (s35 : LS) (s36 : LS) : H := [(1014, (.row 106 (.st 3) s34)), (1051, (.row 106 (.st 3) s35)), (1057, (.row 106 (.st 3) s36))]
def f83.T3_e7 (z37 : Int) (z38 : LS) (z39 : LS) (z40 : LS) : T := mkT 217 [(5, (.row 1014)), (6, (.row 1051)), (7, (.row 1057)), (10, (.tv i64 z37))]
def f83.H3_e7 (z37 : Int) (z38 : LS) (z39 : LS) (z40 : LS) : H := [(1014, (.row 106 (.st 3) z38)), (1051, (.row 106 (.st 3) z39)), (1057, (.row 106 (.st 3) z40))]
def f83.p3_e7' {R : Type} (L N : Nat) (self83 : Tree → LT → Option (LS)) (k2_e5 : LS → Option R) (rec2 : Int → LS → LS → LS → Option R) (z37 : Int) (z38 : LS) (z39 : LS) (z40 : LS) : Option R :=
  rec2 (wi (z37 + (1 : Int))) z38 z39 z40
def f83.p3_e7 {R : Type} (L N : Nat) (self83 : Tree → LT → Option (LS)) (k2_e5 : LS → Option R) (rec2 : Int → LS → LS → LS → Option R) (z37 : Int) (z38 : LS) (z39 : LS) (z40 : LS) : Option R :=
  f83.p3_e7' L N self83 k2_e5 rec2 z37 z38 z39 z40
def f83.s2' {R : Type} (L N : Nat) (self83 : Tree → LT → Option (LS)) (k2_e5 : LS → Option R) (rec2 : Int → LS → LS → LS → Option R) (w3 : Int → Int → LS → LS → LS → Option R) (s27 : Int) (s28 : LS) (s29 : LS) (s30 : LS) : Option R :=
  bif (decide (s27 < (s29.length : Int))) then
    w3 s27 (0 : Int) s28 s29 s30
  else k2_e5 s28
def f83.s2 {R : Type} (L N : Nat) (self83 : Tree → LT → Option (LS)) (k2_e5 : LS → Option R) (rec2 : Int → LS → LS → LS → Option R) (s27 : Int) (s28 : LS) (s29 : LS) (s30 : LS) : Option R :=
  f83.s2' L N self83 k2_e5 rec2 (fun s32 s33 s34 s35 s36 => f83.l3 L N self83 (fun z37 z38 z39 z40 => f83.p3_e7 L N self83 k2_e5 rec2 z37 z38 z39 z40) L s32 s33 s34 s35 s36) s27 s28 s29 s30
def f83.l2 {R : Type} (L N : Nat) (self83 : Tree → LT → Option (LS)) (k2_e5 : LS → Option R) : Nat → Int → LS → LS → LS → Option R
  | 0, _, _, _, _ => none
  | n + 1, s27, s28, s29, s30 => f83.s2 L N self83 k2_e5 (f83.l2 L N self83 k2_e5 n) s27 s28 s29 s30
def f83.T2 (s27 : Int) (s28 : LS) (s29 : LS) (s30 : LS) : T := mkT 217 [(5, (.row 1014)), (6, (.row 1051)), (7, (.row 1057)), (10, (.tv i64 s27))]
def f83.H2 (s27 : Int) (s28 : LS) (s29 : LS) (s30 : LS) : H := [(1014, (.row 106 (.st 3) s28)), (1051, (.row 106 (.st 3) s29)), (1057, (.row 106 (.st 3) s30))]
def f83.T2_e5 (z31 : LS) : T := mkT 217 [(5, (.row 1014))]
def f83.H2_e5 (z31 : LS) : H := [(1014, (.row 106 (.st 3) z31))]
def f83.p2_e5' {R : Type} (L N : Nat) (self83 : Tree → LT → Option (LS)) (k : LS → Option R) (z31 : LS) : Option R :=
  k z31
def f83.p2_e5 {R : Type} (L N : Nat) (self83 : Tree → LT → Option (LS)) (k : LS → Option R) (z31 : LS) : Option R :=
  f83.p2_e5' L N self83 k z31
def f83.p1_e3' {R : Type} (L N : Nat) (self83 : Tree → LT → Option (LS)) (k : LS → Option R) (w2 : Int → LS → LS → LS → Option R) (z24 : LS) (z25 : LS) (z26 : LS) : Option R :=
  w2 (0 : Int) z24 z25 z26
def f83.p1_e3 {R : Type} (L N : Nat) (self83 : Tree → LT → Option (LS)) (k : LS → Option R) (z24 : LS) (z25 : LS) (z26 : LS) : Option R :=
  f83.p1_e3' L N self83 k (fun s27 s28 s29 s30 => f83.l2 L N self83 (fun z31 => f83.p2_e5 L N self83 k z31) L s27 s28 s29 s30) z24 z25 z26
def f83.p0_e1' {R : Type} (L N : Nat) (self83 : Tree → LT → Option (LS)) (k : LS → Option R) (w1 : Int → Int → Int → LT → LS → LS → LS → Option R) (z11 : Int) (z12 : Int) (z13 : LT) (z14 : LS) (z15 : LS) (z16 : LS) : Option R :=
  w1 (0 : Int) z11 z12 z13 z14 z15 z16
def f83.p0_e1 {R : Type} (L N : Nat) (self83 : Tree → LT → Option (LS)) (k : LS → Option R) (z11 : Int) (z12 : Int) (z13 : LT) (z14 : LS) (z15 : LS) (z16 : LS) : Option R :=
  f83.p0_e1' L N self83 k (fun s17 s18 s19 s20 s21 s22 s23 => f83.l1 L N self83 (fun z24 z25 z26 => f83.p1_e3 L N self83 k z24 z25 z26) L s17 s18 s19 s20 s21 s22 s23) z11 z12 z13 z14 z15 z16
def f83.j1' {R : Type} (L N : Nat) (self83 : Tree → LT → Option (LS)) (k4_e9 : LS → Option R) (rec4 : Int → Int → Int → LT → LS → LS → Option R) (v61 : Int) (v62 : Bool) (v63 : Int) (v64 : Int) (v65 : LT) (v66 : LS) (v67 : LS) : Option R :=
  bif v62 then
    bif (decide (0 ≤ v61) && decide (v61 < (v67.length : Int))) then
      bif (decide (0 ≤ v61) && decide (v61 < (v67.length : Int))) then
        bif (decide (v66.length + ([(Step.mk ((listAt v67 (Ty.dflt (.st 3)) v61.toNat).act) (Tree.mk (4 : Int) v64 ([(Tree.mk ((listAt v67 (Ty.dflt (.st 3)) v61.toNat).thn.op) ((listAt v67 (Ty.dflt (.st 3)) v61.toNat).thn.n) ((listAt v67 (Ty.dflt (.st 3)) v61.toNat).thn.parts))] : LT)))] : LS).length ≤ lim)) then
          rec4 (wi (v61 + (1 : Int))) v63 v64 v65 (v66 ++ ([(Step.mk ((listAt v67 (Ty.dflt (.st 3)) v61.toNat).act) (Tree.mk (4 : Int) v64 ([(Tree.mk ((listAt v67 (Ty.dflt (.st 3)) v61.toNat).thn.op) ((listAt v67 (Ty.dflt (.st 3)) v61.toNat).thn.n) ((listAt v67 (Ty.dflt (.st 3)) v61.toNat).thn.parts))] : LT)))] : LS)) v67
        else none
      else none
    else none
  else rec4 (wi (v61 + (1 : Int))) v63 v64 v65 v66 v67
def f83.s4' {R : Type} (L N : Nat) (self83 : Tree → LT → Option (LS)) (k4_e9 : LS → Option R) (rec4 : Int → Int → Int → LT → LS → LS → Option R) (s53 : Int) (s54 : Int) (s55 : Int) (s56 : LT) (s57 : LS) (s58 : LS) : Option R :=
  bif (decide (s53 < (s58.length : Int))) then
    bif (decide (0 ≤ s53) && decide (s53 < (s58.length : Int))) then
      bif ((listAt s58 (Ty.dflt (.st 3)) s53.toNat).act == (0 : Int)) then
        f83.j1' L N self83 k4_e9 rec4 s53 true s54 s55 s56 s57 s58
      else bif (decide (0 ≤ s53) && decide (s53 < (s58.length : Int))) then
        (f106 L N ((listAt s58 (Ty.dflt (.st 3)) s53.toNat).act)).bind fun y60 =>
        f83.j1' L N self83 k4_e9 rec4 s53 (y60 != s55) s54 s55 s56 s57 s58
      else none
    else none
  else k4_e9 s57
def f83.s4 {R : Type} (L N : Nat) (self83 : Tree → LT → Option (LS)) (k4_e9 : LS → Option R) (rec4 : Int → Int → Int → LT → LS → LS → Option R) (s53 : Int) (s54 : Int) (s55 : Int) (s56 : LT) (s57 : LS) (s58 : LS) : Option R :=
  f83.s4' L N self83 k4_e9 rec4 s53 s54 s55 s56 s57 s58
def f83.l4 {R : Type} (L N : Nat) (self83 : Tree → LT → Option (LS)) (k4_e9 : LS → Option R) : Nat → Int → Int → Int → LT → LS → LS → Option R
  | 0, _, _, _, _, _, _ => none
  | n + 1, s53, s54, s55, s56, s57, s58 => f83.s4 L N self83 k4_e9 (f83.l4 L N self83 k4_e9 n) s53 s54 s55 s56 s57 s58
def f83.T4 (s53 : Int) (s54 : Int) (s55 : Int) (s56 : LT) (s57 : LS) (s58 : LS) : T := mkT 217 [(2, (.ptr 1002 0)), (5, (.row 1014)), (12, (.row 1165)), (13, (.tv i64 s53))]
def f83.H4 (s53 : Int) (s54 : Int) (s55 : Int) (s56 : LT) (s57 : LS) (s58 : LS) : H := [(1002, (.box [(.tv i64 s54), (.tv i64 s55), (.tv (.sl (.st 1)) s56)])), (1014, (.row 106 (.st 3) s57)), (1165, (.row 106 (.st 3) s58))]
def f83.T4_e9 (z59 : LS) : T := mkT 217 [(5, (.row 1014))]
def f83.H4_e9 (z59 : LS) : H := [(1014, (.row 106 (.st 3) z59))]
def f83.p4_e9' {R : Type} (L N : Nat) (self83 : Tree → LT → Option (LS)) (k : LS → Option R) (z59 : LS) : Option R :=
  k z59
def f83.p4_e9 {R : Type} (L N : Nat) (self83 : Tree → LT → Option (LS)) (k : LS → Option R) (z59 : LS) : Option R :=
  f83.p4_e9' L N self83 k z59
def f83.b' {R : Type} (L N : Nat) (self83 : Tree → LT → Option (LS)) (k : LS → Option R) (w0 : Int → Int → Int → LT → LS → LS → LS → Option R) (w4 : Int → Int → Int → LT → LS → LS → Option R) (x0 : Tree) (x1 : LT) : Option R :=
  bif (x0.op == (1 : Int)) then
    bif (decide (0 ≤ (0 : Int)) && decide ((0 : Int) < (x0.parts.length : Int))) then
      bif (decide (([] : LS).length + ([(Step.mk x0.n (Tree.mk ((listAt x0.parts (Ty.dflt (.st 1)) (0 : Int).toNat).op) ((listAt x0.parts (Ty.dflt (.st 1)) (0 : Int).toNat).n) ((listAt x0.parts (Ty.dflt (.st 1)) (0 : Int).toNat).parts)))] : LS).length ≤ lim)) then
        k (([] : LS) ++ ([(Step.mk x0.n (Tree.mk ((listAt x0.parts (Ty.dflt (.st 1)) (0 : Int).toNat).op) ((listAt x0.parts (Ty.dflt (.st 1)) (0 : Int).toNat).n) ((listAt x0.parts (Ty.dflt (.st 1)) (0 : Int).toNat).parts)))] : LS))
      else none
    else none
  else bif (x0.op == (2 : Int)) then
    bif (decide (0 ≤ (0 : Int)) && decide ((0 : Int) < (x0.parts.length : Int))) then
      (self83 (listAt x0.parts (Ty.dflt (.st 1)) (0 : Int).toNat) x1).bind fun y0 =>
      bif (decide (0 ≤ (1 : Int)) && decide ((1 : Int) < (x0.parts.length : Int))) then
        (self83 (listAt x0.parts (Ty.dflt (.st 1)) (1 : Int).toNat) x1).bind fun y1 =>
        bif (decide (y0.length + y1.length ≤ lim)) then
          k (y0 ++ y1)
        else none
      else none
    else none
  else bif (x0.op == (3 : Int)) then
    bif (decide (0 ≤ (0 : Int)) && decide ((0 : Int) < (x0.parts.length : Int))) then
      (self83 (listAt x0.parts (Ty.dflt (.st 1)) (0 : Int).toNat) x1).bind fun y2 =>
      bif (decide (0 ≤ (1 : Int)) && decide ((1 : Int) < (x0.parts.length : Int))) then
        (self83 (listAt x0.parts (Ty.dflt (.st 1)) (1 : Int).toNat) x1).bind fun y3 =>
        w0 (0 : Int) x0.op x0.n x0.parts ([] : LS) y2 y3
      else none
    else none
  else bif (x0.op == (4 : Int)) then
    bif (decide (0 ≤ (0 : Int)) && decide ((0 : Int) < (x0.parts.length : Int))) then
      (self83 (listAt x0.parts (Ty.dflt (.st 1)) (0 : Int).toNat) x1).bind fun y52 =>
      w4 (0 : Int) x0.op x0.n x0.parts ([] : LS) y52
    else none
  else bif (x0.op == (5 : Int)) then
    bif (decide (0 ≤ x0.n) && decide (x0.n < (x1.length : Int))) then
      (self83 (listAt x1 (Ty.dflt (.st 1)) x0.n.toNat) x1).bind fun y74 =>
      k y74
    else none
  else k ([] : LS)
def f83.b {R : Type} (L N : Nat) (self83 : Tree → LT → Option (LS)) (k : LS → Option R) (x0 : Tree) (x1 : LT) : Option R :=
  f83.b' L N self83 k (fun s4 s5 s6 s7 s8 s9 s10 => f83.l0 L N self83 (fun z11 z12 z13 z14 z15 z16 => f83.p0_e1 L N self83 k z11 z12 z13 z14 z15 z16) L s4 s5 s6 s7 s8 s9 s10) (fun s53 s54 s55 s56 s57 s58 => f83.l4 L N self83 (fun z59 => f83.p4_e9 L N self83 k z59) L s53 s54 s55 s56 s57 s58) x0 x1
def f83 (L N : Nat) : Nat → Tree → LT → Option (LS)
  | 0, _, _ => none
  | n + 1, x0, x1 => f83.b L N (f83 L N n) some x0 x1
def f83.ent (L N m : Nat) (args : List AV) (vw : View) (site : Nat) : Ans := match coeD [(.st 1), (.sl (.st 1))] vw args with
  | some (d, u) => ⟨LS, f83 L N m d.1 d.2.1, fun y => (.row site, u ++ [(site, some (.row 106 (.st 3) y))], [])⟩
  | none => Ans.no
def Φ83s (L N m : Nat) : Tells := (addT (Φ82 L N) 83 (f83.ent L N m))
noncomputable def E83 (L N m : Nat) : Env := { P := Tryz.prog, ty := tyOf, Φ := Φ83s L N m, inl := inlT, live := lives, liveX := livesX, L := L, dp := none, prom := promT, heal := healT, ren := renT }
noncomputable def f83.c0 : Code := loopAt 1 (codeOf Tryz.f83)
theorem f83.s0_eq {R : Type} (L N m : Nat) (κ : Ex → T → H → Option R) (rec : T → H → Option R) (s4 : Int) (s5 : Int) (s6 : Int) (s7 : LT) (s8 : LS) (s9 : LS) (s10 : LS) :
    evRd (E83 L N m) (evCallI (E83 L N m) 0 1000) 1000 83 217 1 f83.c0 κ rec (f83.T0 s4 s5 s6 s7 s8 s9 s10) (f83.H0 s4 s5 s6 s7 s8 s9 s10)
    = f83.s0 L N (f83 L N m) (fun z11 z12 z13 z14 z15 z16 => κ (.exit 1) (f83.T0_e1 z11 z12 z13 z14 z15 z16) (f83.H0_e1 z11 z12 z13 z14 z15 z16)) (fun s4 s5 s6 s7 s8 s9 s10 => rec (f83.T0 s4 s5 s6 s7 s8 s9 s10) (f83.H0 s4 s5 s6 s7 s8 s9 s10)) s4 s5 s6 s7 s8 s9 s10 := by kernel_rfl
theorem f83.l0_eq {R : Type} (L N m : Nat) (κ : Ex → T → H → Option R) : ∀ (n : Nat) (s4 : Int) (s5 : Int) (s6 : Int) (s7 : LT) (s8 : LS) (s9 : LS) (s10 : LS),
    evLp (E83 L N m) (evCallI (E83 L N m) 0 1000) 1000 83 217 1 f83.c0 κ n (f83.T0 s4 s5 s6 s7 s8 s9 s10) (f83.H0 s4 s5 s6 s7 s8 s9 s10)
    = f83.l0 L N (f83 L N m) (fun z11 z12 z13 z14 z15 z16 => κ (.exit 1) (f83.T0_e1 z11 z12 z13 z14 z15 z16) (f83.H0_e1 z11 z12 z13 z14 z15 z16)) n s4 s5 s6 s7 s8 s9 s10 := by
  intro n
  induction n with
  | zero => intros; rfl
  | succ n ih =>
    intro s4 s5 s6 s7 s8 s9 s10
    rw [evLp_succ, f83.s0_eq]
    simp only [ih]
    rfl
noncomputable def f83.c1 : Code := loopAt 3 (codeOf Tryz.f83)
theorem f83.s1_eq {R : Type} (L N m : Nat) (κ : Ex → T → H → Option R) (rec : T → H → Option R) (s17 : Int) (s18 : Int) (s19 : Int) (s20 : LT) (s21 : LS) (s22 : LS) (s23 : LS) :
    evRd (E83 L N m) (evCallI (E83 L N m) 0 1000) 1000 83 217 3 f83.c1 κ rec (f83.T1 s17 s18 s19 s20 s21 s22 s23) (f83.H1 s17 s18 s19 s20 s21 s22 s23)
    = f83.s1 L N (f83 L N m) (fun z24 z25 z26 => κ (.exit 3) (f83.T1_e3 z24 z25 z26) (f83.H1_e3 z24 z25 z26)) (fun s17 s18 s19 s20 s21 s22 s23 => rec (f83.T1 s17 s18 s19 s20 s21 s22 s23) (f83.H1 s17 s18 s19 s20 s21 s22 s23)) s17 s18 s19 s20 s21 s22 s23 := by kernel_rfl
theorem f83.l1_eq {R : Type} (L N m : Nat) (κ : Ex → T → H → Option R) : ∀ (n : Nat) (s17 : Int) (s18 : Int) (s19 : Int) (s20 : LT) (s21 : LS) (s22 : LS) (s23 : LS),
    evLp (E83 L N m) (evCallI (E83 L N m) 0 1000) 1000 83 217 3 f83.c1 κ n (f83.T1 s17 s18 s19 s20 s21 s22 s23) (f83.H1 s17 s18 s19 s20 s21 s22 s23)
    = f83.l1 L N (f83 L N m) (fun z24 z25 z26 => κ (.exit 3) (f83.T1_e3 z24 z25 z26) (f83.H1_e3 z24 z25 z26)) n s17 s18 s19 s20 s21 s22 s23 := by
  intro n
  induction n with
  | zero => intros; rfl
  | succ n ih =>
    intro s17 s18 s19 s20 s21 s22 s23
    rw [evLp_succ, f83.s1_eq]
    simp only [ih]
    rfl
noncomputable def f83.c2 : Code := loopAt 5 (codeOf Tryz.f83)
noncomputable def f83.c3 : Code := loopAt 7 f83.c2
theorem f83.s3_eq {R : Type} (L N m : Nat) (κ : Ex → T → H → Option R) (rec : T → H → Option R) (s32 : Int) (s33 : Int) (s34 : LS) (s35 : LS) (s36 : LS) :
    evRd (E83 L N m) (evCallI (E83 L N m) 0 1000) 1000 83 217 7 f83.c3 κ rec (f83.T3 s32 s33 s34 s35 s36) (f83.H3 s32 s33 s34 s35 s36)
    = f83.s3 L N (f83 L N m) (fun z37 z38 z39 z40 => κ (.exit 7) (f83.T3_e7 z37 z38 z39 z40) (f83.H3_e7 z37 z38 z39 z40)) (fun s32 s33 s34 s35 s36 => rec (f83.T3 s32 s33 s34 s35 s36) (f83.H3 s32 s33 s34 s35 s36)) s32 s33 s34 s35 s36 := by kernel_rfl
theorem f83.l3_eq {R : Type} (L N m : Nat) (κ : Ex → T → H → Option R) : ∀ (n : Nat) (s32 : Int) (s33 : Int) (s34 : LS) (s35 : LS) (s36 : LS),
    evLp (E83 L N m) (evCallI (E83 L N m) 0 1000) 1000 83 217 7 f83.c3 κ n (f83.T3 s32 s33 s34 s35 s36) (f83.H3 s32 s33 s34 s35 s36)
    = f83.l3 L N (f83 L N m) (fun z37 z38 z39 z40 => κ (.exit 7) (f83.T3_e7 z37 z38 z39 z40) (f83.H3_e7 z37 z38 z39 z40)) n s32 s33 s34 s35 s36 := by
  intro n
  induction n with
  | zero => intros; rfl
  | succ n ih =>
    intro s32 s33 s34 s35 s36
    rw [evLp_succ, f83.s3_eq]
    simp only [ih]
    rfl
theorem f83.p3_e7_eq {R : Type} (L N m : Nat) (κ : Ex → T → H → Option R) (rec : T → H → Option R) (z37 : Int) (z38 : LS) (z39 : LS) (z40 : LS) :
    (contAt (E83 L N m) (evCallI (E83 L N m) 0 1000) 1000 83 217 7 f83.c2 (rdK (E83 L N m) 1000 83 217 5 κ rec)) (.exit 7) (f83.T3_e7 z37 z38 z39 z40) (f83.H3_e7 z37 z38 z39 z40)
    = f83.p3_e7 L N (f83 L N m) (fun z31 => κ (.exit 5) (f83.T2_e5 z31) (f83.H2_e5 z31)) (fun s27 s28 s29 s30 => rec (f83.T2 s27 s28 s29 s30) (f83.H2 s27 s28 s29 s30)) z37 z38 z39 z40 := by kernel_rfl
theorem f83.s2_eq {R : Type} (L N m : Nat) (κ : Ex → T → H → Option R) (rec : T → H → Option R) (s27 : Int) (s28 : LS) (s29 : LS) (s30 : LS) :
    evRd (E83 L N m) (evCallI (E83 L N m) 0 1000) 1000 83 217 5 f83.c2 κ rec (f83.T2 s27 s28 s29 s30) (f83.H2 s27 s28 s29 s30)
    = f83.s2 L N (f83 L N m) (fun z31 => κ (.exit 5) (f83.T2_e5 z31) (f83.H2_e5 z31)) (fun s27 s28 s29 s30 => rec (f83.T2 s27 s28 s29 s30) (f83.H2 s27 s28 s29 s30)) s27 s28 s29 s30 := by
  refine Eq.trans (b := f83.s2' L N (f83 L N m) (fun z31 => κ (.exit 5) (f83.T2_e5 z31) (f83.H2_e5 z31)) (fun s27 s28 s29 s30 => rec (f83.T2 s27 s28 s29 s30) (f83.H2 s27 s28 s29 s30)) (fun s32 s33 s34 s35 s36 => evLp (E83 L N m) (evCallI (E83 L N m) 0 1000) 1000 83 217 7 f83.c3 (contAt (E83 L N m) (evCallI (E83 L N m) 0 1000) 1000 83 217 7 f83.c2 (rdK (E83 L N m) 1000 83 217 5 κ rec)) L (f83.T3 s32 s33 s34 s35 s36) (f83.H3 s32 s33 s34 s35 s36)) s27 s28 s29 s30) (by kernel_rfl) ?_
  unfold f83.s2
  simp only [f83.l3_eq, f83.p3_e7_eq]
theorem f83.l2_eq {R : Type} (L N m : Nat) (κ : Ex → T → H → Option R) : ∀ (n : Nat) (s27 : Int) (s28 : LS) (s29 : LS) (s30 : LS),
    evLp (E83 L N m) (evCallI (E83 L N m) 0 1000) 1000 83 217 5 f83.c2 κ n (f83.T2 s27 s28 s29 s30) (f83.H2 s27 s28 s29 s30)
    = f83.l2 L N (f83 L N m) (fun z31 => κ (.exit 5) (f83.T2_e5 z31) (f83.H2_e5 z31)) n s27 s28 s29 s30 := by
  intro n
  induction n with
  | zero => intros; rfl
  | succ n ih =>
    intro s27 s28 s29 s30
    rw [evLp_succ, f83.s2_eq]
    simp only [ih]
    rfl
theorem f83.p2_e5_eq {R : Type} (L N m : Nat) (κ : List Step → Option R) (z31 : LS) :
    (contAt (E83 L N m) (evCallI (E83 L N m) 0 1000) 1000 83 217 5 (codeOf Tryz.f83) (finK (E83 L N m) 1000 Tryz.f83 (finRow 106 (.st 3) κ))) (.exit 5) (f83.T2_e5 z31) (f83.H2_e5 z31)
    = f83.p2_e5 L N (f83 L N m) κ z31 := by kernel_rfl
theorem f83.p1_e3_eq {R : Type} (L N m : Nat) (κ : List Step → Option R) (z24 : LS) (z25 : LS) (z26 : LS) :
    (contAt (E83 L N m) (evCallI (E83 L N m) 0 1000) 1000 83 217 3 (codeOf Tryz.f83) (finK (E83 L N m) 1000 Tryz.f83 (finRow 106 (.st 3) κ))) (.exit 3) (f83.T1_e3 z24 z25 z26) (f83.H1_e3 z24 z25 z26)
    = f83.p1_e3 L N (f83 L N m) κ z24 z25 z26 := by
  refine Eq.trans (b := f83.p1_e3' L N (f83 L N m) κ (fun s27 s28 s29 s30 => evLp (E83 L N m) (evCallI (E83 L N m) 0 1000) 1000 83 217 5 f83.c2 (contAt (E83 L N m) (evCallI (E83 L N m) 0 1000) 1000 83 217 5 (codeOf Tryz.f83) (finK (E83 L N m) 1000 Tryz.f83 (finRow 106 (.st 3) κ))) L (f83.T2 s27 s28 s29 s30) (f83.H2 s27 s28 s29 s30)) z24 z25 z26) (by kernel_rfl) ?_
  unfold f83.p1_e3
  simp only [f83.l2_eq, f83.p2_e5_eq]
theorem f83.p0_e1_eq {R : Type} (L N m : Nat) (κ : List Step → Option R) (z11 : Int) (z12 : Int) (z13 : LT) (z14 : LS) (z15 : LS) (z16 : LS) :
    (contAt (E83 L N m) (evCallI (E83 L N m) 0 1000) 1000 83 217 1 (codeOf Tryz.f83) (finK (E83 L N m) 1000 Tryz.f83 (finRow 106 (.st 3) κ))) (.exit 1) (f83.T0_e1 z11 z12 z13 z14 z15 z16) (f83.H0_e1 z11 z12 z13 z14 z15 z16)
    = f83.p0_e1 L N (f83 L N m) κ z11 z12 z13 z14 z15 z16 := by
  refine Eq.trans (b := f83.p0_e1' L N (f83 L N m) κ (fun s17 s18 s19 s20 s21 s22 s23 => evLp (E83 L N m) (evCallI (E83 L N m) 0 1000) 1000 83 217 3 f83.c1 (contAt (E83 L N m) (evCallI (E83 L N m) 0 1000) 1000 83 217 3 (codeOf Tryz.f83) (finK (E83 L N m) 1000 Tryz.f83 (finRow 106 (.st 3) κ))) L (f83.T1 s17 s18 s19 s20 s21 s22 s23) (f83.H1 s17 s18 s19 s20 s21 s22 s23)) z11 z12 z13 z14 z15 z16) (by kernel_rfl) ?_
  unfold f83.p0_e1
  simp only [f83.l1_eq, f83.p1_e3_eq]
noncomputable def f83.c4 : Code := loopAt 9 (codeOf Tryz.f83)
theorem f83.s4_eq {R : Type} (L N m : Nat) (κ : Ex → T → H → Option R) (rec : T → H → Option R) (s53 : Int) (s54 : Int) (s55 : Int) (s56 : LT) (s57 : LS) (s58 : LS) :
    evRd (E83 L N m) (evCallI (E83 L N m) 0 1000) 1000 83 217 9 f83.c4 κ rec (f83.T4 s53 s54 s55 s56 s57 s58) (f83.H4 s53 s54 s55 s56 s57 s58)
    = f83.s4 L N (f83 L N m) (fun z59 => κ (.exit 9) (f83.T4_e9 z59) (f83.H4_e9 z59)) (fun s53 s54 s55 s56 s57 s58 => rec (f83.T4 s53 s54 s55 s56 s57 s58) (f83.H4 s53 s54 s55 s56 s57 s58)) s53 s54 s55 s56 s57 s58 := by kernel_rfl
theorem f83.l4_eq {R : Type} (L N m : Nat) (κ : Ex → T → H → Option R) : ∀ (n : Nat) (s53 : Int) (s54 : Int) (s55 : Int) (s56 : LT) (s57 : LS) (s58 : LS),
    evLp (E83 L N m) (evCallI (E83 L N m) 0 1000) 1000 83 217 9 f83.c4 κ n (f83.T4 s53 s54 s55 s56 s57 s58) (f83.H4 s53 s54 s55 s56 s57 s58)
    = f83.l4 L N (f83 L N m) (fun z59 => κ (.exit 9) (f83.T4_e9 z59) (f83.H4_e9 z59)) n s53 s54 s55 s56 s57 s58 := by
  intro n
  induction n with
  | zero => intros; rfl
  | succ n ih =>
    intro s53 s54 s55 s56 s57 s58
    rw [evLp_succ, f83.s4_eq]
    simp only [ih]
    rfl
theorem f83.p4_e9_eq {R : Type} (L N m : Nat) (κ : List Step → Option R) (z59 : LS) :
    (contAt (E83 L N m) (evCallI (E83 L N m) 0 1000) 1000 83 217 9 (codeOf Tryz.f83) (finK (E83 L N m) 1000 Tryz.f83 (finRow 106 (.st 3) κ))) (.exit 9) (f83.T4_e9 z59) (f83.H4_e9 z59)
    = f83.p4_e9 L N (f83 L N m) κ z59 := by kernel_rfl
theorem f83.b_eq {R : Type} (L N m : Nat) (κ : List Step → Option R) (x0 : Tree) (x1 : LT) :
    evBody (E83 L N m) (evCallI (E83 L N m) 0 1000) 1000 83 Tryz.f83 [(.tv (.st 1) x0), (.tv (.sl (.st 1)) x1)] [] [] (finRow 106 (.st 3) κ)
    = f83.b L N (f83 L N m) κ x0 x1 := by
  refine Eq.trans (b := f83.b' L N (f83 L N m) κ (fun s4 s5 s6 s7 s8 s9 s10 => evLp (E83 L N m) (evCallI (E83 L N m) 0 1000) 1000 83 217 1 f83.c0 (contAt (E83 L N m) (evCallI (E83 L N m) 0 1000) 1000 83 217 1 (codeOf Tryz.f83) (finK (E83 L N m) 1000 Tryz.f83 (finRow 106 (.st 3) κ))) L (f83.T0 s4 s5 s6 s7 s8 s9 s10) (f83.H0 s4 s5 s6 s7 s8 s9 s10)) (fun s53 s54 s55 s56 s57 s58 => evLp (E83 L N m) (evCallI (E83 L N m) 0 1000) 1000 83 217 9 f83.c4 (contAt (E83 L N m) (evCallI (E83 L N m) 0 1000) 1000 83 217 9 (codeOf Tryz.f83) (finK (E83 L N m) 1000 Tryz.f83 (finRow 106 (.st 3) κ))) L (f83.T4 s53 s54 s55 s56 s57 s58) (f83.H4 s53 s54 s55 s56 s57 s58)) x0 x1) (by kernel_rfl) ?_
  unfold f83.b
  simp only [f83.l0_eq, f83.l4_eq, f83.p0_e1_eq, f83.p4_e9_eq]
theorem f83.ok (L N m : Nat) (hΦ : TellsOk Tryz.prog (Φ83s L N m)) : EntOk Tryz.prog 83 (f83.ent L N (m + 1)) := by
  intro args vw site h
  unfold f83.ent
  split
  · rename_i d u ha
    intro y hy hs
    refine call_row (dep := 1000) (E := (E83 L N m)) (sound_of hΦ) okP (callI_sound (sound_of hΦ) okP 0 1000) (f := Tryz.f83) rfl hs ha ?_ site
    exact (f83.b_eq L N m some d.1 d.2.1).trans hy
  · intro y hy
    cases hy
theorem Φ83s_ok (L N : Nat) : ∀ m, TellsOk Tryz.prog (Φ83s L N m) := by
  intro m
  induction m with
  | zero => exact (addT_ok (Φ82_ok L N) (fun args vw site h => by unfold f83.ent; split <;> (intro y hy; cases hy)))
  | succ m ih => exact (addT_ok (Φ82_ok L N) (f83.ok L N m ih))
def Φ83 (L N : Nat) : Tells := (addT (Φ82 L N) 83 (f83.ent L N N))
theorem Φ83_ok (L N : Nat) : TellsOk Tryz.prog (Φ83 L N) := Φ83s_ok L N N
def f65.s2' {R : Type} (L N : Nat) (k2_e4 : LT → Int → Int → ByteArray → Int → LT → LY → LS → LM → LLM → Option R) (rec2 : LT → Int → Int → ByteArray → Int → LT → LY → LS → LM → LLM → Option R) (s23 : LT) (s24 : Int) (s25 : Int) (s26 : ByteArray) (s27 : Int) (s28 : LT) (s29 : LY) (s30 : LS) (s31 : LM) (s32 : LLM) : Option R :=
  bif (decide (s27 < (s29.length : Int))) then
    bif (decide (0 ≤ s27) && decide (s27 < (s29.length : Int))) then
      bif (!((listAt s29 ByteArray.empty s27.toNat).toList == s26.toList)) then
        rec2 s23 s24 s25 s26 (wi (s27 + (1 : Int))) s28 s29 s30 s31 s32
      else k2_e4 s23 s24 s25 s26 s27 s28 s29 s30 s31 s32
    else none
  else k2_e4 s23 s24 s25 s26 s27 s28 s29 s30 s31 s32
def f65.s2 {R : Type} (L N : Nat) (k2_e4 : LT → Int → Int → ByteArray → Int → LT → LY → LS → LM → LLM → Option R) (rec2 : LT → Int → Int → ByteArray → Int → LT → LY → LS → LM → LLM → Option R) (s23 : LT) (s24 : Int) (s25 : Int) (s26 : ByteArray) (s27 : Int) (s28 : LT) (s29 : LY) (s30 : LS) (s31 : LM) (s32 : LLM) : Option R :=
  f65.s2' L N k2_e4 rec2 s23 s24 s25 s26 s27 s28 s29 s30 s31 s32
def f65.l2 {R : Type} (L N : Nat) (k2_e4 : LT → Int → Int → ByteArray → Int → LT → LY → LS → LM → LLM → Option R) : Nat → LT → Int → Int → ByteArray → Int → LT → LY → LS → LM → LLM → Option R
  | 0, _, _, _, _, _, _, _, _, _, _ => none
  | n + 1, s23, s24, s25, s26, s27, s28, s29, s30, s31, s32 => f65.s2 L N k2_e4 (f65.l2 L N k2_e4 n) s23 s24 s25 s26 s27 s28 s29 s30 s31 s32
def f65.T2 (s23 : LT) (s24 : Int) (s25 : Int) (s26 : ByteArray) (s27 : Int) (s28 : LT) (s29 : LY) (s30 : LS) (s31 : LM) (s32 : LLM) : T := mkT 106 [(1, (.tv (.sl (.st 1)) s23)), (4, (.ptr 1004 0)), (6, (.row 1016)), (7, (.row 1019)), (8, (.ptr 1008 0)), (9, (.tv i64 s24)), (10, (.row 1032)), (11, (.row 1033)), (12, (.tv i64 s25)), (13, (.tv .str s26)), (14, (.tv i64 s27))]
def f65.H2 (s23 : LT) (s24 : Int) (s25 : Int) (s26 : ByteArray) (s27 : Int) (s28 : LT) (s29 : LY) (s30 : LS) (s31 : LM) (s32 : LLM) : H := [(1004, (.box [.nil])), (1008, (.box [(.row 1900)])), (1016, (.row 63 (.st 1) s28)), (1019, (.row 9 .str s29)), (1032, (.row 106 (.st 3) s30)), (1033, (.row 50 (.st 0) s31)), (1900, (.row 48 (.sl (.st 0)) s32))]
def f65.T2_e4 (z44 : LT) (z45 : Int) (z46 : Int) (z47 : ByteArray) (z48 : Int) (z49 : LT) (z50 : LY) (z51 : LS) (z52 : LM) (z53 : LLM) : T := mkT 106 [(1, (.tv (.sl (.st 1)) z44)), (4, (.ptr 1004 0)), (6, (.row 1016)), (7, (.row 1019)), (8, (.ptr 1008 0)), (9, (.tv i64 z45)), (10, (.row 1032)), (11, (.row 1033)), (12, (.tv i64 z46)), (13, (.tv .str z47)), (14, (.tv i64 z48))]
def f65.H2_e4 (z44 : LT) (z45 : Int) (z46 : Int) (z47 : ByteArray) (z48 : Int) (z49 : LT) (z50 : LY) (z51 : LS) (z52 : LM) (z53 : LLM) : H := [(1004, (.box [.nil])), (1008, (.box [(.row 1900)])), (1016, (.row 63 (.st 1) z49)), (1019, (.row 9 .str z50)), (1032, (.row 106 (.st 3) z51)), (1033, (.row 50 (.st 0) z52)), (1900, (.row 48 (.sl (.st 0)) z53))]
def f65.j1' {R : Type} (L N : Nat) (k1_e2 : LT → Int → LT → LY → LM → LLM → Option R) (k1_r : LT → Bool → Int → LT → LY → LM → LLM → Option R) (rec1 : LT → Int → Int → LT → LY → LS → LM → LLM → Option R) (v93 : LT) (v94 : Int) (v95 : Int) (v96 : Int) (v97 : LT) (v98 : LY) (v99 : LS) (v100 : LM) (v101 : LLM) : Option R :=
  bif (decide (0 ≤ v95) && decide (v95 < (v99.length : Int))) then
    bif (decide (v100.length + ([(Move.mk ((listAt v99 (Ty.dflt (.st 3)) v95.toNat).act) v96)] : LM).length ≤ lim)) then
      rec1 v93 v94 (wi (v95 + (1 : Int))) v97 v98 v99 (v100 ++ ([(Move.mk ((listAt v99 (Ty.dflt (.st 3)) v95.toNat).act) v96)] : LM)) v101
    else none
  else none
def f65.j0' {R : Type} (L N : Nat) (k1_e2 : LT → Int → LT → LY → LM → LLM → Option R) (k1_r : LT → Bool → Int → LT → LY → LM → LLM → Option R) (rec1 : LT → Int → Int → LT → LY → LS → LM → LLM → Option R) (v83 : LT) (v84 : Int) (v85 : Int) (v86 : ByteArray) (v87 : Int) (v88 : LT) (v89 : LY) (v90 : LS) (v91 : LM) (v92 : LLM) : Option R :=
  bif (decide (0 ≤ v85) && decide (v85 < (v90.length : Int))) then
    bif (decide (v88.length + ([(Tree.mk ((listAt v90 (Ty.dflt (.st 3)) v85.toNat).thn.op) ((listAt v90 (Ty.dflt (.st 3)) v85.toNat).thn.n) ((listAt v90 (Ty.dflt (.st 3)) v85.toNat).thn.parts))] : LT).length ≤ lim)) then
      bif (decide (v89.length + ([v86] : LY).length ≤ lim)) then
        f65.j1' L N k1_e2 k1_r rec1 v83 v84 v85 v87 (v88 ++ ([(Tree.mk ((listAt v90 (Ty.dflt (.st 3)) v85.toNat).thn.op) ((listAt v90 (Ty.dflt (.st 3)) v85.toNat).thn.n) ((listAt v90 (Ty.dflt (.st 3)) v85.toNat).thn.parts))] : LT)) (v89 ++ ([v86] : LY)) v90 v91 v92
      else none
    else none
  else none
def f65.p2_e4' {R : Type} (L N : Nat) (k1_e2 : LT → Int → LT → LY → LM → LLM → Option R) (k1_r : LT → Bool → Int → LT → LY → LM → LLM → Option R) (rec1 : LT → Int → Int → LT → LY → LS → LM → LLM → Option R) (z44 : LT) (z45 : Int) (z46 : Int) (z47 : ByteArray) (z48 : Int) (z49 : LT) (z50 : LY) (z51 : LS) (z52 : LM) (z53 : LLM) : Option R :=
  bif (z48 == (z50.length : Int)) then
    bif (z48 == (60 : Int)) then
      k1_r z44 false z45 z49 z50 z52 z53
    else bif (decide (0 ≤ z46) && decide (z46 < (z51.length : Int))) then
      (f84 L N N (Tree.mk ((listAt z51 (Ty.dflt (.st 3)) z46.toNat).thn.op) ((listAt z51 (Ty.dflt (.st 3)) z46.toNat).thn.n) ((listAt z51 (Ty.dflt (.st 3)) z46.toNat).thn.parts))).bind fun y64 =>
      bif (decide (y64 > (24 : Int))) then
        k1_r z44 false z45 z49 z50 z52 z53
      else f65.j0' L N k1_e2 k1_r rec1 z44 z45 z46 z47 z48 z49 z50 z51 z52 z53
    else none
  else f65.j1' L N k1_e2 k1_r rec1 z44 z45 z46 z48 z49 z50 z51 z52 z53
def f65.p2_e4 {R : Type} (L N : Nat) (k1_e2 : LT → Int → LT → LY → LM → LLM → Option R) (k1_r : LT → Bool → Int → LT → LY → LM → LLM → Option R) (rec1 : LT → Int → Int → LT → LY → LS → LM → LLM → Option R) (z44 : LT) (z45 : Int) (z46 : Int) (z47 : ByteArray) (z48 : Int) (z49 : LT) (z50 : LY) (z51 : LS) (z52 : LM) (z53 : LLM) : Option R :=
  f65.p2_e4' L N k1_e2 k1_r rec1 z44 z45 z46 z47 z48 z49 z50 z51 z52 z53
def f65.s1' {R : Type} (L N : Nat) (k1_e2 : LT → Int → LT → LY → LM → LLM → Option R) (k1_r : LT → Bool → Int → LT → LY → LM → LLM → Option R) (rec1 : LT → Int → Int → LT → LY → LS → LM → LLM → Option R) (w2 : LT → Int → Int → ByteArray → Int → LT → LY → LS → LM → LLM → Option R) (s8 : LT) (s9 : Int) (s10 : Int) (s11 : LT) (s12 : LY) (s13 : LS) (s14 : LM) (s15 : LLM) : Option R :=
  bif (decide (s10 < (s13.length : Int))) then
    bif (decide (0 ≤ s10) && decide (s10 < (s13.length : Int))) then
      (f82 L N N (Tree.mk ((listAt s13 (Ty.dflt (.st 3)) s10.toNat).thn.op) ((listAt s13 (Ty.dflt (.st 3)) s10.toNat).thn.n) ((listAt s13 (Ty.dflt (.st 3)) s10.toNat).thn.parts))).bind fun y22 =>
      w2 s8 s9 s10 y22 (0 : Int) s11 s12 s13 s14 s15
    else none
  else k1_e2 s8 s9 s11 s12 s14 s15
def f65.s1 {R : Type} (L N : Nat) (k1_e2 : LT → Int → LT → LY → LM → LLM → Option R) (k1_r : LT → Bool → Int → LT → LY → LM → LLM → Option R) (rec1 : LT → Int → Int → LT → LY → LS → LM → LLM → Option R) (s8 : LT) (s9 : Int) (s10 : Int) (s11 : LT) (s12 : LY) (s13 : LS) (s14 : LM) (s15 : LLM) : Option R :=
  f65.s1' L N k1_e2 k1_r rec1 (fun s23 s24 s25 s26 s27 s28 s29 s30 s31 s32 => f65.l2 L N (fun z44 z45 z46 z47 z48 z49 z50 z51 z52 z53 => f65.p2_e4 L N k1_e2 k1_r rec1 z44 z45 z46 z47 z48 z49 z50 z51 z52 z53) L s23 s24 s25 s26 s27 s28 s29 s30 s31 s32) s8 s9 s10 s11 s12 s13 s14 s15
def f65.l1 {R : Type} (L N : Nat) (k1_e2 : LT → Int → LT → LY → LM → LLM → Option R) (k1_r : LT → Bool → Int → LT → LY → LM → LLM → Option R) : Nat → LT → Int → Int → LT → LY → LS → LM → LLM → Option R
  | 0, _, _, _, _, _, _, _, _ => none
  | n + 1, s8, s9, s10, s11, s12, s13, s14, s15 => f65.s1 L N k1_e2 k1_r (f65.l1 L N k1_e2 k1_r n) s8 s9 s10 s11 s12 s13 s14 s15
def f65.T1 (s8 : LT) (s9 : Int) (s10 : Int) (s11 : LT) (s12 : LY) (s13 : LS) (s14 : LM) (s15 : LLM) : T := mkT 106 [(1, (.tv (.sl (.st 1)) s8)), (4, (.ptr 1004 0)), (6, (.row 1016)), (7, (.row 1019)), (8, (.ptr 1008 0)), (9, (.tv i64 s9)), (10, (.row 1032)), (11, (.row 1033)), (12, (.tv i64 s10))]
def f65.H1 (s8 : LT) (s9 : Int) (s10 : Int) (s11 : LT) (s12 : LY) (s13 : LS) (s14 : LM) (s15 : LLM) : H := [(1004, (.box [.nil])), (1008, (.box [(.row 1900)])), (1016, (.row 63 (.st 1) s11)), (1019, (.row 9 .str s12)), (1032, (.row 106 (.st 3) s13)), (1033, (.row 50 (.st 0) s14)), (1900, (.row 48 (.sl (.st 0)) s15))]
def f65.T1_e2 (z16 : LT) (z17 : Int) (z18 : LT) (z19 : LY) (z20 : LM) (z21 : LLM) : T := mkT 106 [(1, (.tv (.sl (.st 1)) z16)), (4, (.ptr 1004 0)), (6, (.row 1016)), (7, (.row 1019)), (8, (.ptr 1008 0)), (9, (.tv i64 z17)), (11, (.row 1033))]
def f65.H1_e2 (z16 : LT) (z17 : Int) (z18 : LT) (z19 : LY) (z20 : LM) (z21 : LLM) : H := [(1004, (.box [.nil])), (1008, (.box [(.row 1900)])), (1016, (.row 63 (.st 1) z18)), (1019, (.row 9 .str z19)), (1033, (.row 50 (.st 0) z20)), (1900, (.row 48 (.sl (.st 0)) z21))]
def f65.T1_r (z76 : LT) (z77 : Bool) (z78 : Int) (z79 : LT) (z80 : LY) (z81 : LM) (z82 : LLM) : T := mkT 106 [(1, (.tv (.sl (.st 1)) z76)), (4, (.ptr 1004 0)), (5, (.tv .bool z77)), (6, (.row 1016)), (7, (.row 1019)), (8, (.ptr 1008 0)), (9, (.tv i64 z78)), (11, (.row 1033))]
def f65.H1_r (z76 : LT) (z77 : Bool) (z78 : Int) (z79 : LT) (z80 : LY) (z81 : LM) (z82 : LLM) : H := [(1004, (.box [.nil])), (1008, (.box [(.row 1900)])), (1016, (.row 63 (.st 1) z79)), (1019, (.row 9 .str z80)), (1033, (.row 50 (.st 0) z81)), (1900, (.row 48 (.sl (.st 0)) z82))]
def f65.p1_e2' {R : Type} (L N : Nat) (k0_e0 : LLM → Option R) (k0_r : Bool → LLM → Option R) (rec0 : LT → Int → LT → LY → LLM → Option R) (z16 : LT) (z17 : Int) (z18 : LT) (z19 : LY) (z20 : LM) (z21 : LLM) : Option R :=
  (f67 L N z20).bind fun y104 =>
  bif (decide (z21.length + ([y104] : LLM).length ≤ lim)) then
    rec0 z16 (wi (z17 + (1 : Int))) z18 z19 (z21 ++ ([y104] : LLM))
  else none
def f65.p1_e2 {R : Type} (L N : Nat) (k0_e0 : LLM → Option R) (k0_r : Bool → LLM → Option R) (rec0 : LT → Int → LT → LY → LLM → Option R) (z16 : LT) (z17 : Int) (z18 : LT) (z19 : LY) (z20 : LM) (z21 : LLM) : Option R :=
  f65.p1_e2' L N k0_e0 k0_r rec0 z16 z17 z18 z19 z20 z21
def f65.p1_r' {R : Type} (L N : Nat) (k0_e0 : LLM → Option R) (k0_r : Bool → LLM → Option R) (rec0 : LT → Int → LT → LY → LLM → Option R) (z76 : LT) (z77 : Bool) (z78 : Int) (z79 : LT) (z80 : LY) (z81 : LM) (z82 : LLM) : Option R :=
  k0_r z77 z82
def f65.p1_r {R : Type} (L N : Nat) (k0_e0 : LLM → Option R) (k0_r : Bool → LLM → Option R) (rec0 : LT → Int → LT → LY → LLM → Option R) (z76 : LT) (z77 : Bool) (z78 : Int) (z79 : LT) (z80 : LY) (z81 : LM) (z82 : LLM) : Option R :=
  f65.p1_r' L N k0_e0 k0_r rec0 z76 z77 z78 z79 z80 z81 z82
def f65.s0' {R : Type} (L N : Nat) (k0_e0 : LLM → Option R) (k0_r : Bool → LLM → Option R) (rec0 : LT → Int → LT → LY → LLM → Option R) (w1 : LT → Int → Int → LT → LY → LS → LM → LLM → Option R) (s1 : LT) (s2 : Int) (s3 : LT) (s4 : LY) (s5 : LLM) : Option R :=
  bif (decide (s2 < (s3.length : Int))) then
    bif (decide (0 ≤ s2) && decide (s2 < (s3.length : Int))) then
      (f83 L N N (listAt s3 (Ty.dflt (.st 1)) s2.toNat) s1).bind fun y7 =>
      w1 s1 s2 (0 : Int) s3 s4 y7 ([] : LM) s5
    else none
  else k0_e0 s5
def f65.s0 {R : Type} (L N : Nat) (k0_e0 : LLM → Option R) (k0_r : Bool → LLM → Option R) (rec0 : LT → Int → LT → LY → LLM → Option R) (s1 : LT) (s2 : Int) (s3 : LT) (s4 : LY) (s5 : LLM) : Option R :=
  f65.s0' L N k0_e0 k0_r rec0 (fun s8 s9 s10 s11 s12 s13 s14 s15 => f65.l1 L N (fun z16 z17 z18 z19 z20 z21 => f65.p1_e2 L N k0_e0 k0_r rec0 z16 z17 z18 z19 z20 z21) (fun z76 z77 z78 z79 z80 z81 z82 => f65.p1_r L N k0_e0 k0_r rec0 z76 z77 z78 z79 z80 z81 z82) L s8 s9 s10 s11 s12 s13 s14 s15) s1 s2 s3 s4 s5
def f65.l0 {R : Type} (L N : Nat) (k0_e0 : LLM → Option R) (k0_r : Bool → LLM → Option R) : Nat → LT → Int → LT → LY → LLM → Option R
  | 0, _, _, _, _, _ => none
  | n + 1, s1, s2, s3, s4, s5 => f65.s0 L N k0_e0 k0_r (f65.l0 L N k0_e0 k0_r n) s1 s2 s3 s4 s5
def f65.T0 (s1 : LT) (s2 : Int) (s3 : LT) (s4 : LY) (s5 : LLM) : T := mkT 106 [(1, (.tv (.sl (.st 1)) s1)), (4, (.ptr 1004 0)), (6, (.row 1016)), (7, (.row 1019)), (8, (.ptr 1008 0)), (9, (.tv i64 s2))]
def f65.H0 (s1 : LT) (s2 : Int) (s3 : LT) (s4 : LY) (s5 : LLM) : H := [(1004, (.box [.nil])), (1008, (.box [(.row 1900)])), (1016, (.row 63 (.st 1) s3)), (1019, (.row 9 .str s4)), (1900, (.row 48 (.sl (.st 0)) s5))]
def f65.T0_e0 (z6 : LLM) : T := mkT 106 [(4, (.ptr 1004 0)), (8, (.ptr 1008 0))]
def f65.H0_e0 (z6 : LLM) : H := [(1004, (.box [.nil])), (1008, (.box [(.row 1900)])), (1900, (.row 48 (.sl (.st 0)) z6))]
def f65.T0_r (z102 : Bool) (z103 : LLM) : T := mkT 106 [(4, (.ptr 1004 0)), (5, (.tv .bool z102)), (8, (.ptr 1008 0))]
def f65.H0_r (z102 : Bool) (z103 : LLM) : H := [(1004, (.box [.nil])), (1008, (.box [(.row 1900)])), (1900, (.row 48 (.sl (.st 0)) z103))]
def f65.p0_e0' {R : Type} (L N : Nat) (k : Graph → Bool → Option R) (z6 : LLM) : Option R :=
  k (Graph.mk z6) true
def f65.p0_e0 {R : Type} (L N : Nat) (k : Graph → Bool → Option R) (z6 : LLM) : Option R :=
  f65.p0_e0' L N k z6
def f65.p0_r' {R : Type} (L N : Nat) (k : Graph → Bool → Option R) (z102 : Bool) (z103 : LLM) : Option R :=
  k (Graph.mk []) z102
def f65.p0_r {R : Type} (L N : Nat) (k : Graph → Bool → Option R) (z102 : Bool) (z103 : LLM) : Option R :=
  f65.p0_r' L N k z102 z103
def f65.b' {R : Type} (L N : Nat) (k : Graph → Bool → Option R) (w0 : LT → Int → LT → LY → LLM → Option R) (x0 : Tree) (x1 : LT) : Option R :=
  (f82 L N N (Tree.mk x0.op x0.n x0.parts)).bind fun y0 =>
  w0 x1 (0 : Int) ([(Tree.mk x0.op x0.n x0.parts)] : LT) ([y0] : LY) ([] : LLM)
def f65.b {R : Type} (L N : Nat) (k : Graph → Bool → Option R) (x0 : Tree) (x1 : LT) : Option R :=
  f65.b' L N k (fun s1 s2 s3 s4 s5 => f65.l0 L N (fun z6 => f65.p0_e0 L N k z6) (fun z102 z103 => f65.p0_r L N k z102 z103) L s1 s2 s3 s4 s5) x0 x1
def f65 (L N : Nat) (x0 : Tree) (x1 : LT) : Option (Graph × Bool) := f65.b L N (fun a0 a1 => some (a0, a1)) x0 x1
def f65.ent (L N : Nat) (args : List AV) (vw : View) (site : Nat) : Ans := match coeD [(.st 1), (.sl (.st 1))] vw args with
  | some (d, u) => ⟨Graph × Bool, f65 L N d.1 d.2.1, fun y => ((.tup [(.tv (.st 2) y.1), (.tv .bool y.2)]), u, [])⟩
  | none => Ans.no
noncomputable def E65 (L N : Nat) : Env := { P := Tryz.prog, ty := tyOf, Φ := (Φ83 L N), inl := inlT, live := lives, liveX := livesX, L := L, dp := none, prom := promT, heal := healT, ren := renT }
noncomputable def f65.c0 : Code := loopAt 0 (codeOf Tryz.f65)
noncomputable def f65.c1 : Code := loopAt 2 f65.c0
noncomputable def f65.c2 : Code := loopAt 4 f65.c1
theorem f65.s2_eq {R : Type} (L N : Nat) (κ : Ex → T → H → Option R) (rec : T → H → Option R) (s23 : LT) (s24 : Int) (s25 : Int) (s26 : ByteArray) (s27 : Int) (s28 : LT) (s29 : LY) (s30 : LS) (s31 : LM) (s32 : LLM) :
    evRd (E65 L N) (evCallI (E65 L N) 0 1000) 1000 65 106 4 f65.c2 κ rec (f65.T2 s23 s24 s25 s26 s27 s28 s29 s30 s31 s32) (f65.H2 s23 s24 s25 s26 s27 s28 s29 s30 s31 s32)
    = f65.s2 L N (fun z44 z45 z46 z47 z48 z49 z50 z51 z52 z53 => κ (.exit 4) (f65.T2_e4 z44 z45 z46 z47 z48 z49 z50 z51 z52 z53) (f65.H2_e4 z44 z45 z46 z47 z48 z49 z50 z51 z52 z53)) (fun s23 s24 s25 s26 s27 s28 s29 s30 s31 s32 => rec (f65.T2 s23 s24 s25 s26 s27 s28 s29 s30 s31 s32) (f65.H2 s23 s24 s25 s26 s27 s28 s29 s30 s31 s32)) s23 s24 s25 s26 s27 s28 s29 s30 s31 s32 := by kernel_rfl
theorem f65.l2_eq {R : Type} (L N : Nat) (κ : Ex → T → H → Option R) : ∀ (n : Nat) (s23 : LT) (s24 : Int) (s25 : Int) (s26 : ByteArray) (s27 : Int) (s28 : LT) (s29 : LY) (s30 : LS) (s31 : LM) (s32 : LLM),
    evLp (E65 L N) (evCallI (E65 L N) 0 1000) 1000 65 106 4 f65.c2 κ n (f65.T2 s23 s24 s25 s26 s27 s28 s29 s30 s31 s32) (f65.H2 s23 s24 s25 s26 s27 s28 s29 s30 s31 s32)
    = f65.l2 L N (fun z44 z45 z46 z47 z48 z49 z50 z51 z52 z53 => κ (.exit 4) (f65.T2_e4 z44 z45 z46 z47 z48 z49 z50 z51 z52 z53) (f65.H2_e4 z44 z45 z46 z47 z48 z49 z50 z51 z52 z53)) n s23 s24 s25 s26 s27 s28 s29 s30 s31 s32 := by
  intro n
  induction n with
  | zero => intros; rfl
  | succ n ih =>
    intro s23 s24 s25 s26 s27 s28 s29 s30 s31 s32
    rw [evLp_succ, f65.s2_eq]
    simp only [ih]
    rfl
theorem f65.p2_e4_eq {R : Type} (L N : Nat) (κ : Ex → T → H → Option R) (rec : T → H → Option R) (z44 : LT) (z45 : Int) (z46 : Int) (z47 : ByteArray) (z48 : Int) (z49 : LT) (z50 : LY) (z51 : LS) (z52 : LM) (z53 : LLM) :
    (contAt (E65 L N) (evCallI (E65 L N) 0 1000) 1000 65 106 4 f65.c1 (rdK (E65 L N) 1000 65 106 2 κ rec)) (.exit 4) (f65.T2_e4 z44 z45 z46 z47 z48 z49 z50 z51 z52 z53) (f65.H2_e4 z44 z45 z46 z47 z48 z49 z50 z51 z52 z53)
    = f65.p2_e4 L N (fun z16 z17 z18 z19 z20 z21 => κ (.exit 2) (f65.T1_e2 z16 z17 z18 z19 z20 z21) (f65.H1_e2 z16 z17 z18 z19 z20 z21)) (fun z76 z77 z78 z79 z80 z81 z82 => κ .ret (f65.T1_r z76 z77 z78 z79 z80 z81 z82) (f65.H1_r z76 z77 z78 z79 z80 z81 z82)) (fun s8 s9 s10 s11 s12 s13 s14 s15 => rec (f65.T1 s8 s9 s10 s11 s12 s13 s14 s15) (f65.H1 s8 s9 s10 s11 s12 s13 s14 s15)) z44 z45 z46 z47 z48 z49 z50 z51 z52 z53 := by kernel_rfl
theorem f65.s1_eq {R : Type} (L N : Nat) (κ : Ex → T → H → Option R) (rec : T → H → Option R) (s8 : LT) (s9 : Int) (s10 : Int) (s11 : LT) (s12 : LY) (s13 : LS) (s14 : LM) (s15 : LLM) :
    evRd (E65 L N) (evCallI (E65 L N) 0 1000) 1000 65 106 2 f65.c1 κ rec (f65.T1 s8 s9 s10 s11 s12 s13 s14 s15) (f65.H1 s8 s9 s10 s11 s12 s13 s14 s15)
    = f65.s1 L N (fun z16 z17 z18 z19 z20 z21 => κ (.exit 2) (f65.T1_e2 z16 z17 z18 z19 z20 z21) (f65.H1_e2 z16 z17 z18 z19 z20 z21)) (fun z76 z77 z78 z79 z80 z81 z82 => κ .ret (f65.T1_r z76 z77 z78 z79 z80 z81 z82) (f65.H1_r z76 z77 z78 z79 z80 z81 z82)) (fun s8 s9 s10 s11 s12 s13 s14 s15 => rec (f65.T1 s8 s9 s10 s11 s12 s13 s14 s15) (f65.H1 s8 s9 s10 s11 s12 s13 s14 s15)) s8 s9 s10 s11 s12 s13 s14 s15 := by
  refine Eq.trans (b := f65.s1' L N (fun z16 z17 z18 z19 z20 z21 => κ (.exit 2) (f65.T1_e2 z16 z17 z18 z19 z20 z21) (f65.H1_e2 z16 z17 z18 z19 z20 z21)) (fun z76 z77 z78 z79 z80 z81 z82 => κ .ret (f65.T1_r z76 z77 z78 z79 z80 z81 z82) (f65.H1_r z76 z77 z78 z79 z80 z81 z82)) (fun s8 s9 s10 s11 s12 s13 s14 s15 => rec (f65.T1 s8 s9 s10 s11 s12 s13 s14 s15) (f65.H1 s8 s9 s10 s11 s12 s13 s14 s15)) (fun s23 s24 s25 s26 s27 s28 s29 s30 s31 s32 => evLp (E65 L N) (evCallI (E65 L N) 0 1000) 1000 65 106 4 f65.c2 (contAt (E65 L N) (evCallI (E65 L N) 0 1000) 1000 65 106 4 f65.c1 (rdK (E65 L N) 1000 65 106 2 κ rec)) L (f65.T2 s23 s24 s25 s26 s27 s28 s29 s30 s31 s32) (f65.H2 s23 s24 s25 s26 s27 s28 s29 s30 s31 s32)) s8 s9 s10 s11 s12 s13 s14 s15) (by kernel_rfl) ?_
  unfold f65.s1
  simp only [f65.l2_eq, f65.p2_e4_eq]
theorem f65.l1_eq {R : Type} (L N : Nat) (κ : Ex → T → H → Option R) : ∀ (n : Nat) (s8 : LT) (s9 : Int) (s10 : Int) (s11 : LT) (s12 : LY) (s13 : LS) (s14 : LM) (s15 : LLM),
    evLp (E65 L N) (evCallI (E65 L N) 0 1000) 1000 65 106 2 f65.c1 κ n (f65.T1 s8 s9 s10 s11 s12 s13 s14 s15) (f65.H1 s8 s9 s10 s11 s12 s13 s14 s15)
    = f65.l1 L N (fun z16 z17 z18 z19 z20 z21 => κ (.exit 2) (f65.T1_e2 z16 z17 z18 z19 z20 z21) (f65.H1_e2 z16 z17 z18 z19 z20 z21)) (fun z76 z77 z78 z79 z80 z81 z82 => κ .ret (f65.T1_r z76 z77 z78 z79 z80 z81 z82) (f65.H1_r z76 z77 z78 z79 z80 z81 z82)) n s8 s9 s10 s11 s12 s13 s14 s15 := by
  intro n
  induction n with
  | zero => intros; rfl
  | succ n ih =>
    intro s8 s9 s10 s11 s12 s13 s14 s15
    rw [evLp_succ, f65.s1_eq]
    simp only [ih]
    rfl
theorem f65.p1_e2_eq {R : Type} (L N : Nat) (κ : Ex → T → H → Option R) (rec : T → H → Option R) (z16 : LT) (z17 : Int) (z18 : LT) (z19 : LY) (z20 : LM) (z21 : LLM) :
    (contAt (E65 L N) (evCallI (E65 L N) 0 1000) 1000 65 106 2 f65.c0 (rdK (E65 L N) 1000 65 106 0 κ rec)) (.exit 2) (f65.T1_e2 z16 z17 z18 z19 z20 z21) (f65.H1_e2 z16 z17 z18 z19 z20 z21)
    = f65.p1_e2 L N (fun z6 => κ (.exit 0) (f65.T0_e0 z6) (f65.H0_e0 z6)) (fun z102 z103 => κ .ret (f65.T0_r z102 z103) (f65.H0_r z102 z103)) (fun s1 s2 s3 s4 s5 => rec (f65.T0 s1 s2 s3 s4 s5) (f65.H0 s1 s2 s3 s4 s5)) z16 z17 z18 z19 z20 z21 := by kernel_rfl
theorem f65.p1_r_eq {R : Type} (L N : Nat) (κ : Ex → T → H → Option R) (rec : T → H → Option R) (z76 : LT) (z77 : Bool) (z78 : Int) (z79 : LT) (z80 : LY) (z81 : LM) (z82 : LLM) :
    (contAt (E65 L N) (evCallI (E65 L N) 0 1000) 1000 65 106 2 f65.c0 (rdK (E65 L N) 1000 65 106 0 κ rec)) .ret (f65.T1_r z76 z77 z78 z79 z80 z81 z82) (f65.H1_r z76 z77 z78 z79 z80 z81 z82)
    = f65.p1_r L N (fun z6 => κ (.exit 0) (f65.T0_e0 z6) (f65.H0_e0 z6)) (fun z102 z103 => κ .ret (f65.T0_r z102 z103) (f65.H0_r z102 z103)) (fun s1 s2 s3 s4 s5 => rec (f65.T0 s1 s2 s3 s4 s5) (f65.H0 s1 s2 s3 s4 s5)) z76 z77 z78 z79 z80 z81 z82 := by kernel_rfl
theorem f65.s0_eq {R : Type} (L N : Nat) (κ : Ex → T → H → Option R) (rec : T → H → Option R) (s1 : LT) (s2 : Int) (s3 : LT) (s4 : LY) (s5 : LLM) :
    evRd (E65 L N) (evCallI (E65 L N) 0 1000) 1000 65 106 0 f65.c0 κ rec (f65.T0 s1 s2 s3 s4 s5) (f65.H0 s1 s2 s3 s4 s5)
    = f65.s0 L N (fun z6 => κ (.exit 0) (f65.T0_e0 z6) (f65.H0_e0 z6)) (fun z102 z103 => κ .ret (f65.T0_r z102 z103) (f65.H0_r z102 z103)) (fun s1 s2 s3 s4 s5 => rec (f65.T0 s1 s2 s3 s4 s5) (f65.H0 s1 s2 s3 s4 s5)) s1 s2 s3 s4 s5 := by
  refine Eq.trans (b := f65.s0' L N (fun z6 => κ (.exit 0) (f65.T0_e0 z6) (f65.H0_e0 z6)) (fun z102 z103 => κ .ret (f65.T0_r z102 z103) (f65.H0_r z102 z103)) (fun s1 s2 s3 s4 s5 => rec (f65.T0 s1 s2 s3 s4 s5) (f65.H0 s1 s2 s3 s4 s5)) (fun s8 s9 s10 s11 s12 s13 s14 s15 => evLp (E65 L N) (evCallI (E65 L N) 0 1000) 1000 65 106 2 f65.c1 (contAt (E65 L N) (evCallI (E65 L N) 0 1000) 1000 65 106 2 f65.c0 (rdK (E65 L N) 1000 65 106 0 κ rec)) L (f65.T1 s8 s9 s10 s11 s12 s13 s14 s15) (f65.H1 s8 s9 s10 s11 s12 s13 s14 s15)) s1 s2 s3 s4 s5) (by kernel_rfl) ?_
  unfold f65.s0
  simp only [f65.l1_eq, f65.p1_e2_eq, f65.p1_r_eq]
theorem f65.l0_eq {R : Type} (L N : Nat) (κ : Ex → T → H → Option R) : ∀ (n : Nat) (s1 : LT) (s2 : Int) (s3 : LT) (s4 : LY) (s5 : LLM),
    evLp (E65 L N) (evCallI (E65 L N) 0 1000) 1000 65 106 0 f65.c0 κ n (f65.T0 s1 s2 s3 s4 s5) (f65.H0 s1 s2 s3 s4 s5)
    = f65.l0 L N (fun z6 => κ (.exit 0) (f65.T0_e0 z6) (f65.H0_e0 z6)) (fun z102 z103 => κ .ret (f65.T0_r z102 z103) (f65.H0_r z102 z103)) n s1 s2 s3 s4 s5 := by
  intro n
  induction n with
  | zero => intros; rfl
  | succ n ih =>
    intro s1 s2 s3 s4 s5
    rw [evLp_succ, f65.s0_eq]
    simp only [ih]
    rfl
theorem f65.p0_e0_eq {R : Type} (L N : Nat) (κ : AV → Option R) (z6 : LLM) :
    (contAt (E65 L N) (evCallI (E65 L N) 0 1000) 1000 65 106 0 (codeOf Tryz.f65) (finK (E65 L N) 1000 Tryz.f65 (finC (.many [(.st 2), .bool]) κ))) (.exit 0) (f65.T0_e0 z6) (f65.H0_e0 z6)
    = f65.p0_e0 L N (fun a0 a1 => κ (.tup [(.tv (.st 2) a0), (.tv .bool a1)])) z6 := by kernel_rfl
theorem f65.p0_r_eq {R : Type} (L N : Nat) (κ : AV → Option R) (z102 : Bool) (z103 : LLM) :
    (contAt (E65 L N) (evCallI (E65 L N) 0 1000) 1000 65 106 0 (codeOf Tryz.f65) (finK (E65 L N) 1000 Tryz.f65 (finC (.many [(.st 2), .bool]) κ))) .ret (f65.T0_r z102 z103) (f65.H0_r z102 z103)
    = f65.p0_r L N (fun a0 a1 => κ (.tup [(.tv (.st 2) a0), (.tv .bool a1)])) z102 z103 := by kernel_rfl
theorem f65.b_eq {R : Type} (L N : Nat) (κ : AV → Option R) (x0 : Tree) (x1 : LT) :
    evBody (E65 L N) (evCallI (E65 L N) 0 1000) 1000 65 Tryz.f65 [(.tv (.st 1) x0), (.tv (.sl (.st 1)) x1)] [] [] (finC (.many [(.st 2), .bool]) κ)
    = f65.b L N (fun a0 a1 => κ (.tup [(.tv (.st 2) a0), (.tv .bool a1)])) x0 x1 := by
  refine Eq.trans (b := f65.b' L N (fun a0 a1 => κ (.tup [(.tv (.st 2) a0), (.tv .bool a1)])) (fun s1 s2 s3 s4 s5 => evLp (E65 L N) (evCallI (E65 L N) 0 1000) 1000 65 106 0 f65.c0 (contAt (E65 L N) (evCallI (E65 L N) 0 1000) 1000 65 106 0 (codeOf Tryz.f65) (finK (E65 L N) 1000 Tryz.f65 (finC (.many [(.st 2), .bool]) κ))) L (f65.T0 s1 s2 s3 s4 s5) (f65.H0 s1 s2 s3 s4 s5)) x0 x1) (by kernel_rfl) ?_
  unfold f65.b
  simp only [f65.l0_eq, f65.p0_e0_eq, f65.p0_r_eq]
theorem f65.ok (L N : Nat) (hΦ : TellsOk Tryz.prog ((Φ83 L N))) : EntOk Tryz.prog 65 (f65.ent L N) := by
  intro args vw site h
  unfold f65.ent
  split
  · rename_i d u ha
    intro y hy hs
    refine call_data (dep := 1000) (E := (E65 L N)) (rs := (.many [(.st 2), .bool])) (κ := unR (.many [(.st 2), .bool])) (sound_of hΦ) okP (callI_sound (sound_of hΦ) okP 0 1000) (f := Tryz.f65) rfl hs ha ?_ (fun _ h => unR_some h) site
    exact (f65.b_eq L N (unR (.many [(.st 2), .bool])) d.1 d.2.1).trans (Eq.trans (b := f65.b L N (fun a0 a1 => some (a0, a1)) d.1 d.2.1) (by kernel_rfl) hy)
  · intro y hy
    cases hy
def Φ65 (L N : Nat) : Tells := (addT (Φ83 L N) 65 (f65.ent L N))
theorem Φ65_ok (L N : Nat) : TellsOk Tryz.prog (Φ65 L N) := addT_ok (Φ83_ok L N) (f65.ok L N (Φ83_ok L N))
def f37.b' {R : Type} (L N : Nat) (k : Graph → Bool → Option R) (x0 : Tree) (x1 : LT) : Option R :=
  (f64 L N (Tree.mk x0.op x0.n x0.parts) x1).bind fun y0 =>
  bif (!y0) then
    k (Graph.mk []) false
  else (f65 L N (Tree.mk x0.op x0.n x0.parts) x1).bind fun y1 =>
  k (Graph.mk y1.1.moves) y1.2
def f37.b {R : Type} (L N : Nat) (k : Graph → Bool → Option R) (x0 : Tree) (x1 : LT) : Option R :=
  f37.b' L N k x0 x1
def f37 (L N : Nat) (x0 : Tree) (x1 : LT) : Option (Graph × Bool) := f37.b L N (fun a0 a1 => some (a0, a1)) x0 x1
def f37.ent (L N : Nat) (args : List AV) (vw : View) (site : Nat) : Ans := match coeD [(.st 1), (.sl (.st 1))] vw args with
  | some (d, u) => ⟨Graph × Bool, f37 L N d.1 d.2.1, fun y => ((.tup [(.tv (.st 2) y.1), (.tv .bool y.2)]), u, [])⟩
  | none => Ans.no
noncomputable def E37 (L N : Nat) : Env := { P := Tryz.prog, ty := tyOf, Φ := (Φ65 L N), inl := inlT, live := lives, liveX := livesX, L := L, dp := none, prom := promT, heal := healT, ren := renT }
theorem f37.b_eq {R : Type} (L N : Nat) (κ : AV → Option R) (x0 : Tree) (x1 : LT) :
    evBody (E37 L N) (evCallI (E37 L N) 0 1000) 1000 37 Tryz.f37 [(.tv (.st 1) x0), (.tv (.sl (.st 1)) x1)] [] [] (finC (.many [(.st 2), .bool]) κ)
    = f37.b L N (fun a0 a1 => κ (.tup [(.tv (.st 2) a0), (.tv .bool a1)])) x0 x1 := by kernel_rfl
theorem f37.ok (L N : Nat) (hΦ : TellsOk Tryz.prog ((Φ65 L N))) : EntOk Tryz.prog 37 (f37.ent L N) := by
  intro args vw site h
  unfold f37.ent
  split
  · rename_i d u ha
    intro y hy hs
    refine call_data (dep := 1000) (E := (E37 L N)) (rs := (.many [(.st 2), .bool])) (κ := unR (.many [(.st 2), .bool])) (sound_of hΦ) okP (callI_sound (sound_of hΦ) okP 0 1000) (f := Tryz.f37) rfl hs ha ?_ (fun _ h => unR_some h) site
    exact (f37.b_eq L N (unR (.many [(.st 2), .bool])) d.1 d.2.1).trans (Eq.trans (b := f37.b L N (fun a0 a1 => some (a0, a1)) d.1 d.2.1) (by kernel_rfl) hy)
  · intro y hy
    cases hy
def Φ37 (L N : Nat) : Tells := (addT (Φ65 L N) 37 (f37.ent L N))
theorem Φ37_ok (L N : Nat) : TellsOk Tryz.prog (Φ37 L N) := addT_ok (Φ65_ok L N) (f37.ok L N (Φ65_ok L N))
def f38.j0' {R : Type} (L N : Nat) (k1_e2 : Int → Bool → Int → LI → Int → LM → LLM → LLM → Option R) (rec1 : Int → Bool → Int → Int → LI → Int → LM → LLM → LLM → Option R) (v34 : Int) (v35 : Bool) (v36 : Int) (v37 : Int) (v38 : Int) (v39 : LI) (v40 : Int) (v41 : LM) (v42 : LLM) (v43 : LLM) : Option R :=
  (f35 L N v39 v40 v34).bind fun y44 =>
  bif (decide (v41.length + ([(Move.mk v38 y44.1)] : LM).length ≤ lim)) then
    rec1 v34 v35 v36 (wi (v37 - (1 : Int))) y44.2.1 y44.2.2 (v41 ++ ([(Move.mk v38 y44.1)] : LM)) v42 v43
  else none
def f38.s1' {R : Type} (L N : Nat) (k1_e2 : Int → Bool → Int → LI → Int → LM → LLM → LLM → Option R) (rec1 : Int → Bool → Int → Int → LI → Int → LM → LLM → LLM → Option R) (s15 : Int) (s16 : Bool) (s17 : Int) (s18 : Int) (s19 : LI) (s20 : Int) (s21 : LM) (s22 : LLM) (s23 : LLM) : Option R :=
  bif (decide (s18 > (0 : Int))) then
    (f35 L N s19 s20 (3 : Int)).bind fun y32 =>
    bif (!s16) then
      (f66 L N y32.2.1 y32.2.2).bind fun y33 =>
      f38.j0' L N k1_e2 rec1 s15 s16 s17 s18 y33.1 y33.2.1 y33.2.2 s21 s22 s23
    else f38.j0' L N k1_e2 rec1 s15 s16 s17 s18 y32.1 y32.2.1 y32.2.2 s21 s22 s23
  else k1_e2 s15 s16 s17 s19 s20 s21 s22 s23
def f38.s1 {R : Type} (L N : Nat) (k1_e2 : Int → Bool → Int → LI → Int → LM → LLM → LLM → Option R) (rec1 : Int → Bool → Int → Int → LI → Int → LM → LLM → LLM → Option R) (s15 : Int) (s16 : Bool) (s17 : Int) (s18 : Int) (s19 : LI) (s20 : Int) (s21 : LM) (s22 : LLM) (s23 : LLM) : Option R :=
  f38.s1' L N k1_e2 rec1 s15 s16 s17 s18 s19 s20 s21 s22 s23
def f38.l1 {R : Type} (L N : Nat) (k1_e2 : Int → Bool → Int → LI → Int → LM → LLM → LLM → Option R) : Nat → Int → Bool → Int → Int → LI → Int → LM → LLM → LLM → Option R
  | 0, _, _, _, _, _, _, _, _, _ => none
  | n + 1, s15, s16, s17, s18, s19, s20, s21, s22, s23 => f38.s1 L N k1_e2 (f38.l1 L N k1_e2 n) s15 s16 s17 s18 s19 s20 s21 s22 s23
def f38.T1 (s15 : Int) (s16 : Bool) (s17 : Int) (s18 : Int) (s19 : LI) (s20 : Int) (s21 : LM) (s22 : LLM) (s23 : LLM) : T := mkT 84 [(0, (.ptr 0 0)), (4, (.ptr 1004 0)), (5, (.ptr 1005 0)), (6, (.tv i64 s15)), (7, (.tv .bool s16)), (8, (.tv i64 s17)), (9, (.row 1025)), (10, (.tv i64 s18))] ++ [.ptr 0 0]
def f38.H1 (s15 : Int) (s16 : Bool) (s17 : Int) (s18 : Int) (s19 : LI) (s20 : Int) (s21 : LM) (s22 : LLM) (s23 : LLM) : H := [(0, (.box [(.tv (.sl (.int .u8)) s19), (.tv i64 s20)])), (1004, (.box [(.row 1900)])), (1005, (.box [(.row 1901)])), (1025, (.row 50 (.st 0) s21)), (1900, (.deep 0 (.sl (.st 0)) s22 none)), (1901, (.deep 0 (.sl (.st 0)) s23 none))]
def f38.T1_e2 (z24 : Int) (z25 : Bool) (z26 : Int) (z27 : LI) (z28 : Int) (z29 : LM) (z30 : LLM) (z31 : LLM) : T := mkT 84 [(0, (.ptr 0 0)), (4, (.ptr 1004 0)), (5, (.ptr 1005 0)), (6, (.tv i64 z24)), (7, (.tv .bool z25)), (8, (.tv i64 z26)), (9, (.row 1025))] ++ [.ptr 0 0]
def f38.H1_e2 (z24 : Int) (z25 : Bool) (z26 : Int) (z27 : LI) (z28 : Int) (z29 : LM) (z30 : LLM) (z31 : LLM) : H := [(0, (.box [(.tv (.sl (.int .u8)) z27), (.tv i64 z28)])), (1004, (.box [(.row 1900)])), (1005, (.box [(.row 1901)])), (1025, (.row 50 (.st 0) z29)), (1900, (.deep 0 (.sl (.st 0)) z30 none)), (1901, (.deep 0 (.sl (.st 0)) z31 none))]
def f38.p1_e2' {R : Type} (L N : Nat) (k0_e0 : Int → LI → Int → LLM → LLM → Option R) (rec0 : Int → Bool → Int → LI → Int → LLM → LLM → Option R) (z24 : Int) (z25 : Bool) (z26 : Int) (z27 : LI) (z28 : Int) (z29 : LM) (z30 : LLM) (z31 : LLM) : Option R :=
  (f67 L N z29).bind fun y45 =>
  bif (decide (z31.length + ([y45] : LLM).length ≤ lim)) then
    rec0 z24 z25 (wi (z26 + (1 : Int))) z27 z28 z30 (z31 ++ ([y45] : LLM))
  else none
def f38.p1_e2 {R : Type} (L N : Nat) (k0_e0 : Int → LI → Int → LLM → LLM → Option R) (rec0 : Int → Bool → Int → LI → Int → LLM → LLM → Option R) (z24 : Int) (z25 : Bool) (z26 : Int) (z27 : LI) (z28 : Int) (z29 : LM) (z30 : LLM) (z31 : LLM) : Option R :=
  f38.p1_e2' L N k0_e0 rec0 z24 z25 z26 z27 z28 z29 z30 z31
def f38.s0' {R : Type} (L N : Nat) (k0_e0 : Int → LI → Int → LLM → LLM → Option R) (rec0 : Int → Bool → Int → LI → Int → LLM → LLM → Option R) (w1 : Int → Bool → Int → Int → LI → Int → LM → LLM → LLM → Option R) (s2 : Int) (s3 : Bool) (s4 : Int) (s5 : LI) (s6 : Int) (s7 : LLM) (s8 : LLM) : Option R :=
  bif (decide (s4 < s2)) then
    (f35 L N s5 s6 (4 : Int)).bind fun y14 =>
    w1 s2 s3 s4 y14.1 y14.2.1 y14.2.2 ([] : LM) s7 s8
  else k0_e0 s2 s5 s6 s7 s8
def f38.s0 {R : Type} (L N : Nat) (k0_e0 : Int → LI → Int → LLM → LLM → Option R) (rec0 : Int → Bool → Int → LI → Int → LLM → LLM → Option R) (s2 : Int) (s3 : Bool) (s4 : Int) (s5 : LI) (s6 : Int) (s7 : LLM) (s8 : LLM) : Option R :=
  f38.s0' L N k0_e0 rec0 (fun s15 s16 s17 s18 s19 s20 s21 s22 s23 => f38.l1 L N (fun z24 z25 z26 z27 z28 z29 z30 z31 => f38.p1_e2 L N k0_e0 rec0 z24 z25 z26 z27 z28 z29 z30 z31) L s15 s16 s17 s18 s19 s20 s21 s22 s23) s2 s3 s4 s5 s6 s7 s8
def f38.l0 {R : Type} (L N : Nat) (k0_e0 : Int → LI → Int → LLM → LLM → Option R) : Nat → Int → Bool → Int → LI → Int → LLM → LLM → Option R
  | 0, _, _, _, _, _, _, _ => none
  | n + 1, s2, s3, s4, s5, s6, s7, s8 => f38.s0 L N k0_e0 (f38.l0 L N k0_e0 n) s2 s3 s4 s5 s6 s7 s8
def f38.T0 (s2 : Int) (s3 : Bool) (s4 : Int) (s5 : LI) (s6 : Int) (s7 : LLM) (s8 : LLM) : T := mkT 84 [(0, (.ptr 0 0)), (4, (.ptr 1004 0)), (5, (.ptr 1005 0)), (6, (.tv i64 s2)), (7, (.tv .bool s3)), (8, (.tv i64 s4))] ++ [.ptr 0 0]
def f38.H0 (s2 : Int) (s3 : Bool) (s4 : Int) (s5 : LI) (s6 : Int) (s7 : LLM) (s8 : LLM) : H := [(0, (.box [(.tv (.sl (.int .u8)) s5), (.tv i64 s6)])), (1004, (.box [(.row 1900)])), (1005, (.box [(.row 1901)])), (1900, (.deep 0 (.sl (.st 0)) s7 none)), (1901, (.deep 0 (.sl (.st 0)) s8 none))]
def f38.T0_e0 (z9 : Int) (z10 : LI) (z11 : Int) (z12 : LLM) (z13 : LLM) : T := mkT 84 [(0, (.ptr 0 0)), (4, (.ptr 1004 0)), (5, (.ptr 1005 0)), (6, (.tv i64 z9))] ++ [.ptr 0 0]
def f38.H0_e0 (z9 : Int) (z10 : LI) (z11 : Int) (z12 : LLM) (z13 : LLM) : H := [(0, (.box [(.tv (.sl (.int .u8)) z10), (.tv i64 z11)])), (1004, (.box [(.row 1900)])), (1005, (.box [(.row 1901)])), (1900, (.deep 0 (.sl (.st 0)) z12 none)), (1901, (.deep 0 (.sl (.st 0)) z13 none))]
def f38.p0_e0' {R : Type} (L N : Nat) (k : Graph → LI → Int → Option R) (z9 : Int) (z10 : LI) (z11 : Int) (z12 : LLM) (z13 : LLM) : Option R :=
  (f35 L N z10 z11 (30 : Int)).bind fun y46 =>
  bif (y46.1 == (0 : Int)) then
    bif (decide (0 ≤ (0 : Int)) && decide ((0 : Int) < (z13.length : Int))) then
      bif (decide ((listAt z13 [] (0 : Int).toNat).length + ([(Move.mk (9 : Int) (0 : Int))] : LM).length ≤ lim)) then
        bif (decide (0 ≤ (0 : Int)) && decide ((0 : Int) < (z13.length : Int))) then
          k (Graph.mk (z13.set ((0 : Int).toNat) ((listAt z13 [] (0 : Int).toNat) ++ ([(Move.mk (9 : Int) (0 : Int))] : LM)))) y46.2.1 y46.2.2
        else none
      else none
    else none
  else bif (y46.1 == (1 : Int)) then
    bif (decide (0 ≤ (0 : Int)) && decide ((0 : Int) < (z13.length : Int))) then
      bif (decide ((listAt z13 [] (0 : Int).toNat).length + ([(Move.mk (0 : Int) z9)] : LM).length ≤ lim)) then
        bif (decide (0 ≤ (0 : Int)) && decide ((0 : Int) < (z13.length : Int))) then
          k (Graph.mk (z13.set ((0 : Int).toNat) ((listAt z13 [] (0 : Int).toNat) ++ ([(Move.mk (0 : Int) z9)] : LM)))) y46.2.1 y46.2.2
        else none
      else none
    else none
  else bif (y46.1 == (2 : Int)) then
    k (Graph.mk []) y46.2.1 y46.2.2
  else k (Graph.mk z13) y46.2.1 y46.2.2
def f38.p0_e0 {R : Type} (L N : Nat) (k : Graph → LI → Int → Option R) (z9 : Int) (z10 : LI) (z11 : Int) (z12 : LLM) (z13 : LLM) : Option R :=
  f38.p0_e0' L N k z9 z10 z11 z12 z13
def f38.b' {R : Type} (L N : Nat) (k : Graph → LI → Int → Option R) (w0 : Int → Bool → Int → LI → Int → LLM → LLM → Option R) (c0 : LI) (c1 : Int) (x0 : Int) : Option R :=
  (f35 L N c0 c1 x0).bind fun y0 =>
  (f35 L N y0.2.1 y0.2.2 (2 : Int)).bind fun y1 =>
  w0 (wi ((1 : Int) + y0.1)) (y1.1 == (0 : Int)) (0 : Int) y1.2.1 y1.2.2 ([] : LLM) ([] : LLM)
def f38.b {R : Type} (L N : Nat) (k : Graph → LI → Int → Option R) (c0 : LI) (c1 : Int) (x0 : Int) : Option R :=
  f38.b' L N k (fun s2 s3 s4 s5 s6 s7 s8 => f38.l0 L N (fun z9 z10 z11 z12 z13 => f38.p0_e0 L N k z9 z10 z11 z12 z13) L s2 s3 s4 s5 s6 s7 s8) c0 c1 x0
def f38 (L N : Nat) (c0 : LI) (c1 : Int) (x0 : Int) : Option (Graph × LI × Int) := f38.b L N (fun a0 a1 a2 => some (a0, a1, a2)) c0 c1 x0
def f38.ent (L N : Nat) (args : List AV) (vw : View) (site : Nat) : Ans := match boxD [(.sl (.int .u8)), i64] [i64] vw args with
  | some (o, d0, d, u) => ⟨Graph × LI × Int, f38 L N d0.1 d0.2.1 d.1, fun y => ((.tv (.st 2) y.1), u ++ [(o, some (.box [(.tv (.sl (.int .u8)) y.2.1), (.tv i64 y.2.2)]))], [])⟩
  | none => Ans.no
noncomputable def E38 (L N : Nat) : Env := { P := Tryz.prog, ty := tyOf, Φ := (Φ37 L N), inl := inlT, live := lives, liveX := livesX, L := L, dp := (some 0), prom := promT, heal := healT, ren := renT, fresh := fun s => Nat.beq s 1065 || Nat.beq s 1078 }
noncomputable def f38.c0 : Code := loopAt 0 (codeOf Tryz.f38)
noncomputable def f38.c1 : Code := loopAt 2 f38.c0
theorem f38.s1_eq {R : Type} (L N : Nat) (κ : Ex → T → H → Option R) (rec : T → H → Option R) (s15 : Int) (s16 : Bool) (s17 : Int) (s18 : Int) (s19 : LI) (s20 : Int) (s21 : LM) (s22 : LLM) (s23 : LLM) :
    evRd (E38 L N) (evCallI (E38 L N) 0 1000) 1000 38 84 2 f38.c1 κ rec (f38.T1 s15 s16 s17 s18 s19 s20 s21 s22 s23) (f38.H1 s15 s16 s17 s18 s19 s20 s21 s22 s23)
    = f38.s1 L N (fun z24 z25 z26 z27 z28 z29 z30 z31 => κ (.exit 2) (f38.T1_e2 z24 z25 z26 z27 z28 z29 z30 z31) (f38.H1_e2 z24 z25 z26 z27 z28 z29 z30 z31)) (fun s15 s16 s17 s18 s19 s20 s21 s22 s23 => rec (f38.T1 s15 s16 s17 s18 s19 s20 s21 s22 s23) (f38.H1 s15 s16 s17 s18 s19 s20 s21 s22 s23)) s15 s16 s17 s18 s19 s20 s21 s22 s23 := by kernel_rfl
theorem f38.l1_eq {R : Type} (L N : Nat) (κ : Ex → T → H → Option R) : ∀ (n : Nat) (s15 : Int) (s16 : Bool) (s17 : Int) (s18 : Int) (s19 : LI) (s20 : Int) (s21 : LM) (s22 : LLM) (s23 : LLM),
    evLp (E38 L N) (evCallI (E38 L N) 0 1000) 1000 38 84 2 f38.c1 κ n (f38.T1 s15 s16 s17 s18 s19 s20 s21 s22 s23) (f38.H1 s15 s16 s17 s18 s19 s20 s21 s22 s23)
    = f38.l1 L N (fun z24 z25 z26 z27 z28 z29 z30 z31 => κ (.exit 2) (f38.T1_e2 z24 z25 z26 z27 z28 z29 z30 z31) (f38.H1_e2 z24 z25 z26 z27 z28 z29 z30 z31)) n s15 s16 s17 s18 s19 s20 s21 s22 s23 := by
  intro n
  induction n with
  | zero => intros; rfl
  | succ n ih =>
    intro s15 s16 s17 s18 s19 s20 s21 s22 s23
    rw [evLp_succ, f38.s1_eq]
    simp only [ih]
    rfl
theorem f38.p1_e2_eq {R : Type} (L N : Nat) (κ : Ex → T → H → Option R) (rec : T → H → Option R) (z24 : Int) (z25 : Bool) (z26 : Int) (z27 : LI) (z28 : Int) (z29 : LM) (z30 : LLM) (z31 : LLM) :
    (contAt (E38 L N) (evCallI (E38 L N) 0 1000) 1000 38 84 2 f38.c0 (rdK (E38 L N) 1000 38 84 0 κ rec)) (.exit 2) (f38.T1_e2 z24 z25 z26 z27 z28 z29 z30 z31) (f38.H1_e2 z24 z25 z26 z27 z28 z29 z30 z31)
    = f38.p1_e2 L N (fun z9 z10 z11 z12 z13 => κ (.exit 0) (f38.T0_e0 z9 z10 z11 z12 z13) (f38.H0_e0 z9 z10 z11 z12 z13)) (fun s2 s3 s4 s5 s6 s7 s8 => rec (f38.T0 s2 s3 s4 s5 s6 s7 s8) (f38.H0 s2 s3 s4 s5 s6 s7 s8)) z24 z25 z26 z27 z28 z29 z30 z31 := by kernel_rfl
theorem f38.s0_eq {R : Type} (L N : Nat) (κ : Ex → T → H → Option R) (rec : T → H → Option R) (s2 : Int) (s3 : Bool) (s4 : Int) (s5 : LI) (s6 : Int) (s7 : LLM) (s8 : LLM) :
    evRd (E38 L N) (evCallI (E38 L N) 0 1000) 1000 38 84 0 f38.c0 κ rec (f38.T0 s2 s3 s4 s5 s6 s7 s8) (f38.H0 s2 s3 s4 s5 s6 s7 s8)
    = f38.s0 L N (fun z9 z10 z11 z12 z13 => κ (.exit 0) (f38.T0_e0 z9 z10 z11 z12 z13) (f38.H0_e0 z9 z10 z11 z12 z13)) (fun s2 s3 s4 s5 s6 s7 s8 => rec (f38.T0 s2 s3 s4 s5 s6 s7 s8) (f38.H0 s2 s3 s4 s5 s6 s7 s8)) s2 s3 s4 s5 s6 s7 s8 := by
  refine Eq.trans (b := f38.s0' L N (fun z9 z10 z11 z12 z13 => κ (.exit 0) (f38.T0_e0 z9 z10 z11 z12 z13) (f38.H0_e0 z9 z10 z11 z12 z13)) (fun s2 s3 s4 s5 s6 s7 s8 => rec (f38.T0 s2 s3 s4 s5 s6 s7 s8) (f38.H0 s2 s3 s4 s5 s6 s7 s8)) (fun s15 s16 s17 s18 s19 s20 s21 s22 s23 => evLp (E38 L N) (evCallI (E38 L N) 0 1000) 1000 38 84 2 f38.c1 (contAt (E38 L N) (evCallI (E38 L N) 0 1000) 1000 38 84 2 f38.c0 (rdK (E38 L N) 1000 38 84 0 κ rec)) L (f38.T1 s15 s16 s17 s18 s19 s20 s21 s22 s23) (f38.H1 s15 s16 s17 s18 s19 s20 s21 s22 s23)) s2 s3 s4 s5 s6 s7 s8) (by kernel_rfl) ?_
  unfold f38.s0
  simp only [f38.l1_eq, f38.p1_e2_eq]
theorem f38.l0_eq {R : Type} (L N : Nat) (κ : Ex → T → H → Option R) : ∀ (n : Nat) (s2 : Int) (s3 : Bool) (s4 : Int) (s5 : LI) (s6 : Int) (s7 : LLM) (s8 : LLM),
    evLp (E38 L N) (evCallI (E38 L N) 0 1000) 1000 38 84 0 f38.c0 κ n (f38.T0 s2 s3 s4 s5 s6 s7 s8) (f38.H0 s2 s3 s4 s5 s6 s7 s8)
    = f38.l0 L N (fun z9 z10 z11 z12 z13 => κ (.exit 0) (f38.T0_e0 z9 z10 z11 z12 z13) (f38.H0_e0 z9 z10 z11 z12 z13)) n s2 s3 s4 s5 s6 s7 s8 := by
  intro n
  induction n with
  | zero => intros; rfl
  | succ n ih =>
    intro s2 s3 s4 s5 s6 s7 s8
    rw [evLp_succ, f38.s0_eq]
    simp only [ih]
    rfl
theorem f38.p0_e0_eq {R : Type} (L N : Nat) (κ : AV → Dens [(.sl (.int .u8)), i64] → Option R) (z9 : Int) (z10 : LI) (z11 : Int) (z12 : LLM) (z13 : LLM) :
    (contAt (E38 L N) (evCallI (E38 L N) 0 1000) 1000 38 84 0 (codeOf Tryz.f38) (finK (E38 L N) 1000 Tryz.f38 (finM (.one (.st 2)) [(.sl (.int .u8)), i64] κ))) (.exit 0) (f38.T0_e0 z9 z10 z11 z12 z13) (f38.H0_e0 z9 z10 z11 z12 z13)
    = f38.p0_e0 L N (fun a0 a1 a2 => κ (.tv (.st 2) a0) (a1, a2, ())) z9 z10 z11 z12 z13 := by kernel_rfl
theorem f38.b_eq {R : Type} (L N : Nat) (κ : AV → Dens [(.sl (.int .u8)), i64] → Option R) (c0 : LI) (c1 : Int) (x0 : Int) :
    evBody (E38 L N) (evCallI (E38 L N) 0 1000) 1000 38 Tryz.f38 [(.ptr 0 0), (.tv i64 x0)] [.ptr 0 0] [(0, (.box [(.tv (.sl (.int .u8)) c0), (.tv i64 c1)]))] (finM (.one (.st 2)) [(.sl (.int .u8)), i64] κ)
    = f38.b L N (fun a0 a1 a2 => κ (.tv (.st 2) a0) (a1, a2, ())) c0 c1 x0 := by
  refine Eq.trans (b := f38.b' L N (fun a0 a1 a2 => κ (.tv (.st 2) a0) (a1, a2, ())) (fun s2 s3 s4 s5 s6 s7 s8 => evLp (E38 L N) (evCallI (E38 L N) 0 1000) 1000 38 84 0 f38.c0 (contAt (E38 L N) (evCallI (E38 L N) 0 1000) 1000 38 84 0 (codeOf Tryz.f38) (finK (E38 L N) 1000 Tryz.f38 (finM (.one (.st 2)) [(.sl (.int .u8)), i64] κ))) L (f38.T0 s2 s3 s4 s5 s6 s7 s8) (f38.H0 s2 s3 s4 s5 s6 s7 s8)) c0 c1 x0) (by kernel_rfl) ?_
  unfold f38.b
  simp only [f38.l0_eq, f38.p0_e0_eq]
theorem f38.ok (L N : Nat) (hΦ : TellsOk Tryz.prog ((Φ37 L N))) : EntOk Tryz.prog 38 (f38.ent L N) := by
  intro args vw site h
  unfold f38.ent
  split
  · rename_i o d0 d u ha
    intro y hy hs
    obtain ⟨rest, cs, rfl, ho, hd0, hr, hu⟩ := boxD_some ha
    refine call_box (y := y) (dep := 1000) (v' := (.tv (.st 2) y.1)) (d1 := (y.2.1, y.2.2, ())) (E := (E38 L N)) (ts := [(.sl (.int .u8)), i64]) (tr := [i64]) (rs := (.one (.st 2))) (κ := (fun v d => (unR (.one (.st 2)) v).bind fun x => some (x, d.1, d.2.1))) (sound_of hΦ) okP (callI_sound (sound_of hΦ) okP 0 1000) (f := Tryz.f38) rfl hs ho hd0 hr hu ?_ (fun _ _ h => by obtain ⟨x, h1, h2⟩ := unR_bind h; obtain rfl := Option.some.inj h2; exact ⟨h1, rfl⟩) site
    exact (f38.b_eq L N (fun v d => (unR (.one (.st 2)) v).bind fun x => some (x, d.1, d.2.1)) d0.1 d0.2.1 d.1).trans (Eq.trans (b := f38.b L N (fun a0 a1 a2 => some (a0, a1, a2)) d0.1 d0.2.1 d.1) (by kernel_rfl) hy)
  · intro y hy
    cases hy
def Φ38 (L N : Nat) : Tells := (addT (Φ37 L N) 38 (f38.ent L N))
theorem Φ38_ok (L N : Nat) : TellsOk Tryz.prog (Φ38 L N) := addT_ok (Φ37_ok L N) (f38.ok L N (Φ37_ok L N))
def f14.b' {R : Type} (L N : Nat) (k : Graph → LI → Int → Option R) (c0 : LI) (c1 : Int) : Option R :=
  (f35 L N c0 c1 (2 : Int)).bind fun y0 =>
  bif (y0.1 == (0 : Int)) then
    (f36 L N y0.2.1 y0.2.2).bind fun y1 =>
    (f37 L N (Tree.mk y1.1.op y1.1.n y1.1.parts) y1.2.1).bind fun y2 =>
    bif y2.2 then
      k (Graph.mk ((Graph.mk y2.1.moves).moves)) y1.2.2.1 y1.2.2.2
    else (f38 L N y1.2.2.1 y1.2.2.2 (6 : Int)).bind fun y6 =>
    k (Graph.mk y6.1.moves) y6.2.1 y6.2.2
  else (f38 L N y0.2.1 y0.2.2 (6 : Int)).bind fun y7 =>
  k (Graph.mk y7.1.moves) y7.2.1 y7.2.2
def f14.b {R : Type} (L N : Nat) (k : Graph → LI → Int → Option R) (c0 : LI) (c1 : Int) : Option R :=
  f14.b' L N k c0 c1
def f14 (L N : Nat) (c0 : LI) (c1 : Int) : Option (Graph × LI × Int) := f14.b L N (fun a0 a1 a2 => some (a0, a1, a2)) c0 c1
def f14.ent (L N : Nat) (args : List AV) (vw : View) (site : Nat) : Ans := match boxD [(.sl (.int .u8)), i64] [] vw args with
  | some (o, d0, d, u) => ⟨Graph × LI × Int, f14 L N d0.1 d0.2.1, fun y => ((.tv (.st 2) y.1), u ++ [(o, some (.box [(.tv (.sl (.int .u8)) y.2.1), (.tv i64 y.2.2)]))], [])⟩
  | none => Ans.no
noncomputable def E14 (L N : Nat) : Env := { P := Tryz.prog, ty := tyOf, Φ := (Φ38 L N), inl := inlT, live := lives, liveX := livesX, L := L, dp := none, prom := promT, heal := healT, ren := renT }
theorem f14.b_eq {R : Type} (L N : Nat) (κ : AV → Dens [(.sl (.int .u8)), i64] → Option R) (c0 : LI) (c1 : Int) :
    evBody (E14 L N) (evCallI (E14 L N) 0 1000) 1000 14 Tryz.f14 [(.ptr 0 0)] [.ptr 0 0] [(0, (.box [(.tv (.sl (.int .u8)) c0), (.tv i64 c1)]))] (finM (.one (.st 2)) [(.sl (.int .u8)), i64] κ)
    = f14.b L N (fun a0 a1 a2 => κ (.tv (.st 2) a0) (a1, a2, ())) c0 c1 := by kernel_rfl
theorem f14.ok (L N : Nat) (hΦ : TellsOk Tryz.prog ((Φ38 L N))) : EntOk Tryz.prog 14 (f14.ent L N) := by
  intro args vw site h
  unfold f14.ent
  split
  · rename_i o d0 d u ha
    intro y hy hs
    obtain ⟨rest, cs, rfl, ho, hd0, hr, hu⟩ := boxD_some ha
    refine call_box (y := y) (dep := 1000) (v' := (.tv (.st 2) y.1)) (d1 := (y.2.1, y.2.2, ())) (E := (E14 L N)) (ts := [(.sl (.int .u8)), i64]) (tr := []) (rs := (.one (.st 2))) (κ := (fun v d => (unR (.one (.st 2)) v).bind fun x => some (x, d.1, d.2.1))) (sound_of hΦ) okP (callI_sound (sound_of hΦ) okP 0 1000) (f := Tryz.f14) rfl hs ho hd0 hr hu ?_ (fun _ _ h => by obtain ⟨x, h1, h2⟩ := unR_bind h; obtain rfl := Option.some.inj h2; exact ⟨h1, rfl⟩) site
    exact (f14.b_eq L N (fun v d => (unR (.one (.st 2)) v).bind fun x => some (x, d.1, d.2.1)) d0.1 d0.2.1).trans (Eq.trans (b := f14.b L N (fun a0 a1 a2 => some (a0, a1, a2)) d0.1 d0.2.1) (by kernel_rfl) hy)
  · intro y hy
    cases hy
def Φ14 (L N : Nat) : Tells := (addT (Φ38 L N) 14 (f14.ent L N))
theorem Φ14_ok (L N : Nat) : TellsOk Tryz.prog (Φ14 L N) := addT_ok (Φ38_ok L N) (f14.ok L N (Φ38_ok L N))
def f15.j1' {R : Type} (L N : Nat) (k0_e0 : LI → Int → LI → Option R) (rec0 : Int → Int → LI → Int → LLM → LI → Option R) (v29 : Int) (v30 : Int) (v31 : Int) (v32 : Bool) (v33 : LI) (v34 : Int) (v35 : LLM) (v36 : LI) : Option R :=
  bif v32 then
    bif (decide (v36.length + ([v31] : LI).length ≤ lim)) then
      rec0 v29 (wi (v30 - (1 : Int))) v33 v34 v35 (v36 ++ ([v31] : LI))
    else none
  else rec0 v29 (wi (v30 - (1 : Int))) v33 v34 v35 v36
def f15.j2' {R : Type} (L N : Nat) (k0_e0 : LI → Int → LI → Option R) (rec0 : Int → Int → LI → Int → LLM → LI → Option R) (v21 : Int) (v22 : Int) (v23 : Int) (v24 : LI) (v25 : Int) (v26 : LLM) (v27 : LI) : Option R :=
  bif (v23 != (0 : Int)) then
    f15.j1' L N k0_e0 rec0 v21 v22 v23 true v24 v25 v26 v27
  else (f35 L N v24 v25 (20 : Int)).bind fun y28 =>
  f15.j1' L N k0_e0 rec0 v21 v22 v23 (y28.1 == (0 : Int)) y28.2.1 y28.2.2 v26 v27
def f15.j0' {R : Type} (L N : Nat) (k0_e0 : LI → Int → LI → Option R) (rec0 : Int → Int → LI → Int → LLM → LI → Option R) (v12 : Int) (v13 : Int) (v14 : Int) (v15 : Bool) (v16 : LI) (v17 : Int) (v18 : LLM) (v19 : LI) : Option R :=
  bif v15 then
    bif (decide (0 ≤ v12) && decide (v12 < (v18.length : Int))) then
      bif (decide (0 ≤ v12) && decide (v12 < (v18.length : Int))) then
        (f35 L N v16 v17 ((listAt v18 [] v12.toNat).length : Int)).bind fun y20 =>
        bif (decide (0 ≤ y20.1) && decide (y20.1 < ((listAt v18 [] v12.toNat).length : Int))) then
          f15.j2' L N k0_e0 rec0 ((listAt (listAt v18 [] v12.toNat) (Ty.dflt (.st 0)) y20.1.toNat).to) v13 ((listAt (listAt v18 [] v12.toNat) (Ty.dflt (.st 0)) y20.1.toNat).act) y20.2.1 y20.2.2 v18 v19
        else none
      else none
    else none
  else f15.j2' L N k0_e0 rec0 v12 v13 v14 v16 v17 v18 v19
def f15.s0' {R : Type} (L N : Nat) (k0_e0 : LI → Int → LI → Option R) (rec0 : Int → Int → LI → Int → LLM → LI → Option R) (s1 : Int) (s2 : Int) (s3 : LI) (s4 : Int) (s5 : LLM) (s6 : LI) : Option R :=
  bif (decide (s2 > (0 : Int))) then
    (f35 L N s3 s4 (5 : Int)).bind fun y10 =>
    bif (decide (s1 < (s5.length : Int))) then
      bif (decide (0 ≤ s1) && decide (s1 < (s5.length : Int))) then
        bif (decide (((listAt s5 [] s1.toNat).length : Int) > (0 : Int))) then
          (f35 L N y10.2.1 y10.2.2 (6 : Int)).bind fun y11 =>
          f15.j0' L N k0_e0 rec0 s1 s2 (wi (y10.1 - (2 : Int))) (decide (y11.1 > (0 : Int))) y11.2.1 y11.2.2 s5 s6
        else f15.j0' L N k0_e0 rec0 s1 s2 (wi (y10.1 - (2 : Int))) false y10.2.1 y10.2.2 s5 s6
      else none
    else f15.j0' L N k0_e0 rec0 s1 s2 (wi (y10.1 - (2 : Int))) false y10.2.1 y10.2.2 s5 s6
  else k0_e0 s3 s4 s6
def f15.s0 {R : Type} (L N : Nat) (k0_e0 : LI → Int → LI → Option R) (rec0 : Int → Int → LI → Int → LLM → LI → Option R) (s1 : Int) (s2 : Int) (s3 : LI) (s4 : Int) (s5 : LLM) (s6 : LI) : Option R :=
  f15.s0' L N k0_e0 rec0 s1 s2 s3 s4 s5 s6
def f15.l0 {R : Type} (L N : Nat) (k0_e0 : LI → Int → LI → Option R) : Nat → Int → Int → LI → Int → LLM → LI → Option R
  | 0, _, _, _, _, _, _ => none
  | n + 1, s1, s2, s3, s4, s5, s6 => f15.s0 L N k0_e0 (f15.l0 L N k0_e0 n) s1 s2 s3 s4 s5 s6
def f15.T0 (s1 : Int) (s2 : Int) (s3 : LI) (s4 : Int) (s5 : LLM) (s6 : LI) : T := mkT 70 [(0, (.ptr 0 0)), (3, (.ptr 1003 0)), (5, (.row 1010)), (6, (.tv i64 s1)), (7, (.tv i64 s2))] ++ [.ptr 0 0]
def f15.H0 (s1 : Int) (s2 : Int) (s3 : LI) (s4 : Int) (s5 : LLM) (s6 : LI) : H := [(0, (.box [(.tv (.sl (.int .u8)) s3), (.tv i64 s4)])), (1003, (.box [(.tv (.sl (.sl (.st 0))) s5)])), (1010, (.row 3 i64 s6))]
def f15.T0_e0 (z7 : LI) (z8 : Int) (z9 : LI) : T := mkT 70 [(5, (.row 1010))] ++ [.ptr 0 0]
def f15.H0_e0 (z7 : LI) (z8 : Int) (z9 : LI) : H := [(0, (.box [(.tv (.sl (.int .u8)) z7), (.tv i64 z8)])), (1010, (.row 3 i64 z9))]
def f15.p0_e0' {R : Type} (L N : Nat) (k : LI → LI → Int → Option R) (z7 : LI) (z8 : Int) (z9 : LI) : Option R :=
  k z9 z7 z8
def f15.p0_e0 {R : Type} (L N : Nat) (k : LI → LI → Int → Option R) (z7 : LI) (z8 : Int) (z9 : LI) : Option R :=
  f15.p0_e0' L N k z7 z8 z9
def f15.b' {R : Type} (L N : Nat) (k : LI → LI → Int → Option R) (w0 : Int → Int → LI → Int → LLM → LI → Option R) (c0 : LI) (c1 : Int) (x0 : Graph) : Option R :=
  (f35 L N c0 c1 (6 : Int)).bind fun y0 =>
  w0 (0 : Int) y0.1 y0.2.1 y0.2.2 x0.moves ([] : LI)
def f15.b {R : Type} (L N : Nat) (k : LI → LI → Int → Option R) (c0 : LI) (c1 : Int) (x0 : Graph) : Option R :=
  f15.b' L N k (fun s1 s2 s3 s4 s5 s6 => f15.l0 L N (fun z7 z8 z9 => f15.p0_e0 L N k z7 z8 z9) L s1 s2 s3 s4 s5 s6) c0 c1 x0
def f15 (L N : Nat) (c0 : LI) (c1 : Int) (x0 : Graph) : Option (LI × LI × Int) := f15.b L N (fun a0 a1 a2 => some (a0, a1, a2)) c0 c1 x0
def f15.ent (L N : Nat) (args : List AV) (vw : View) (site : Nat) : Ans := match boxD [(.sl (.int .u8)), i64] [(.st 2)] vw args with
  | some (o, d0, d, u) => ⟨LI × LI × Int, f15 L N d0.1 d0.2.1 d.1, fun y => ((.tv (.sl i64) y.1), u ++ [(o, some (.box [(.tv (.sl (.int .u8)) y.2.1), (.tv i64 y.2.2)]))], [])⟩
  | none => Ans.no
noncomputable def E15 (L N : Nat) : Env := { P := Tryz.prog, ty := tyOf, Φ := (Φ14 L N), inl := inlT, live := lives, liveX := livesX, L := L, dp := none, prom := promT, heal := healT, ren := renT }
noncomputable def f15.c0 : Code := loopAt 0 (codeOf Tryz.f15)
theorem f15.s0_eq {R : Type} (L N : Nat) (κ : Ex → T → H → Option R) (rec : T → H → Option R) (s1 : Int) (s2 : Int) (s3 : LI) (s4 : Int) (s5 : LLM) (s6 : LI) :
    evRd (E15 L N) (evCallI (E15 L N) 0 1000) 1000 15 70 0 f15.c0 κ rec (f15.T0 s1 s2 s3 s4 s5 s6) (f15.H0 s1 s2 s3 s4 s5 s6)
    = f15.s0 L N (fun z7 z8 z9 => κ (.exit 0) (f15.T0_e0 z7 z8 z9) (f15.H0_e0 z7 z8 z9)) (fun s1 s2 s3 s4 s5 s6 => rec (f15.T0 s1 s2 s3 s4 s5 s6) (f15.H0 s1 s2 s3 s4 s5 s6)) s1 s2 s3 s4 s5 s6 := by kernel_rfl
theorem f15.l0_eq {R : Type} (L N : Nat) (κ : Ex → T → H → Option R) : ∀ (n : Nat) (s1 : Int) (s2 : Int) (s3 : LI) (s4 : Int) (s5 : LLM) (s6 : LI),
    evLp (E15 L N) (evCallI (E15 L N) 0 1000) 1000 15 70 0 f15.c0 κ n (f15.T0 s1 s2 s3 s4 s5 s6) (f15.H0 s1 s2 s3 s4 s5 s6)
    = f15.l0 L N (fun z7 z8 z9 => κ (.exit 0) (f15.T0_e0 z7 z8 z9) (f15.H0_e0 z7 z8 z9)) n s1 s2 s3 s4 s5 s6 := by
  intro n
  induction n with
  | zero => intros; rfl
  | succ n ih =>
    intro s1 s2 s3 s4 s5 s6
    rw [evLp_succ, f15.s0_eq]
    simp only [ih]
    rfl
theorem f15.p0_e0_eq {R : Type} (L N : Nat) (κ : AV → Dens [(.sl (.int .u8)), i64] → Option R) (z7 : LI) (z8 : Int) (z9 : LI) :
    (contAt (E15 L N) (evCallI (E15 L N) 0 1000) 1000 15 70 0 (codeOf Tryz.f15) (finK (E15 L N) 1000 Tryz.f15 (finM (.one (.sl i64)) [(.sl (.int .u8)), i64] κ))) (.exit 0) (f15.T0_e0 z7 z8 z9) (f15.H0_e0 z7 z8 z9)
    = f15.p0_e0 L N (fun a0 a1 a2 => κ (.tv (.sl i64) a0) (a1, a2, ())) z7 z8 z9 := by kernel_rfl
theorem f15.b_eq {R : Type} (L N : Nat) (κ : AV → Dens [(.sl (.int .u8)), i64] → Option R) (c0 : LI) (c1 : Int) (x0 : Graph) :
    evBody (E15 L N) (evCallI (E15 L N) 0 1000) 1000 15 Tryz.f15 [(.ptr 0 0), (.tv (.st 2) x0)] [.ptr 0 0] [(0, (.box [(.tv (.sl (.int .u8)) c0), (.tv i64 c1)]))] (finM (.one (.sl i64)) [(.sl (.int .u8)), i64] κ)
    = f15.b L N (fun a0 a1 a2 => κ (.tv (.sl i64) a0) (a1, a2, ())) c0 c1 x0 := by
  refine Eq.trans (b := f15.b' L N (fun a0 a1 a2 => κ (.tv (.sl i64) a0) (a1, a2, ())) (fun s1 s2 s3 s4 s5 s6 => evLp (E15 L N) (evCallI (E15 L N) 0 1000) 1000 15 70 0 f15.c0 (contAt (E15 L N) (evCallI (E15 L N) 0 1000) 1000 15 70 0 (codeOf Tryz.f15) (finK (E15 L N) 1000 Tryz.f15 (finM (.one (.sl i64)) [(.sl (.int .u8)), i64] κ))) L (f15.T0 s1 s2 s3 s4 s5 s6) (f15.H0 s1 s2 s3 s4 s5 s6)) c0 c1 x0) (by kernel_rfl) ?_
  unfold f15.b
  simp only [f15.l0_eq, f15.p0_e0_eq]
theorem f15.ok (L N : Nat) (hΦ : TellsOk Tryz.prog ((Φ14 L N))) : EntOk Tryz.prog 15 (f15.ent L N) := by
  intro args vw site h
  unfold f15.ent
  split
  · rename_i o d0 d u ha
    intro y hy hs
    obtain ⟨rest, cs, rfl, ho, hd0, hr, hu⟩ := boxD_some ha
    refine call_box (y := y) (dep := 1000) (v' := (.tv (.sl i64) y.1)) (d1 := (y.2.1, y.2.2, ())) (E := (E15 L N)) (ts := [(.sl (.int .u8)), i64]) (tr := [(.st 2)]) (rs := (.one (.sl i64))) (κ := (fun v d => (unR (.one (.sl i64)) v).bind fun x => some (x, d.1, d.2.1))) (sound_of hΦ) okP (callI_sound (sound_of hΦ) okP 0 1000) (f := Tryz.f15) rfl hs ho hd0 hr hu ?_ (fun _ _ h => by obtain ⟨x, h1, h2⟩ := unR_bind h; obtain rfl := Option.some.inj h2; exact ⟨h1, rfl⟩) site
    exact (f15.b_eq L N (fun v d => (unR (.one (.sl i64)) v).bind fun x => some (x, d.1, d.2.1)) d0.1 d0.2.1 d.1).trans (Eq.trans (b := f15.b L N (fun a0 a1 a2 => some (a0, a1, a2)) d0.1 d0.2.1 d.1) (by kernel_rfl) hy)
  · intro y hy
    cases hy
def Φ15 (L N : Nat) : Tells := (addT (Φ14 L N) 15 (f15.ent L N))
theorem Φ15_ok (L N : Nat) : TellsOk Tryz.prog (Φ15 L N) := addT_ok (Φ14_ok L N) (f15.ok L N (Φ14_ok L N))
def f5.b' {R : Type} (L N : Nat) (k : Graph → LI → Option R) (x0 : LI) : Option R :=
  (f13 L N x0).bind fun y0 =>
  (f14 L N y0.1 y0.2).bind fun y1 =>
  (f15 L N y1.2.1 y1.2.2 (Graph.mk y1.1.moves)).bind fun y2 =>
  k (Graph.mk ((Graph.mk y1.1.moves).moves)) y2.1
def f5.b {R : Type} (L N : Nat) (k : Graph → LI → Option R) (x0 : LI) : Option R :=
  f5.b' L N k x0
def f5 (L N : Nat) (x0 : LI) : Option (Graph × LI) := f5.b L N (fun a0 a1 => some (a0, a1)) x0
def f5.ent (L N : Nat) (args : List AV) (vw : View) (site : Nat) : Ans := match coeD [(.sl (.int .u8))] vw args with
  | some (d, u) => ⟨Graph × LI, f5 L N d.1, fun y => ((.tup [(.tv (.st 2) y.1), (.tv (.sl i64) y.2)]), u, [])⟩
  | none => Ans.no
noncomputable def E5 (L N : Nat) : Env := { P := Tryz.prog, ty := tyOf, Φ := (Φ15 L N), inl := inlT, live := lives, liveX := livesX, L := L, dp := none, prom := promT, heal := healT, ren := renT }
theorem f5.b_eq {R : Type} (L N : Nat) (κ : AV → Option R) (x0 : LI) :
    evBody (E5 L N) (evCallI (E5 L N) 0 1000) 1000 5 Tryz.f5 [(.tv (.sl (.int .u8)) x0)] [] [] (finC (.many [(.st 2), (.sl i64)]) κ)
    = f5.b L N (fun a0 a1 => κ (.tup [(.tv (.st 2) a0), (.tv (.sl i64) a1)])) x0 := by kernel_rfl
theorem f5.ok (L N : Nat) (hΦ : TellsOk Tryz.prog ((Φ15 L N))) : EntOk Tryz.prog 5 (f5.ent L N) := by
  intro args vw site h
  unfold f5.ent
  split
  · rename_i d u ha
    intro y hy hs
    refine call_data (dep := 1000) (E := (E5 L N)) (rs := (.many [(.st 2), (.sl i64)])) (κ := unR (.many [(.st 2), (.sl i64)])) (sound_of hΦ) okP (callI_sound (sound_of hΦ) okP 0 1000) (f := Tryz.f5) rfl hs ha ?_ (fun _ h => unR_some h) site
    exact (f5.b_eq L N (unR (.many [(.st 2), (.sl i64)])) d.1).trans (Eq.trans (b := f5.b L N (fun a0 a1 => some (a0, a1)) d.1) (by kernel_rfl) hy)
  · intro y hy
    cases hy
def Φ5 (L N : Nat) : Tells := (addT (Φ15 L N) 5 (f5.ent L N))
theorem Φ5_ok (L N : Nat) : TellsOk Tryz.prog (Φ5 L N) := addT_ok (Φ15_ok L N) (f5.ok L N (Φ15_ok L N))
def f45.b' {R : Type} (L N : Nat) (k : Bool → Option R) (x0 : Int) : Option R :=
  bif (decide (x0 ≥ (-4 : Int))) then
    k (decide (x0 ≤ (4 : Int)))
  else k false
def f45.b {R : Type} (L N : Nat) (k : Bool → Option R) (x0 : Int) : Option R :=
  f45.b' L N k x0
def f45 (L N : Nat) (x0 : Int) : Option (Bool) := f45.b L N some x0
def f45.ent (L N : Nat) (args : List AV) (vw : View) (site : Nat) : Ans := match roD [i64] vw args with
  | some d => ⟨Bool, f45 L N d.1, fun y => ((.tv .bool y), [], [])⟩
  | none => Ans.no
noncomputable def E45 (L N : Nat) : Env := { P := Tryz.prog, ty := tyOf, Φ := (Φ5 L N), inl := inlT, live := lives, liveX := livesX, L := L, dp := none, prom := promT, heal := healT, ren := renT }
theorem f45.b_eq {R : Type} (L N : Nat) (κ : AV → Option R) (x0 : Int) :
    evBody (E45 L N) (evCallI (E45 L N) 0 1000) 1000 45 Tryz.f45 [(.tv i64 x0)] [] [] (finC (.one .bool) κ)
    = f45.b L N (fun a0 => κ (.tv .bool a0)) x0 := by kernel_rfl
theorem f45.ok (L N : Nat) (hΦ : TellsOk Tryz.prog ((Φ5 L N))) : EntOk Tryz.prog 45 (f45.ent L N) := by
  intro args vw site h
  unfold f45.ent
  split
  · rename_i d ha
    intro y hy hs
    refine call_ro (dep := 1000) (E := (E45 L N)) (rs := (.one .bool)) (κ := unR (.one .bool)) (sound_of hΦ) okP (callI_sound (sound_of hΦ) okP 0 1000) (f := Tryz.f45) rfl hs ha ?_ (fun _ h => unR_some h) rfl site
    exact (f45.b_eq L N (unR (.one .bool)) d.1).trans (Eq.trans (b := f45.b L N some d.1) (by kernel_rfl) hy)
  · intro y hy
    cases hy
def Φ45 (L N : Nat) : Tells := (addT (Φ5 L N) 45 (f45.ent L N))
theorem Φ45_ok (L N : Nat) : TellsOk Tryz.prog (Φ45 L N) := addT_ok (Φ5_ok L N) (f45.ok L N (Φ5_ok L N))
def f85.b' {R : Type} (L N : Nat) (k : Bool → Option R) (x0 : Int) : Option R :=
  k (x0 != x0)
def f85.b {R : Type} (L N : Nat) (k : Bool → Option R) (x0 : Int) : Option R :=
  f85.b' L N k x0
def f85 (L N : Nat) (x0 : Int) : Option (Bool) := f85.b L N some x0
def f85.ent (L N : Nat) (args : List AV) (vw : View) (site : Nat) : Ans := match roD [i64] vw args with
  | some d => ⟨Bool, f85 L N d.1, fun y => ((.tv .bool y), [], [])⟩
  | none => Ans.no
noncomputable def E85 (L N : Nat) : Env := { P := Tryz.prog, ty := tyOf, Φ := (Φ45 L N), inl := inlT, live := lives, liveX := livesX, L := L, dp := none, prom := promT, heal := healT, ren := renT }
theorem f85.b_eq {R : Type} (L N : Nat) (κ : AV → Option R) (x0 : Int) :
    evBody (E85 L N) (evCallI (E85 L N) 0 1000) 1000 85 Tryz.f85 [(.tv i64 x0)] [] [] (finC (.one .bool) κ)
    = f85.b L N (fun a0 => κ (.tv .bool a0)) x0 := by kernel_rfl
theorem f85.ok (L N : Nat) (hΦ : TellsOk Tryz.prog ((Φ45 L N))) : EntOk Tryz.prog 85 (f85.ent L N) := by
  intro args vw site h
  unfold f85.ent
  split
  · rename_i d ha
    intro y hy hs
    refine call_ro (dep := 1000) (E := (E85 L N)) (rs := (.one .bool)) (κ := unR (.one .bool)) (sound_of hΦ) okP (callI_sound (sound_of hΦ) okP 0 1000) (f := Tryz.f85) rfl hs ha ?_ (fun _ h => unR_some h) rfl site
    exact (f85.b_eq L N (unR (.one .bool)) d.1).trans (Eq.trans (b := f85.b L N some d.1) (by kernel_rfl) hy)
  · intro y hy
    cases hy
def Φ85 (L N : Nat) : Tells := (addT (Φ45 L N) 85 (f85.ent L N))
theorem Φ85_ok (L N : Nat) : TellsOk Tryz.prog (Φ85 L N) := addT_ok (Φ45_ok L N) (f85.ok L N (Φ45_ok L N))
def f69.b' {R : Type} (L N : Nat) (k : Int → Option R) (x0 : Int) (x1 : Int) : Option R :=
  (f85 L N x0).bind fun y0 =>
  (f85 L N x1).bind fun y1 =>
  bif y0 then
    bif y1 then
      k (0 : Int)
    else k (-1 : Int)
  else bif y1 then
    k (1 : Int)
  else bif (decide (x0 < x1)) then
    k (-1 : Int)
  else bif (decide (x0 > x1)) then
    k (1 : Int)
  else k (0 : Int)
def f69.b {R : Type} (L N : Nat) (k : Int → Option R) (x0 : Int) (x1 : Int) : Option R :=
  f69.b' L N k x0 x1
def f69 (L N : Nat) (x0 : Int) (x1 : Int) : Option (Int) := f69.b L N some x0 x1
def f69.ent (L N : Nat) (args : List AV) (vw : View) (site : Nat) : Ans := match roD [i64, i64] vw args with
  | some d => ⟨Int, f69 L N d.1 d.2.1, fun y => ((.tv i64 y), [], [])⟩
  | none => Ans.no
noncomputable def E69 (L N : Nat) : Env := { P := Tryz.prog, ty := tyOf, Φ := (Φ85 L N), inl := inlT, live := lives, liveX := livesX, L := L, dp := none, prom := promT, heal := healT, ren := renT }
theorem f69.b_eq {R : Type} (L N : Nat) (κ : AV → Option R) (x0 : Int) (x1 : Int) :
    evBody (E69 L N) (evCallI (E69 L N) 0 1000) 1000 69 Tryz.f69 [(.tv i64 x0), (.tv i64 x1)] [] [] (finC (.one i64) κ)
    = f69.b L N (fun a0 => κ (.tv i64 a0)) x0 x1 := by kernel_rfl
theorem f69.ok (L N : Nat) (hΦ : TellsOk Tryz.prog ((Φ85 L N))) : EntOk Tryz.prog 69 (f69.ent L N) := by
  intro args vw site h
  unfold f69.ent
  split
  · rename_i d ha
    intro y hy hs
    refine call_ro (dep := 1000) (E := (E69 L N)) (rs := (.one i64)) (κ := unR (.one i64)) (sound_of hΦ) okP (callI_sound (sound_of hΦ) okP 0 1000) (f := Tryz.f69) rfl hs ha ?_ (fun _ h => unR_some h) rfl site
    exact (f69.b_eq L N (unR (.one i64)) d.1 d.2.1).trans (Eq.trans (b := f69.b L N some d.1 d.2.1) (by kernel_rfl) hy)
  · intro y hy
    cases hy
def Φ69 (L N : Nat) : Tells := (addT (Φ85 L N) 69 (f69.ent L N))
theorem Φ69_ok (L N : Nat) : TellsOk Tryz.prog (Φ69 L N) := addT_ok (Φ85_ok L N) (f69.ok L N (Φ85_ok L N))
def f46.b' {R : Type} (L N : Nat) (k : Int → Option R) (x0 : Move) (x1 : Move) : Option R :=
  (f69 L N x0.act x1.act).bind fun y0 =>
  bif (y0 != (0 : Int)) then
    k y0
  else (f69 L N x0.to x1.to).bind fun y1 =>
  k y1
def f46.b {R : Type} (L N : Nat) (k : Int → Option R) (x0 : Move) (x1 : Move) : Option R :=
  f46.b' L N k x0 x1
def f46 (L N : Nat) (x0 : Move) (x1 : Move) : Option (Int) := f46.b L N some x0 x1
def f46.ent (L N : Nat) (args : List AV) (vw : View) (site : Nat) : Ans := match roD [(.st 0), (.st 0)] vw args with
  | some d => ⟨Int, f46 L N d.1 d.2.1, fun y => ((.tv i64 y), [], [])⟩
  | none => Ans.no
noncomputable def E46 (L N : Nat) : Env := { P := Tryz.prog, ty := tyOf, Φ := (Φ69 L N), inl := inlT, live := lives, liveX := livesX, L := L, dp := none, prom := promT, heal := healT, ren := renT }
theorem f46.b_eq {R : Type} (L N : Nat) (κ : AV → Option R) (x0 : Move) (x1 : Move) :
    evBody (E46 L N) (evCallI (E46 L N) 0 1000) 1000 46 Tryz.f46 [(.tv (.st 0) x0), (.tv (.st 0) x1)] [] [] (finC (.one i64) κ)
    = f46.b L N (fun a0 => κ (.tv i64 a0)) x0 x1 := by kernel_rfl
theorem f46.ok (L N : Nat) (hΦ : TellsOk Tryz.prog ((Φ69 L N))) : EntOk Tryz.prog 46 (f46.ent L N) := by
  intro args vw site h
  unfold f46.ent
  split
  · rename_i d ha
    intro y hy hs
    refine call_ro (dep := 1000) (E := (E46 L N)) (rs := (.one i64)) (κ := unR (.one i64)) (sound_of hΦ) okP (callI_sound (sound_of hΦ) okP 0 1000) (f := Tryz.f46) rfl hs ha ?_ (fun _ h => unR_some h) rfl site
    exact (f46.b_eq L N (unR (.one i64)) d.1 d.2.1).trans (Eq.trans (b := f46.b L N some d.1 d.2.1) (by kernel_rfl) hy)
  · intro y hy
    cases hy
def Φ46 (L N : Nat) : Tells := (addT (Φ69 L N) 46 (f46.ent L N))
theorem Φ46_ok (L N : Nat) : TellsOk Tryz.prog (Φ46 L N) := addT_ok (Φ69_ok L N) (f46.ok L N (Φ69_ok L N))
def f21.s1' {R : Type} (L N : Nat) (k1_e2 : LLM → Int → Int → LLM → Option R) (k1_r : Bool → LLM → Int → Int → LLM → Option R) (rec1 : LM → LLM → Int → Int → LM → Int → Int → LLM → Option R) (s7 : LM) (s8 : LLM) (s9 : Int) (s10 : Int) (s11 : LM) (s12 : Int) (s13 : Int) (s14 : LLM) : Option R :=
  bif (decide (s13 < s12)) then
    bif (decide (0 ≤ s13) && decide (s13 < (s11.length : Int))) then
      (f45 L N ((listAt s11 (Ty.dflt (.st 0)) s13.toNat).act)).bind fun y19 =>
      bif (!y19) then
        k1_r false s8 s9 s10 s14
      else bif (decide ((listAt s11 (Ty.dflt (.st 0)) s13.toNat).to < (0 : Int))) then
        k1_r false s8 s9 s10 s14
      else bif (decide ((listAt s11 (Ty.dflt (.st 0)) s13.toNat).to ≥ (s14.length : Int))) then
        k1_r false s8 s9 s10 s14
      else bif (decide (s13 > (0 : Int))) then
        bif (decide (0 ≤ (wi (s13 - (1 : Int)))) && decide ((wi (s13 - (1 : Int))) < (s7.length : Int))) then
          (f46 L N (listAt s7 (Ty.dflt (.st 0)) (wi (s13 - (1 : Int))).toNat) (Move.mk ((listAt s11 (Ty.dflt (.st 0)) s13.toNat).act) ((listAt s11 (Ty.dflt (.st 0)) s13.toNat).to))).bind fun y20 =>
          bif (decide (y20 ≥ (0 : Int))) then
            k1_r false s8 s9 s10 s14
          else rec1 s7 s8 s9 s10 s11 s12 (wi (s13 + (1 : Int))) s14
        else none
      else rec1 s7 s8 s9 s10 s11 s12 (wi (s13 + (1 : Int))) s14
    else none
  else k1_e2 s8 s9 s10 s14
def f21.s1 {R : Type} (L N : Nat) (k1_e2 : LLM → Int → Int → LLM → Option R) (k1_r : Bool → LLM → Int → Int → LLM → Option R) (rec1 : LM → LLM → Int → Int → LM → Int → Int → LLM → Option R) (s7 : LM) (s8 : LLM) (s9 : Int) (s10 : Int) (s11 : LM) (s12 : Int) (s13 : Int) (s14 : LLM) : Option R :=
  f21.s1' L N k1_e2 k1_r rec1 s7 s8 s9 s10 s11 s12 s13 s14
def f21.l1 {R : Type} (L N : Nat) (k1_e2 : LLM → Int → Int → LLM → Option R) (k1_r : Bool → LLM → Int → Int → LLM → Option R) : Nat → LM → LLM → Int → Int → LM → Int → Int → LLM → Option R
  | 0, _, _, _, _, _, _, _, _ => none
  | n + 1, s7, s8, s9, s10, s11, s12, s13, s14 => f21.s1 L N k1_e2 k1_r (f21.l1 L N k1_e2 k1_r n) s7 s8 s9 s10 s11 s12 s13 s14
def f21.T1 (s7 : LM) (s8 : LLM) (s9 : Int) (s10 : Int) (s11 : LM) (s12 : Int) (s13 : Int) (s14 : LLM) : T := mkT 64 [(1, (.ptr 1001 0)), (4, (.tv (.sl (.st 0)) s7)), (18, (.tv (.sl (.sl (.st 0))) s8)), (19, (.tv i64 s9)), (20, (.tv i64 s10)), (24, (.tv (.sl (.st 0)) s11)), (25, (.tv i64 s12)), (26, (.tv i64 s13))]
def f21.H1 (s7 : LM) (s8 : LLM) (s9 : Int) (s10 : Int) (s11 : LM) (s12 : Int) (s13 : Int) (s14 : LLM) : H := [(1001, (.box [(.tv (.sl (.sl (.st 0))) s14)]))]
def f21.T1_e2 (z15 : LLM) (z16 : Int) (z17 : Int) (z18 : LLM) : T := mkT 64 [(1, (.ptr 1001 0)), (18, (.tv (.sl (.sl (.st 0))) z15)), (19, (.tv i64 z16)), (20, (.tv i64 z17))]
def f21.H1_e2 (z15 : LLM) (z16 : Int) (z17 : Int) (z18 : LLM) : H := [(1001, (.box [(.tv (.sl (.sl (.st 0))) z18)]))]
def f21.T1_r (z30 : Bool) (z31 : LLM) (z32 : Int) (z33 : Int) (z34 : LLM) : T := mkT 64 [(1, (.ptr 1001 0)), (2, (.tv .bool z30)), (18, (.tv (.sl (.sl (.st 0))) z31)), (19, (.tv i64 z32)), (20, (.tv i64 z33))]
def f21.H1_r (z30 : Bool) (z31 : LLM) (z32 : Int) (z33 : Int) (z34 : LLM) : H := [(1001, (.box [(.tv (.sl (.sl (.st 0))) z34)]))]
def f21.p1_e2' {R : Type} (L N : Nat) (k0_e0 : Option R) (k0_r : Bool → Option R) (rec0 : LLM → Int → Int → LLM → Option R) (z15 : LLM) (z16 : Int) (z17 : Int) (z18 : LLM) : Option R :=
  rec0 z15 z16 (wi (z17 + (1 : Int))) z18
def f21.p1_e2 {R : Type} (L N : Nat) (k0_e0 : Option R) (k0_r : Bool → Option R) (rec0 : LLM → Int → Int → LLM → Option R) (z15 : LLM) (z16 : Int) (z17 : Int) (z18 : LLM) : Option R :=
  f21.p1_e2' L N k0_e0 k0_r rec0 z15 z16 z17 z18
def f21.p1_r' {R : Type} (L N : Nat) (k0_e0 : Option R) (k0_r : Bool → Option R) (rec0 : LLM → Int → Int → LLM → Option R) (z30 : Bool) (z31 : LLM) (z32 : Int) (z33 : Int) (z34 : LLM) : Option R :=
  k0_r z30
def f21.p1_r {R : Type} (L N : Nat) (k0_e0 : Option R) (k0_r : Bool → Option R) (rec0 : LLM → Int → Int → LLM → Option R) (z30 : Bool) (z31 : LLM) (z32 : Int) (z33 : Int) (z34 : LLM) : Option R :=
  f21.p1_r' L N k0_e0 k0_r rec0 z30 z31 z32 z33 z34
def f21.s0' {R : Type} (L N : Nat) (k0_e0 : Option R) (k0_r : Bool → Option R) (rec0 : LLM → Int → Int → LLM → Option R) (w1 : LM → LLM → Int → Int → LM → Int → Int → LLM → Option R) (s3 : LLM) (s4 : Int) (s5 : Int) (s6 : LLM) : Option R :=
  bif (decide (s5 < s4)) then
    bif (decide (0 ≤ s5) && decide (s5 < (s3.length : Int))) then
      w1 (listAt s3 [] s5.toNat) s3 s4 s5 (listAt s3 [] s5.toNat) ((listAt s3 [] s5.toNat).length : Int) (0 : Int) s6
    else none
  else k0_e0
def f21.s0 {R : Type} (L N : Nat) (k0_e0 : Option R) (k0_r : Bool → Option R) (rec0 : LLM → Int → Int → LLM → Option R) (s3 : LLM) (s4 : Int) (s5 : Int) (s6 : LLM) : Option R :=
  f21.s0' L N k0_e0 k0_r rec0 (fun s7 s8 s9 s10 s11 s12 s13 s14 => f21.l1 L N (fun z15 z16 z17 z18 => f21.p1_e2 L N k0_e0 k0_r rec0 z15 z16 z17 z18) (fun z30 z31 z32 z33 z34 => f21.p1_r L N k0_e0 k0_r rec0 z30 z31 z32 z33 z34) L s7 s8 s9 s10 s11 s12 s13 s14) s3 s4 s5 s6
def f21.l0 {R : Type} (L N : Nat) (k0_e0 : Option R) (k0_r : Bool → Option R) : Nat → LLM → Int → Int → LLM → Option R
  | 0, _, _, _, _ => none
  | n + 1, s3, s4, s5, s6 => f21.s0 L N k0_e0 k0_r (f21.l0 L N k0_e0 k0_r n) s3 s4 s5 s6
def f21.T0 (s3 : LLM) (s4 : Int) (s5 : Int) (s6 : LLM) : T := mkT 64 [(1, (.ptr 1001 0)), (18, (.tv (.sl (.sl (.st 0))) s3)), (19, (.tv i64 s4)), (20, (.tv i64 s5))]
def f21.H0 (s3 : LLM) (s4 : Int) (s5 : Int) (s6 : LLM) : H := [(1001, (.box [(.tv (.sl (.sl (.st 0))) s6)]))]
def f21.T0_e0 : T := mkT 64 []
def f21.H0_e0 : H := []
def f21.T0_r (z43 : Bool) : T := mkT 64 [(2, (.tv .bool z43))]
def f21.H0_r (z43 : Bool) : H := []
def f21.p0_e0' {R : Type} (L N : Nat) (k : Bool → Option R) : Option R :=
  k true
def f21.p0_e0 {R : Type} (L N : Nat) (k : Bool → Option R) : Option R :=
  f21.p0_e0' L N k
def f21.p0_r' {R : Type} (L N : Nat) (k : Bool → Option R) (z43 : Bool) : Option R :=
  k z43
def f21.p0_r {R : Type} (L N : Nat) (k : Bool → Option R) (z43 : Bool) : Option R :=
  f21.p0_r' L N k z43
def f21.j0' {R : Type} (L N : Nat) (k : Bool → Option R) (w0 : LLM → Int → Int → LLM → Option R) (v2 : LLM) : Option R :=
  w0 v2 (v2.length : Int) (0 : Int) v2
def f21.b' {R : Type} (L N : Nat) (k : Bool → Option R) (w0 : LLM → Int → Int → LLM → Option R) (x0 : Graph) : Option R :=
  bif (decide ((x0.moves.length : Int) < (1 : Int))) then
    k false
  else bif (decide ((x0.moves.length : Int) > (60 : Int))) then
    k false
  else f21.j0' L N k w0 x0.moves
def f21.b {R : Type} (L N : Nat) (k : Bool → Option R) (x0 : Graph) : Option R :=
  f21.b' L N k (fun s3 s4 s5 s6 => f21.l0 L N (f21.p0_e0 L N k) (fun z43 => f21.p0_r L N k z43) L s3 s4 s5 s6) x0
def f21 (L N : Nat) (x0 : Graph) : Option (Bool) := f21.b L N some x0
def f21.ent (L N : Nat) (args : List AV) (vw : View) (site : Nat) : Ans := match roD [(.st 2)] vw args with
  | some d => ⟨Bool, f21 L N d.1, fun y => ((.tv .bool y), [], [])⟩
  | none => Ans.no
noncomputable def E21 (L N : Nat) : Env := { P := Tryz.prog, ty := tyOf, Φ := (Φ46 L N), inl := inlT, live := lives, liveX := livesX, L := L, dp := none, prom := promT, heal := healT, ren := renT }
noncomputable def f21.c0 : Code := loopAt 0 (codeOf Tryz.f21)
noncomputable def f21.c1 : Code := loopAt 2 f21.c0
theorem f21.s1_eq {R : Type} (L N : Nat) (κ : Ex → T → H → Option R) (rec : T → H → Option R) (s7 : LM) (s8 : LLM) (s9 : Int) (s10 : Int) (s11 : LM) (s12 : Int) (s13 : Int) (s14 : LLM) :
    evRd (E21 L N) (evCallI (E21 L N) 0 1000) 1000 21 64 2 f21.c1 κ rec (f21.T1 s7 s8 s9 s10 s11 s12 s13 s14) (f21.H1 s7 s8 s9 s10 s11 s12 s13 s14)
    = f21.s1 L N (fun z15 z16 z17 z18 => κ (.exit 2) (f21.T1_e2 z15 z16 z17 z18) (f21.H1_e2 z15 z16 z17 z18)) (fun z30 z31 z32 z33 z34 => κ .ret (f21.T1_r z30 z31 z32 z33 z34) (f21.H1_r z30 z31 z32 z33 z34)) (fun s7 s8 s9 s10 s11 s12 s13 s14 => rec (f21.T1 s7 s8 s9 s10 s11 s12 s13 s14) (f21.H1 s7 s8 s9 s10 s11 s12 s13 s14)) s7 s8 s9 s10 s11 s12 s13 s14 := by kernel_rfl
theorem f21.l1_eq {R : Type} (L N : Nat) (κ : Ex → T → H → Option R) : ∀ (n : Nat) (s7 : LM) (s8 : LLM) (s9 : Int) (s10 : Int) (s11 : LM) (s12 : Int) (s13 : Int) (s14 : LLM),
    evLp (E21 L N) (evCallI (E21 L N) 0 1000) 1000 21 64 2 f21.c1 κ n (f21.T1 s7 s8 s9 s10 s11 s12 s13 s14) (f21.H1 s7 s8 s9 s10 s11 s12 s13 s14)
    = f21.l1 L N (fun z15 z16 z17 z18 => κ (.exit 2) (f21.T1_e2 z15 z16 z17 z18) (f21.H1_e2 z15 z16 z17 z18)) (fun z30 z31 z32 z33 z34 => κ .ret (f21.T1_r z30 z31 z32 z33 z34) (f21.H1_r z30 z31 z32 z33 z34)) n s7 s8 s9 s10 s11 s12 s13 s14 := by
  intro n
  induction n with
  | zero => intros; rfl
  | succ n ih =>
    intro s7 s8 s9 s10 s11 s12 s13 s14
    rw [evLp_succ, f21.s1_eq]
    simp only [ih]
    rfl
theorem f21.p1_e2_eq {R : Type} (L N : Nat) (κ : Ex → T → H → Option R) (rec : T → H → Option R) (z15 : LLM) (z16 : Int) (z17 : Int) (z18 : LLM) :
    (contAt (E21 L N) (evCallI (E21 L N) 0 1000) 1000 21 64 2 f21.c0 (rdK (E21 L N) 1000 21 64 0 κ rec)) (.exit 2) (f21.T1_e2 z15 z16 z17 z18) (f21.H1_e2 z15 z16 z17 z18)
    = f21.p1_e2 L N (κ (.exit 0) f21.T0_e0 f21.H0_e0) (fun z43 => κ .ret (f21.T0_r z43) (f21.H0_r z43)) (fun s3 s4 s5 s6 => rec (f21.T0 s3 s4 s5 s6) (f21.H0 s3 s4 s5 s6)) z15 z16 z17 z18 := by kernel_rfl
theorem f21.p1_r_eq {R : Type} (L N : Nat) (κ : Ex → T → H → Option R) (rec : T → H → Option R) (z30 : Bool) (z31 : LLM) (z32 : Int) (z33 : Int) (z34 : LLM) :
    (contAt (E21 L N) (evCallI (E21 L N) 0 1000) 1000 21 64 2 f21.c0 (rdK (E21 L N) 1000 21 64 0 κ rec)) .ret (f21.T1_r z30 z31 z32 z33 z34) (f21.H1_r z30 z31 z32 z33 z34)
    = f21.p1_r L N (κ (.exit 0) f21.T0_e0 f21.H0_e0) (fun z43 => κ .ret (f21.T0_r z43) (f21.H0_r z43)) (fun s3 s4 s5 s6 => rec (f21.T0 s3 s4 s5 s6) (f21.H0 s3 s4 s5 s6)) z30 z31 z32 z33 z34 := by kernel_rfl
theorem f21.s0_eq {R : Type} (L N : Nat) (κ : Ex → T → H → Option R) (rec : T → H → Option R) (s3 : LLM) (s4 : Int) (s5 : Int) (s6 : LLM) :
    evRd (E21 L N) (evCallI (E21 L N) 0 1000) 1000 21 64 0 f21.c0 κ rec (f21.T0 s3 s4 s5 s6) (f21.H0 s3 s4 s5 s6)
    = f21.s0 L N (κ (.exit 0) f21.T0_e0 f21.H0_e0) (fun z43 => κ .ret (f21.T0_r z43) (f21.H0_r z43)) (fun s3 s4 s5 s6 => rec (f21.T0 s3 s4 s5 s6) (f21.H0 s3 s4 s5 s6)) s3 s4 s5 s6 := by
  refine Eq.trans (b := f21.s0' L N (κ (.exit 0) f21.T0_e0 f21.H0_e0) (fun z43 => κ .ret (f21.T0_r z43) (f21.H0_r z43)) (fun s3 s4 s5 s6 => rec (f21.T0 s3 s4 s5 s6) (f21.H0 s3 s4 s5 s6)) (fun s7 s8 s9 s10 s11 s12 s13 s14 => evLp (E21 L N) (evCallI (E21 L N) 0 1000) 1000 21 64 2 f21.c1 (contAt (E21 L N) (evCallI (E21 L N) 0 1000) 1000 21 64 2 f21.c0 (rdK (E21 L N) 1000 21 64 0 κ rec)) L (f21.T1 s7 s8 s9 s10 s11 s12 s13 s14) (f21.H1 s7 s8 s9 s10 s11 s12 s13 s14)) s3 s4 s5 s6) (by kernel_rfl) ?_
  unfold f21.s0
  simp only [f21.l1_eq, f21.p1_e2_eq, f21.p1_r_eq]
theorem f21.l0_eq {R : Type} (L N : Nat) (κ : Ex → T → H → Option R) : ∀ (n : Nat) (s3 : LLM) (s4 : Int) (s5 : Int) (s6 : LLM),
    evLp (E21 L N) (evCallI (E21 L N) 0 1000) 1000 21 64 0 f21.c0 κ n (f21.T0 s3 s4 s5 s6) (f21.H0 s3 s4 s5 s6)
    = f21.l0 L N (κ (.exit 0) f21.T0_e0 f21.H0_e0) (fun z43 => κ .ret (f21.T0_r z43) (f21.H0_r z43)) n s3 s4 s5 s6 := by
  intro n
  induction n with
  | zero => intros; rfl
  | succ n ih =>
    intro s3 s4 s5 s6
    rw [evLp_succ, f21.s0_eq]
    simp only [ih]
    rfl
theorem f21.p0_e0_eq {R : Type} (L N : Nat) (κ : AV → Option R) :
    (contAt (E21 L N) (evCallI (E21 L N) 0 1000) 1000 21 64 0 (codeOf Tryz.f21) (finK (E21 L N) 1000 Tryz.f21 (finC (.one .bool) κ))) (.exit 0) f21.T0_e0 f21.H0_e0
    = f21.p0_e0 L N (fun a0 => κ (.tv .bool a0)) := by kernel_rfl
theorem f21.p0_r_eq {R : Type} (L N : Nat) (κ : AV → Option R) (z43 : Bool) :
    (contAt (E21 L N) (evCallI (E21 L N) 0 1000) 1000 21 64 0 (codeOf Tryz.f21) (finK (E21 L N) 1000 Tryz.f21 (finC (.one .bool) κ))) .ret (f21.T0_r z43) (f21.H0_r z43)
    = f21.p0_r L N (fun a0 => κ (.tv .bool a0)) z43 := by kernel_rfl
theorem f21.b_eq {R : Type} (L N : Nat) (κ : AV → Option R) (x0 : Graph) :
    evBody (E21 L N) (evCallI (E21 L N) 0 1000) 1000 21 Tryz.f21 [(.tv (.st 2) x0)] [] [] (finC (.one .bool) κ)
    = f21.b L N (fun a0 => κ (.tv .bool a0)) x0 := by
  refine Eq.trans (b := f21.b' L N (fun a0 => κ (.tv .bool a0)) (fun s3 s4 s5 s6 => evLp (E21 L N) (evCallI (E21 L N) 0 1000) 1000 21 64 0 f21.c0 (contAt (E21 L N) (evCallI (E21 L N) 0 1000) 1000 21 64 0 (codeOf Tryz.f21) (finK (E21 L N) 1000 Tryz.f21 (finC (.one .bool) κ))) L (f21.T0 s3 s4 s5 s6) (f21.H0 s3 s4 s5 s6)) x0) (by kernel_rfl) ?_
  unfold f21.b
  simp only [f21.l0_eq, f21.p0_e0_eq, f21.p0_r_eq]
theorem f21.ok (L N : Nat) (hΦ : TellsOk Tryz.prog ((Φ46 L N))) : EntOk Tryz.prog 21 (f21.ent L N) := by
  intro args vw site h
  unfold f21.ent
  split
  · rename_i d ha
    intro y hy hs
    refine call_ro (dep := 1000) (E := (E21 L N)) (rs := (.one .bool)) (κ := unR (.one .bool)) (sound_of hΦ) okP (callI_sound (sound_of hΦ) okP 0 1000) (f := Tryz.f21) rfl hs ha ?_ (fun _ h => unR_some h) rfl site
    exact (f21.b_eq L N (unR (.one .bool)) d.1).trans (Eq.trans (b := f21.b L N some d.1) (by kernel_rfl) hy)
  · intro y hy
    cases hy
def Φ21 (L N : Nat) : Tells := (addT (Φ46 L N) 21 (f21.ent L N))
theorem Φ21_ok (L N : Nat) : TellsOk Tryz.prog (Φ21 L N) := addT_ok (Φ46_ok L N) (f21.ok L N (Φ46_ok L N))
def f55.s0' {R : Type} (L N : Nat) (k0_e0 : LLM → LB → LI → Option R) (rec0 : LI → Int → Int → LLM → LB → LI → Option R) (s0 : LI) (s1 : Int) (s2 : Int) (s3 : LLM) (s4 : LB) (s5 : LI) : Option R :=
  bif (decide (s2 < s1)) then
    bif (decide (0 ≤ s2) && decide (s2 < (s0.length : Int))) then
      bif (decide (0 ≤ (listAt s0 (0 : Int) s2.toNat)) && decide ((listAt s0 (0 : Int) s2.toNat) < (s4.length : Int))) then
        bif (!(listAt s4 false (listAt s0 (0 : Int) s2.toNat).toNat)) then
          bif (decide (0 ≤ (listAt s0 (0 : Int) s2.toNat)) && decide ((listAt s0 (0 : Int) s2.toNat) < (s4.length : Int))) then
            bif (decide (s5.length + ([(listAt s0 (0 : Int) s2.toNat)] : LI).length ≤ lim)) then
              rec0 s0 s1 (wi (s2 + (1 : Int))) s3 (s4.set ((listAt s0 (0 : Int) s2.toNat).toNat) true) (s5 ++ ([(listAt s0 (0 : Int) s2.toNat)] : LI))
            else none
          else none
        else rec0 s0 s1 (wi (s2 + (1 : Int))) s3 s4 s5
      else none
    else none
  else k0_e0 s3 s4 s5
def f55.s0 {R : Type} (L N : Nat) (k0_e0 : LLM → LB → LI → Option R) (rec0 : LI → Int → Int → LLM → LB → LI → Option R) (s0 : LI) (s1 : Int) (s2 : Int) (s3 : LLM) (s4 : LB) (s5 : LI) : Option R :=
  f55.s0' L N k0_e0 rec0 s0 s1 s2 s3 s4 s5
def f55.l0 {R : Type} (L N : Nat) (k0_e0 : LLM → LB → LI → Option R) : Nat → LI → Int → Int → LLM → LB → LI → Option R
  | 0, _, _, _, _, _, _ => none
  | n + 1, s0, s1, s2, s3, s4, s5 => f55.s0 L N k0_e0 (f55.l0 L N k0_e0 n) s0 s1 s2 s3 s4 s5
def f55.T0 (s0 : LI) (s1 : Int) (s2 : Int) (s3 : LLM) (s4 : LB) (s5 : LI) : T := mkT 79 [(2, (.ptr 1002 0)), (5, (.row 1015)), (6, (.row 1016)), (17, (.tv (.sl i64) s0)), (18, (.tv i64 s1)), (19, (.tv i64 s2))]
def f55.H0 (s0 : LI) (s1 : Int) (s2 : Int) (s3 : LLM) (s4 : LB) (s5 : LI) : H := [(1002, (.box [(.tv (.sl (.sl (.st 0))) s3)])), (1015, (.row 4 .bool s4)), (1016, (.row 3 i64 s5))]
def f55.T0_e0 (z6 : LLM) (z7 : LB) (z8 : LI) : T := mkT 79 [(2, (.ptr 1002 0)), (5, (.row 1015)), (6, (.row 1016))]
def f55.H0_e0 (z6 : LLM) (z7 : LB) (z8 : LI) : H := [(1002, (.box [(.tv (.sl (.sl (.st 0))) z6)])), (1015, (.row 4 .bool z7)), (1016, (.row 3 i64 z8))]
def f55.j0' {R : Type} (L N : Nat) (k2_e4 : Int → LLM → LB → LI → Option R) (rec2 : Int → LM → Int → Int → LLM → LB → LI → Option R) (v31 : Int) (v32 : LM) (v33 : Int) (v34 : Int) (v35 : Bool) (v36 : LLM) (v37 : Int) (v38 : Int) (v39 : LB) (v40 : LI) : Option R :=
  bif v35 then
    bif (decide (0 ≤ v38) && decide (v38 < (v39.length : Int))) then
      bif (decide (v40.length + ([v38] : LI).length ≤ lim)) then
        rec2 v31 v32 v33 (wi (v34 + (1 : Int))) v36 (v39.set v38.toNat true) (v40 ++ ([v38] : LI))
      else none
    else none
  else rec2 v31 v32 v33 (wi (v34 + (1 : Int))) v36 v39 v40
def f55.s2' {R : Type} (L N : Nat) (k2_e4 : Int → LLM → LB → LI → Option R) (rec2 : Int → LM → Int → Int → LLM → LB → LI → Option R) (s20 : Int) (s21 : LM) (s22 : Int) (s23 : Int) (s24 : LLM) (s25 : LB) (s26 : LI) : Option R :=
  bif (decide (s23 < s22)) then
    bif (decide (0 ≤ s23) && decide (s23 < (s21.length : Int))) then
      bif ((listAt s21 (Ty.dflt (.st 0)) s23.toNat).act == (0 : Int)) then
        bif (decide (0 ≤ (listAt s21 (Ty.dflt (.st 0)) s23.toNat).to) && decide ((listAt s21 (Ty.dflt (.st 0)) s23.toNat).to < (s25.length : Int))) then
          f55.j0' L N k2_e4 rec2 s20 s21 s22 s23 (!(listAt s25 false ((listAt s21 (Ty.dflt (.st 0)) s23.toNat).to).toNat)) s24 ((listAt s21 (Ty.dflt (.st 0)) s23.toNat).act) ((listAt s21 (Ty.dflt (.st 0)) s23.toNat).to) s25 s26
        else none
      else f55.j0' L N k2_e4 rec2 s20 s21 s22 s23 false s24 ((listAt s21 (Ty.dflt (.st 0)) s23.toNat).act) ((listAt s21 (Ty.dflt (.st 0)) s23.toNat).to) s25 s26
    else none
  else k2_e4 s20 s24 s25 s26
def f55.s2 {R : Type} (L N : Nat) (k2_e4 : Int → LLM → LB → LI → Option R) (rec2 : Int → LM → Int → Int → LLM → LB → LI → Option R) (s20 : Int) (s21 : LM) (s22 : Int) (s23 : Int) (s24 : LLM) (s25 : LB) (s26 : LI) : Option R :=
  f55.s2' L N k2_e4 rec2 s20 s21 s22 s23 s24 s25 s26
def f55.l2 {R : Type} (L N : Nat) (k2_e4 : Int → LLM → LB → LI → Option R) : Nat → Int → LM → Int → Int → LLM → LB → LI → Option R
  | 0, _, _, _, _, _, _, _ => none
  | n + 1, s20, s21, s22, s23, s24, s25, s26 => f55.s2 L N k2_e4 (f55.l2 L N k2_e4 n) s20 s21 s22 s23 s24 s25 s26
def f55.T2 (s20 : Int) (s21 : LM) (s22 : Int) (s23 : Int) (s24 : LLM) (s25 : LB) (s26 : LI) : T := mkT 79 [(2, (.ptr 1002 0)), (5, (.row 1015)), (6, (.row 1016)), (9, (.tv i64 s20)), (49, (.tv (.sl (.st 0)) s21)), (50, (.tv i64 s22)), (51, (.tv i64 s23))]
def f55.H2 (s20 : Int) (s21 : LM) (s22 : Int) (s23 : Int) (s24 : LLM) (s25 : LB) (s26 : LI) : H := [(1002, (.box [(.tv (.sl (.sl (.st 0))) s24)])), (1015, (.row 4 .bool s25)), (1016, (.row 3 i64 s26))]
def f55.T2_e4 (z27 : Int) (z28 : LLM) (z29 : LB) (z30 : LI) : T := mkT 79 [(2, (.ptr 1002 0)), (5, (.row 1015)), (6, (.row 1016)), (9, (.tv i64 z27))]
def f55.H2_e4 (z27 : Int) (z28 : LLM) (z29 : LB) (z30 : LI) : H := [(1002, (.box [(.tv (.sl (.sl (.st 0))) z28)])), (1015, (.row 4 .bool z29)), (1016, (.row 3 i64 z30))]
def f55.p2_e4' {R : Type} (L N : Nat) (k1_e2 : LI → Option R) (rec1 : Int → LLM → LB → LI → Option R) (z27 : Int) (z28 : LLM) (z29 : LB) (z30 : LI) : Option R :=
  rec1 (wi (z27 + (1 : Int))) z28 z29 z30
def f55.p2_e4 {R : Type} (L N : Nat) (k1_e2 : LI → Option R) (rec1 : Int → LLM → LB → LI → Option R) (z27 : Int) (z28 : LLM) (z29 : LB) (z30 : LI) : Option R :=
  f55.p2_e4' L N k1_e2 rec1 z27 z28 z29 z30
def f55.s1' {R : Type} (L N : Nat) (k1_e2 : LI → Option R) (rec1 : Int → LLM → LB → LI → Option R) (w2 : Int → LM → Int → Int → LLM → LB → LI → Option R) (s15 : Int) (s16 : LLM) (s17 : LB) (s18 : LI) : Option R :=
  bif (decide (s15 < (s18.length : Int))) then
    bif (decide (0 ≤ s15) && decide (s15 < (s18.length : Int))) then
      bif (decide (0 ≤ (listAt s18 (0 : Int) s15.toNat)) && decide ((listAt s18 (0 : Int) s15.toNat) < (s16.length : Int))) then
        w2 s15 (listAt s16 [] (listAt s18 (0 : Int) s15.toNat).toNat) ((listAt s16 [] (listAt s18 (0 : Int) s15.toNat).toNat).length : Int) (0 : Int) s16 s17 s18
      else none
    else none
  else k1_e2 s18
def f55.s1 {R : Type} (L N : Nat) (k1_e2 : LI → Option R) (rec1 : Int → LLM → LB → LI → Option R) (s15 : Int) (s16 : LLM) (s17 : LB) (s18 : LI) : Option R :=
  f55.s1' L N k1_e2 rec1 (fun s20 s21 s22 s23 s24 s25 s26 => f55.l2 L N (fun z27 z28 z29 z30 => f55.p2_e4 L N k1_e2 rec1 z27 z28 z29 z30) L s20 s21 s22 s23 s24 s25 s26) s15 s16 s17 s18
def f55.l1 {R : Type} (L N : Nat) (k1_e2 : LI → Option R) : Nat → Int → LLM → LB → LI → Option R
  | 0, _, _, _, _ => none
  | n + 1, s15, s16, s17, s18 => f55.s1 L N k1_e2 (f55.l1 L N k1_e2 n) s15 s16 s17 s18
def f55.T1 (s15 : Int) (s16 : LLM) (s17 : LB) (s18 : LI) : T := mkT 79 [(2, (.ptr 1002 0)), (5, (.row 1015)), (6, (.row 1016)), (9, (.tv i64 s15))]
def f55.H1 (s15 : Int) (s16 : LLM) (s17 : LB) (s18 : LI) : H := [(1002, (.box [(.tv (.sl (.sl (.st 0))) s16)])), (1015, (.row 4 .bool s17)), (1016, (.row 3 i64 s18))]
def f55.T1_e2 (z19 : LI) : T := mkT 79 [(6, (.row 1016))]
def f55.H1_e2 (z19 : LI) : H := [(1016, (.row 3 i64 z19))]
def f55.p1_e2' {R : Type} (L N : Nat) (k : LI → Option R) (z19 : LI) : Option R :=
  ((fsort z19)).bind fun y48 =>
  k (sortI z19)
def f55.p1_e2 {R : Type} (L N : Nat) (k : LI → Option R) (z19 : LI) : Option R :=
  f55.p1_e2' L N k z19
def f55.p0_e0' {R : Type} (L N : Nat) (k : LI → Option R) (w1 : Int → LLM → LB → LI → Option R) (z6 : LLM) (z7 : LB) (z8 : LI) : Option R :=
  w1 (0 : Int) z6 z7 z8
def f55.p0_e0 {R : Type} (L N : Nat) (k : LI → Option R) (z6 : LLM) (z7 : LB) (z8 : LI) : Option R :=
  f55.p0_e0' L N k (fun s15 s16 s17 s18 => f55.l1 L N (fun z19 => f55.p1_e2 L N k z19) L s15 s16 s17 s18) z6 z7 z8
def f55.b' {R : Type} (L N : Nat) (k : LI → Option R) (w0 : LI → Int → Int → LLM → LB → LI → Option R) (x0 : Graph) (x1 : LI) : Option R :=
  bif (decide (0 ≤ (x0.moves.length : Int)) && decide ((x0.moves.length : Int) ≤ (lim : Int))) then
    w0 x1 (x1.length : Int) (0 : Int) x0.moves (List.replicate (x0.moves.length : Int).toNat false) ([] : LI)
  else none
def f55.b {R : Type} (L N : Nat) (k : LI → Option R) (x0 : Graph) (x1 : LI) : Option R :=
  f55.b' L N k (fun s0 s1 s2 s3 s4 s5 => f55.l0 L N (fun z6 z7 z8 => f55.p0_e0 L N k z6 z7 z8) L s0 s1 s2 s3 s4 s5) x0 x1
def f55 (L N : Nat) (x0 : Graph) (x1 : LI) : Option (LI) := f55.b L N some x0 x1
def f55.ent (L N : Nat) (args : List AV) (vw : View) (site : Nat) : Ans := match roD [(.st 2), (.sl i64)] vw args with
  | some d => ⟨LI, f55 L N d.1 d.2.1, fun y => (RN.av site .row (), [(site, some (mkO none 3 i64 y))], [])⟩
  | none => Ans.no
noncomputable def E55 (L N : Nat) : Env := { P := Tryz.prog, ty := tyOf, Φ := (Φ21 L N), inl := inlT, live := lives, liveX := livesX, L := L, dp := none, prom := promT, heal := healT, ren := renT }
noncomputable def f55.c0 : Code := loopAt 0 (codeOf Tryz.f55)
theorem f55.s0_eq {R : Type} (L N : Nat) (κ : Ex → T → H → Option R) (rec : T → H → Option R) (s0 : LI) (s1 : Int) (s2 : Int) (s3 : LLM) (s4 : LB) (s5 : LI) :
    evRd (E55 L N) (evCallI (E55 L N) 0 1000) 1000 55 79 0 f55.c0 κ rec (f55.T0 s0 s1 s2 s3 s4 s5) (f55.H0 s0 s1 s2 s3 s4 s5)
    = f55.s0 L N (fun z6 z7 z8 => κ (.exit 0) (f55.T0_e0 z6 z7 z8) (f55.H0_e0 z6 z7 z8)) (fun s0 s1 s2 s3 s4 s5 => rec (f55.T0 s0 s1 s2 s3 s4 s5) (f55.H0 s0 s1 s2 s3 s4 s5)) s0 s1 s2 s3 s4 s5 := by kernel_rfl
theorem f55.l0_eq {R : Type} (L N : Nat) (κ : Ex → T → H → Option R) : ∀ (n : Nat) (s0 : LI) (s1 : Int) (s2 : Int) (s3 : LLM) (s4 : LB) (s5 : LI),
    evLp (E55 L N) (evCallI (E55 L N) 0 1000) 1000 55 79 0 f55.c0 κ n (f55.T0 s0 s1 s2 s3 s4 s5) (f55.H0 s0 s1 s2 s3 s4 s5)
    = f55.l0 L N (fun z6 z7 z8 => κ (.exit 0) (f55.T0_e0 z6 z7 z8) (f55.H0_e0 z6 z7 z8)) n s0 s1 s2 s3 s4 s5 := by
  intro n
  induction n with
  | zero => intros; rfl
  | succ n ih =>
    intro s0 s1 s2 s3 s4 s5
    rw [evLp_succ, f55.s0_eq]
    simp only [ih]
    rfl
noncomputable def f55.c1 : Code := loopAt 2 (codeOf Tryz.f55)
noncomputable def f55.c2 : Code := loopAt 4 f55.c1
theorem f55.s2_eq {R : Type} (L N : Nat) (κ : Ex → T → H → Option R) (rec : T → H → Option R) (s20 : Int) (s21 : LM) (s22 : Int) (s23 : Int) (s24 : LLM) (s25 : LB) (s26 : LI) :
    evRd (E55 L N) (evCallI (E55 L N) 0 1000) 1000 55 79 4 f55.c2 κ rec (f55.T2 s20 s21 s22 s23 s24 s25 s26) (f55.H2 s20 s21 s22 s23 s24 s25 s26)
    = f55.s2 L N (fun z27 z28 z29 z30 => κ (.exit 4) (f55.T2_e4 z27 z28 z29 z30) (f55.H2_e4 z27 z28 z29 z30)) (fun s20 s21 s22 s23 s24 s25 s26 => rec (f55.T2 s20 s21 s22 s23 s24 s25 s26) (f55.H2 s20 s21 s22 s23 s24 s25 s26)) s20 s21 s22 s23 s24 s25 s26 := by kernel_rfl
theorem f55.l2_eq {R : Type} (L N : Nat) (κ : Ex → T → H → Option R) : ∀ (n : Nat) (s20 : Int) (s21 : LM) (s22 : Int) (s23 : Int) (s24 : LLM) (s25 : LB) (s26 : LI),
    evLp (E55 L N) (evCallI (E55 L N) 0 1000) 1000 55 79 4 f55.c2 κ n (f55.T2 s20 s21 s22 s23 s24 s25 s26) (f55.H2 s20 s21 s22 s23 s24 s25 s26)
    = f55.l2 L N (fun z27 z28 z29 z30 => κ (.exit 4) (f55.T2_e4 z27 z28 z29 z30) (f55.H2_e4 z27 z28 z29 z30)) n s20 s21 s22 s23 s24 s25 s26 := by
  intro n
  induction n with
  | zero => intros; rfl
  | succ n ih =>
    intro s20 s21 s22 s23 s24 s25 s26
    rw [evLp_succ, f55.s2_eq]
    simp only [ih]
    rfl
theorem f55.p2_e4_eq {R : Type} (L N : Nat) (κ : Ex → T → H → Option R) (rec : T → H → Option R) (z27 : Int) (z28 : LLM) (z29 : LB) (z30 : LI) :
    (contAt (E55 L N) (evCallI (E55 L N) 0 1000) 1000 55 79 4 f55.c1 (rdK (E55 L N) 1000 55 79 2 κ rec)) (.exit 4) (f55.T2_e4 z27 z28 z29 z30) (f55.H2_e4 z27 z28 z29 z30)
    = f55.p2_e4 L N (fun z19 => κ (.exit 2) (f55.T1_e2 z19) (f55.H1_e2 z19)) (fun s15 s16 s17 s18 => rec (f55.T1 s15 s16 s17 s18) (f55.H1 s15 s16 s17 s18)) z27 z28 z29 z30 := by kernel_rfl
theorem f55.s1_eq {R : Type} (L N : Nat) (κ : Ex → T → H → Option R) (rec : T → H → Option R) (s15 : Int) (s16 : LLM) (s17 : LB) (s18 : LI) :
    evRd (E55 L N) (evCallI (E55 L N) 0 1000) 1000 55 79 2 f55.c1 κ rec (f55.T1 s15 s16 s17 s18) (f55.H1 s15 s16 s17 s18)
    = f55.s1 L N (fun z19 => κ (.exit 2) (f55.T1_e2 z19) (f55.H1_e2 z19)) (fun s15 s16 s17 s18 => rec (f55.T1 s15 s16 s17 s18) (f55.H1 s15 s16 s17 s18)) s15 s16 s17 s18 := by
  refine Eq.trans (b := f55.s1' L N (fun z19 => κ (.exit 2) (f55.T1_e2 z19) (f55.H1_e2 z19)) (fun s15 s16 s17 s18 => rec (f55.T1 s15 s16 s17 s18) (f55.H1 s15 s16 s17 s18)) (fun s20 s21 s22 s23 s24 s25 s26 => evLp (E55 L N) (evCallI (E55 L N) 0 1000) 1000 55 79 4 f55.c2 (contAt (E55 L N) (evCallI (E55 L N) 0 1000) 1000 55 79 4 f55.c1 (rdK (E55 L N) 1000 55 79 2 κ rec)) L (f55.T2 s20 s21 s22 s23 s24 s25 s26) (f55.H2 s20 s21 s22 s23 s24 s25 s26)) s15 s16 s17 s18) (by kernel_rfl) ?_
  unfold f55.s1
  simp only [f55.l2_eq, f55.p2_e4_eq]
theorem f55.l1_eq {R : Type} (L N : Nat) (κ : Ex → T → H → Option R) : ∀ (n : Nat) (s15 : Int) (s16 : LLM) (s17 : LB) (s18 : LI),
    evLp (E55 L N) (evCallI (E55 L N) 0 1000) 1000 55 79 2 f55.c1 κ n (f55.T1 s15 s16 s17 s18) (f55.H1 s15 s16 s17 s18)
    = f55.l1 L N (fun z19 => κ (.exit 2) (f55.T1_e2 z19) (f55.H1_e2 z19)) n s15 s16 s17 s18 := by
  intro n
  induction n with
  | zero => intros; rfl
  | succ n ih =>
    intro s15 s16 s17 s18
    rw [evLp_succ, f55.s1_eq]
    simp only [ih]
    rfl
theorem f55.p1_e2_eq {R : Type} (L N : Nat) (κ : RN.Den .row → List Int → Option R) (z19 : LI) :
    (contAt (E55 L N) (evCallI (E55 L N) 0 1000) 1000 55 79 2 (codeOf Tryz.f55) (finK (E55 L N) 1000 Tryz.f55 (finN .row none 3 i64 κ))) (.exit 2) (f55.T1_e2 z19) (f55.H1_e2 z19)
    = f55.p1_e2 L N (fun a0 => κ () a0) z19 := by kernel_rfl
theorem f55.p0_e0_eq {R : Type} (L N : Nat) (κ : RN.Den .row → List Int → Option R) (z6 : LLM) (z7 : LB) (z8 : LI) :
    (contAt (E55 L N) (evCallI (E55 L N) 0 1000) 1000 55 79 0 (codeOf Tryz.f55) (finK (E55 L N) 1000 Tryz.f55 (finN .row none 3 i64 κ))) (.exit 0) (f55.T0_e0 z6 z7 z8) (f55.H0_e0 z6 z7 z8)
    = f55.p0_e0 L N (fun a0 => κ () a0) z6 z7 z8 := by
  refine Eq.trans (b := f55.p0_e0' L N (fun a0 => κ () a0) (fun s15 s16 s17 s18 => evLp (E55 L N) (evCallI (E55 L N) 0 1000) 1000 55 79 2 f55.c1 (contAt (E55 L N) (evCallI (E55 L N) 0 1000) 1000 55 79 2 (codeOf Tryz.f55) (finK (E55 L N) 1000 Tryz.f55 (finN .row none 3 i64 κ))) L (f55.T1 s15 s16 s17 s18) (f55.H1 s15 s16 s17 s18)) z6 z7 z8) (by kernel_rfl) ?_
  unfold f55.p0_e0
  simp only [f55.l1_eq, f55.p1_e2_eq]
theorem f55.b_eq {R : Type} (L N : Nat) (κ : RN.Den .row → List Int → Option R) (x0 : Graph) (x1 : LI) :
    evBody (E55 L N) (evCallI (E55 L N) 0 1000) 1000 55 Tryz.f55 [(.tv (.st 2) x0), (.tv (.sl i64) x1)] [] [] (finN .row none 3 i64 κ)
    = f55.b L N (fun a0 => κ () a0) x0 x1 := by
  refine Eq.trans (b := f55.b' L N (fun a0 => κ () a0) (fun s0 s1 s2 s3 s4 s5 => evLp (E55 L N) (evCallI (E55 L N) 0 1000) 1000 55 79 0 f55.c0 (contAt (E55 L N) (evCallI (E55 L N) 0 1000) 1000 55 79 0 (codeOf Tryz.f55) (finK (E55 L N) 1000 Tryz.f55 (finN .row none 3 i64 κ))) L (f55.T0 s0 s1 s2 s3 s4 s5) (f55.H0 s0 s1 s2 s3 s4 s5)) x0 x1) (by kernel_rfl) ?_
  unfold f55.b
  simp only [f55.l0_eq, f55.p0_e0_eq]
end Go.Proofs.YtffkhhblppfbfaaGreat.Ev
