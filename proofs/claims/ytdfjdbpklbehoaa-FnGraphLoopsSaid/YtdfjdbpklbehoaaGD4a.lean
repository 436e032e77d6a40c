/- The seat's functions as plain functions: made by program (wip/gen/gen.py). -/
import Derived.Test.YtdfjdbpklbehoaaEvYa
import Derived.Test.YtdfjdbpklbehoaaShelf
namespace Go.Proofs.Ytdfjdbpklbehoaa.Ev
open Go
set_option linter.unusedVariables false
set_option maxRecDepth 20000
def tyTab : List (Nat × Ty) := [(2, i64), (3, i64), (4, .bool), (5, (.int .u8)), (6, (.int .u8)), (9, .str), (10, .str), (11, .str), (12, (.int .u64)), (21, (.int .i32)), (22, (.sl (.sl (.st 0)))), (23, (.st 2)), (24, (.st 2)), (25, (.sl (.st 1))), (26, (.st 1)), (27, (.st 1)), (30, (.sl i64)), (32, (.sl (.sl (.st 0)))), (33, (.st 2)), (34, (.st 2)), (36, (.sl (.st 1))), (37, (.st 1)), (38, (.st 1)), (47, (.sl (.int .u8))), (51, (.sl (.st 0))), (52, (.st 0)), (53, (.st 0)), (71, (.sl .bool)), (88, (.sl (.sl i64))), (98, (.sl (.st 0))), (103, (.sl (.sl .bool))), (108, (.sl (.st 1))), (109, (.st 1)), (110, (.st 1)), (129, (.st 0)), (142, (.sl .str)), (143, (.sl (.st 3))), (146, (.st 3)), (151, (.int .u64)), (159, i64), (168, (.int .u32)), (170, (.int .u64)), (177, (.int .u64)), (196, (.int .u8)), (197, (.int .u8)), (200, (.int .i32)), (201, (.int .i32))]
def tyOf (t : Nat) : Option Ty := tyFind t tyTab
def lives (f i : Nat) : List Nat × List Nat :=
  bif Nat.beq f 4 && Nat.beq i 0 then ([3, 4, 6], [3]) else
  bif Nat.beq f 4 && Nat.beq i 2 then ([3, 4, 6, 7, 8], [3]) else
  bif Nat.beq f 29 && Nat.beq i 0 then ([3, 12, 13, 14], [6]) else
  bif Nat.beq f 30 && Nat.beq i 0 then ([3, 4, 5], [6]) else
  bif Nat.beq f 31 && Nat.beq i 0 then ([0, 1, 5], []) else
  bif Nat.beq f 32 && Nat.beq i 0 then ([1, 18, 19, 20], [1]) else
  bif Nat.beq f 32 && Nat.beq i 2 then ([1, 4, 18, 19, 20, 24, 25, 26], [1]) else
  bif Nat.beq f 33 && Nat.beq i 0 then ([0, 1, 5], []) else
  bif Nat.beq f 34 && Nat.beq i 0 then ([0, 3], []) else
  bif Nat.beq f 58 && Nat.beq i 0 then ([1, 3], [1]) else
  bif Nat.beq f 58 && Nat.beq i 2 then ([1, 3, 4], [1]) else
  bif Nat.beq f 70 && Nat.beq i 0 then ([1, 3, 12, 13], [1, 3, 10]) else
  bif Nat.beq f 70 && Nat.beq i 2 then ([1, 3, 5], [1, 3, 10]) else
  bif Nat.beq f 70 && Nat.beq i 4 then ([1, 3, 5, 22, 23], [1, 3, 10]) else
  bif Nat.beq f 71 && Nat.beq i 0 then ([1, 3, 4], [1, 12]) else
  bif Nat.beq f 71 && Nat.beq i 2 then ([1, 3, 5], [1, 12]) else
  bif Nat.beq f 71 && Nat.beq i 4 then ([1, 3, 5, 6], [1, 12]) else
  bif Nat.beq f 71 && Nat.beq i 6 then ([1, 3, 5, 6, 7, 8], [1, 12]) else
  bif Nat.beq f 105 && Nat.beq i 0 then ([0, 4, 5, 6, 7, 8], [4, 5, 900, 901]) else
  bif Nat.beq f 105 && Nat.beq i 2 then ([0, 4, 5, 6, 7, 8, 9, 10], [4, 5, 25, 900, 901]) else
  bif Nat.beq f 123 && Nat.beq i 0 then ([0, 3, 4], [7]) else
  bif Nat.beq f 123 && Nat.beq i 2 then ([0, 3, 4, 5], [7]) else
  bif Nat.beq f 123 && Nat.beq i 4 then ([0, 3, 4, 5, 6], [7]) else
  bif Nat.beq f 130 && Nat.beq i 0 then ([0, 3, 4, 5], [8]) else
  bif Nat.beq f 133 && Nat.beq i 0 then ([1, 4, 6, 7, 8, 9], [4, 8, 16, 19, 900]) else
  bif Nat.beq f 133 && Nat.beq i 2 then ([1, 4, 6, 7, 8, 9, 10, 11, 12], [4, 8, 16, 19, 32, 33, 900]) else
  bif Nat.beq f 133 && Nat.beq i 4 then ([1, 4, 6, 7, 8, 9, 10, 11, 12, 13, 14], [4, 8, 16, 19, 32, 33, 900]) else
  bif Nat.beq f 135 && Nat.beq i 0 then ([0, 1, 7, 8], []) else
  bif Nat.beq f 148 && Nat.beq i 0 then ([0, 3], []) else
  bif Nat.beq f 150 && Nat.beq i 1 then ([1, 3, 4], [1]) else
  bif Nat.beq f 151 && Nat.beq i 1 then ([2, 5, 6, 7, 8], [2, 14, 51, 57]) else
  bif Nat.beq f 151 && Nat.beq i 3 then ([2, 5, 6, 7, 9], [2, 14, 51, 57]) else
  bif Nat.beq f 151 && Nat.beq i 5 then ([5, 6, 7, 10], [14, 51, 57]) else
  bif Nat.beq f 151 && Nat.beq i 7 then ([5, 6, 7, 10, 11], [14, 51, 57]) else
  bif Nat.beq f 151 && Nat.beq i 9 then ([2, 5, 12, 13], [2, 14, 165]) else
  bif Nat.beq f 152 && Nat.beq i 1 then ([1, 3, 5, 6], [1]) else
  bif Nat.beq f 158 && Nat.beq i 0 then ([1, 2, 5, 6], [2]) else
  ([], [])
def livesX (f i : Nat) : List Nat × List Nat :=
  bif Nat.beq f 4 && Nat.beq i 0 then ([2, 4], []) else
  bif Nat.beq f 4 && Nat.beq i 2 then ([3, 4, 6, 7], [3]) else
  bif Nat.beq f 29 && Nat.beq i 0 then ([3], [6]) else
  bif Nat.beq f 30 && Nat.beq i 0 then ([3], [6]) else
  bif Nat.beq f 31 && Nat.beq i 0 then ([4], []) else
  bif Nat.beq f 32 && Nat.beq i 0 then ([2], []) else
  bif Nat.beq f 32 && Nat.beq i 2 then ([1, 2, 18, 19, 20], [1]) else
  bif Nat.beq f 33 && Nat.beq i 0 then ([4], []) else
  bif Nat.beq f 34 && Nat.beq i 0 then ([2], []) else
  bif Nat.beq f 58 && Nat.beq i 0 then ([2], []) else
  bif Nat.beq f 58 && Nat.beq i 2 then ([1, 2, 3], [1]) else
  bif Nat.beq f 70 && Nat.beq i 0 then ([1, 3], [1, 3, 10]) else
  bif Nat.beq f 70 && Nat.beq i 2 then ([3], [3, 10]) else
  bif Nat.beq f 70 && Nat.beq i 4 then ([1, 3, 5], [1, 3, 10]) else
  bif Nat.beq f 71 && Nat.beq i 0 then ([1, 3], [1, 12]) else
  bif Nat.beq f 71 && Nat.beq i 2 then ([3], [12]) else
  bif Nat.beq f 71 && Nat.beq i 4 then ([1, 3, 5], [1, 12]) else
  bif Nat.beq f 71 && Nat.beq i 6 then ([1, 3, 5, 6, 7], [1, 12]) else
  bif Nat.beq f 105 && Nat.beq i 0 then ([0, 4, 5, 6], [4, 5, 900, 901]) else
  bif Nat.beq f 105 && Nat.beq i 2 then ([0, 4, 5, 6, 7, 8, 9], [4, 5, 25, 900, 901]) else
  bif Nat.beq f 123 && Nat.beq i 0 then ([3], [7]) else
  bif Nat.beq f 123 && Nat.beq i 2 then ([0, 3, 4, 5], [7]) else
  bif Nat.beq f 123 && Nat.beq i 4 then ([0, 3, 4, 5], [7]) else
  bif Nat.beq f 130 && Nat.beq i 0 then ([0, 3, 4], [8]) else
  bif Nat.beq f 133 && Nat.beq i 0 then ([4, 5, 8], [4, 8, 900]) else
  bif Nat.beq f 133 && Nat.beq i 2 then ([1, 4, 5, 6, 7, 8, 9, 11], [4, 8, 16, 19, 33, 900]) else
  bif Nat.beq f 133 && Nat.beq i 4 then ([1, 4, 6, 7, 8, 9, 10, 11, 12, 13, 14], [4, 8, 16, 19, 32, 33, 900]) else
  bif Nat.beq f 135 && Nat.beq i 0 then ([4], []) else
  bif Nat.beq f 148 && Nat.beq i 0 then ([0, 2], []) else
  bif Nat.beq f 150 && Nat.beq i 1 then ([3], []) else
  bif Nat.beq f 151 && Nat.beq i 1 then ([2, 5, 6, 7], [2, 14, 51, 57]) else
  bif Nat.beq f 151 && Nat.beq i 3 then ([5, 6, 7], [14, 51, 57]) else
  bif Nat.beq f 151 && Nat.beq i 5 then ([5], [14]) else
  bif Nat.beq f 151 && Nat.beq i 7 then ([5, 6, 7, 10], [14, 51, 57]) else
  bif Nat.beq f 151 && Nat.beq i 9 then ([5], [14]) else
  bif Nat.beq f 152 && Nat.beq i 1 then ([2, 5], []) else
  bif Nat.beq f 158 && Nat.beq i 0 then ([5], []) else
  ([], [])
def promT (f i : Nat) : List (Nat × Nat × Nat × Option Nat × Nat × Ty) :=
  bif Nat.beq f 105 && Nat.beq i 0 then [(4, 0, 900, (some 0), 0, (.sl (.st 0))), (5, 0, 901, (some 0), 0, (.sl (.st 0)))] else
  bif Nat.beq f 133 && Nat.beq i 0 then [(8, 0, 900, none, 51, (.sl (.st 0)))] else
  []
def healT (f i : Nat) : List Nat :=
  []
def renT (f i : Nat) : List (Nat × Nat) :=
  []
def inlT (f : Nat) : Bool := memN f [24, 25]
theorem okP : OkP Try.prog := OkP.mk' (by kernel_rfl) (by kernel_rfl)
def Φx (L N : Nat) : Tells := addT (addT (addT noTells 141 sortEnt) 120 tidyEnt) 84 (cloneEnt 3)
theorem Φx_ok (L N : Nat) : TellsOk Try.prog (Φx L N) := addT_ok (addT_ok (addT_ok (no_ok _) (sort_ok ⟨Try.f141, rfl, by kernel_rfl, by kernel_rfl⟩ sortC sortNone)) (tidy_ok ⟨Try.f120, rfl, by kernel_rfl, by kernel_rfl⟩ tidyC tidyNone)) (clone_ok ⟨Try.f84, rfl, by kernel_rfl, by kernel_rfl⟩ cloneC cloneZero cloneNil)
def f68.b' {R : Type} (L N : Nat) (k : LI → Int → Option R) (x0 : LI) : Option R :=
  bif (decide ((x0.length : Int) > (2000 : Int))) then
    bif (slB (0 : Int) (2000 : Int) x0.length) then
      k (slX x0 (0 : Int) (2000 : Int)) (0 : Int)
    else none
  else k x0 (0 : Int)
def f68.b {R : Type} (L N : Nat) (k : LI → Int → Option R) (x0 : LI) : Option R :=
  f68.b' L N k x0
def f68 (L N : Nat) (x0 : LI) : Option (LI × Int) := f68.b L N (fun a0 a1 => some (a0, a1)) x0
def f68.ent (L N : Nat) (args : List AV) (vw : View) (site : Nat) : Ans := match coeD [(.sl (.int .u8))] vw args with
  | some (d, u) => ⟨LI × Int, f68 L N d.1, fun y => (.ptr site 0, u ++ [(site, some (.box [(.tv (.sl (.int .u8)) y.1), (.tv i64 y.2)]))], [])⟩
  | none => Ans.no
noncomputable def E68 (L N : Nat) : Env := { P := Try.prog, ty := tyOf, Φ := (Φx L N), inl := inlT, live := lives, liveX := livesX, L := L, dp := none, prom := promT, heal := healT, ren := renT }
theorem f68.b_pre {R : Type} (L N : Nat) (κ : Dens [(.sl (.int .u8)), i64] → Option R) (x0 : LI) :
    evBody (E68 L N) (evCallI (E68 L N) 1 2000) 1000 68 Try.f68 [(.tv (.sl (.int .u8)) x0)] [] [] (finB [(.sl (.int .u8)), i64] κ)
    = f68.b' L N (fun a0 a1 => κ (a0, a1, ())) x0 := by kernel_rfl
theorem f68.b_eq {R : Type} (L N : Nat) (κ : Dens [(.sl (.int .u8)), i64] → Option R) (x0 : LI) :
    evBody (E68 L N) (evCallI (E68 L N) 1 2000) 1000 68 Try.f68 [(.tv (.sl (.int .u8)) x0)] [] [] (finB [(.sl (.int .u8)), i64] κ)
    = f68.b L N (fun a0 a1 => κ (a0, a1, ())) x0 := by
  rw [f68.b_pre]
  unfold f68.b
  rfl
theorem f68.b'_nat {R R' : Type} (j : R → Option R') (L N : Nat) (k : LI → Int → Option R) (x0 : LI) :
    f68.b' L N (fun a0 a1 => (k a0 a1).bind j) x0 = (f68.b' L N k x0).bind j := by
  unfold f68.b'
  repeat' (first | (with_reducible refine cond_nat ?_ ?_) | (with_reducible refine bind_nat fun _ => ?_) | rfl)
theorem f68.b_nat {R R' : Type} (j : R → Option R') (L N : Nat) (k : LI → Int → Option R) (x0 : LI) :
    f68.b L N (fun a0 a1 => (k a0 a1).bind j) x0 = (f68.b L N k x0).bind j := by
  unfold f68.b
  exact f68.b'_nat ..
theorem f68.ok (L N : Nat) (hΦ : TellsOk Try.prog ((Φx L N))) : EntOk Try.prog 68 (f68.ent L N) := by
  intro args vw site h
  unfold f68.ent
  split
  · rename_i d u ha
    intro y hy hs
    refine call_newbox (dep := 1000) (E := (E68 L N)) (ts := [(.sl (.int .u8))]) (tb := [(.sl (.int .u8)), i64]) (d1 := (y.1, y.2, ())) (sound_of hΦ) okP (callI_sound (sound_of hΦ) okP 1 2000) (f := Try.f68) rfl hs ha ?_ site
    refine (f68.b_eq L N some d.1).trans ?_
    refine ((f68.b_nat (fun y => (some (y.1, y.2, ()) : Option (Dens [(.sl (.int .u8)), i64]))) L N (fun a0 a1 => some (a0, a1)) d.1)).trans ?_
    rw [show f68.b L N (fun a0 a1 => some (a0, a1)) d.1 = some y from hy]
    rfl
  · intro y hy
    cases hy
def Φ68 (L N : Nat) : Tells := (addT (Φx L N) 68 (f68.ent L N))
theorem Φ68_ok (L N : Nat) : TellsOk Try.prog (Φ68 L N) := addT_ok (Φx_ok L N) (f68.ok L N (Φx_ok L N))
def f91.j0' {R : Type} (L N : Nat) (k : Int → LI → Int → Option R) (v4 : Int) (v5 : LI) (v6 : Int) : Option R :=
  bif (decide ((wi (v6 - (1 : Int))) < (v5.length : Int))) then
    bif (decide (0 ≤ (wi (v6 - (1 : Int)))) && decide ((wi (v6 - (1 : Int))) < (v5.length : Int))) then
      bif (decide (v4 = 0)) then
        none
      else k (Int.tmod (wi ((listAt v5 (0 : Int) (wi (v6 - (1 : Int))).toNat))) v4) v5 v6
    else none
  else bif (decide ((v5.length : Int) = 0)) then
    none
  else bif (decide (0 ≤ (Int.tmod (wi (v6 - (1 : Int))) (v5.length : Int))) && decide ((Int.tmod (wi (v6 - (1 : Int))) (v5.length : Int)) < (v5.length : Int))) then
    bif (decide ((v5.length : Int) = 0)) then
      none
    else bif (decide (0 ≤ (Int.tmod (wi ((wi ((wi (v6 - (1 : Int))) * (7 : Int))) + (3 : Int))) (v5.length : Int))) && decide ((Int.tmod (wi ((wi ((wi (v6 - (1 : Int))) * (7 : Int))) + (3 : Int))) (v5.length : Int)) < (v5.length : Int))) then
      bif (decide ((v5.length : Int) = 0)) then
        none
      else bif (decide ((64 : Int) = 0)) then
        none
      else bif (decide (v4 = 0)) then
        none
      else k (Int.tmod (IntKind.wrap .i64 ((BitVec.ofInt (IntKind.bits .i64) (wi ((wi ((wi ((wi ((wi ((listAt v5 (0 : Int) (Int.tmod (wi (v6 - (1 : Int))) (v5.length : Int)).toNat))) * (131 : Int))) + (wi ((wi ((listAt v5 (0 : Int) (Int.tmod (wi ((wi ((wi (v6 - (1 : Int))) * (7 : Int))) + (3 : Int))) (v5.length : Int)).toNat))) * (1117 : Int))))) + (wi ((wi (v6 - (1 : Int))) * (29 : Int))))) + (wi ((wi (Int.tdiv (wi (v6 - (1 : Int))) (v5.length : Int))) * (53 : Int))))) ^^^ BitVec.ofInt (IntKind.bits .i64) (wi (Int.tdiv (wi ((wi ((wi ((wi ((wi ((listAt v5 (0 : Int) (Int.tmod (wi (v6 - (1 : Int))) (v5.length : Int)).toNat))) * (131 : Int))) + (wi ((wi ((listAt v5 (0 : Int) (Int.tmod (wi ((wi ((wi (v6 - (1 : Int))) * (7 : Int))) + (3 : Int))) (v5.length : Int)).toNat))) * (1117 : Int))))) + (wi ((wi (v6 - (1 : Int))) * (29 : Int))))) + (wi ((wi (Int.tdiv (wi (v6 - (1 : Int))) (v5.length : Int))) * (53 : Int))))) (64 : Int)))).toNat)) v4) v5 v6
    else none
  else none
def f91.b' {R : Type} (L N : Nat) (k : Int → LI → Int → Option R) (c0 : LI) (c1 : Int) (x0 : Int) : Option R :=
  bif (decide (x0 < (1 : Int))) then
    k (0 : Int) c0 (wi (c1 + (1 : Int)))
  else bif ((c0.length : Int) == (0 : Int)) then
    k (0 : Int) c0 (wi (c1 + (1 : Int)))
  else f91.j0' L N k x0 c0 (wi (c1 + (1 : Int)))
def f91.b {R : Type} (L N : Nat) (k : Int → LI → Int → Option R) (c0 : LI) (c1 : Int) (x0 : Int) : Option R :=
  f91.b' L N k c0 c1 x0
def f91 (L N : Nat) (c0 : LI) (c1 : Int) (x0 : Int) : Option (Int × LI × Int) := f91.b L N (fun a0 a1 a2 => some (a0, a1, a2)) c0 c1 x0
def f91.ent (L N : Nat) (args : List AV) (vw : View) (site : Nat) : Ans := match boxD [(.sl (.int .u8)), i64] [i64] vw args with
  | some (o, d0, d, u) => ⟨Int × LI × Int, f91 L N d0.1 d0.2.1 d.1, fun y => ((.tv i64 y.1), u ++ [(o, some (.box [(.tv (.sl (.int .u8)) y.2.1), (.tv i64 y.2.2)]))], [])⟩
  | none => Ans.no
noncomputable def E91 (L N : Nat) : Env := { P := Try.prog, ty := tyOf, Φ := (Φ68 L N), inl := inlT, live := lives, liveX := livesX, L := L, dp := none, prom := promT, heal := healT, ren := renT }
theorem f91.b_pre {R : Type} (L N : Nat) (κ : AV → Dens [(.sl (.int .u8)), i64] → Option R) (c0 : LI) (c1 : Int) (x0 : Int) :
    evBody (E91 L N) (evCallI (E91 L N) 1 2000) 1000 91 Try.f91 [(.ptr 0 0), (.tv i64 x0)] [.ptr 0 0] [(0, (.box [(.tv (.sl (.int .u8)) c0), (.tv i64 c1)]))] (finM (.one i64) [(.sl (.int .u8)), i64] κ)
    = f91.b' L N (fun a0 a1 a2 => κ (.tv i64 a0) (a1, a2, ())) c0 c1 x0 := by kernel_rfl
theorem f91.b_eq {R : Type} (L N : Nat) (κ : AV → Dens [(.sl (.int .u8)), i64] → Option R) (c0 : LI) (c1 : Int) (x0 : Int) :
    evBody (E91 L N) (evCallI (E91 L N) 1 2000) 1000 91 Try.f91 [(.ptr 0 0), (.tv i64 x0)] [.ptr 0 0] [(0, (.box [(.tv (.sl (.int .u8)) c0), (.tv i64 c1)]))] (finM (.one i64) [(.sl (.int .u8)), i64] κ)
    = f91.b L N (fun a0 a1 a2 => κ (.tv i64 a0) (a1, a2, ())) c0 c1 x0 := by
  rw [f91.b_pre]
  unfold f91.b
  rfl
theorem f91.j0'_nat {R R' : Type} (j : R → Option R') (L N : Nat) (k : Int → LI → Int → Option R) (v4 : Int) (v5 : LI) (v6 : Int) :
    f91.j0' L N (fun a0 a1 a2 => (k a0 a1 a2).bind j) v4 v5 v6 = (f91.j0' L N k v4 v5 v6).bind j := by
  unfold f91.j0'
  repeat' (first | (with_reducible refine cond_nat ?_ ?_) | (with_reducible refine bind_nat fun _ => ?_) | rfl)
theorem f91.b'_nat {R R' : Type} (j : R → Option R') (L N : Nat) (k : Int → LI → Int → Option R) (c0 : LI) (c1 : Int) (x0 : Int) :
    f91.b' L N (fun a0 a1 a2 => (k a0 a1 a2).bind j) c0 c1 x0 = (f91.b' L N k c0 c1 x0).bind j := by
  unfold f91.b'
  repeat' (first | (with_reducible refine cond_nat ?_ ?_) | (with_reducible refine bind_nat fun _ => ?_) | exact f91.j0'_nat .. | rfl)
theorem f91.b_nat {R R' : Type} (j : R → Option R') (L N : Nat) (k : Int → LI → Int → Option R) (c0 : LI) (c1 : Int) (x0 : Int) :
    f91.b L N (fun a0 a1 a2 => (k a0 a1 a2).bind j) c0 c1 x0 = (f91.b L N k c0 c1 x0).bind j := by
  unfold f91.b
  exact f91.b'_nat ..
theorem f91.ok (L N : Nat) (hΦ : TellsOk Try.prog ((Φ68 L N))) : EntOk Try.prog 91 (f91.ent L N) := by
  intro args vw site h
  unfold f91.ent
  split
  · rename_i o d0 d u ha
    intro y hy hs
    obtain ⟨rest, cs, rfl, ho, hd0, hr, hu⟩ := boxD_some ha
    refine call_box (dep := 1000) (E := (E91 L N)) (ts := [(.sl (.int .u8)), i64]) (tr := [i64]) (rs := (.one i64)) (v' := (.tv i64 y.1)) (d1 := (y.2.1, y.2.2, ())) (sound_of hΦ) okP (callI_sound (sound_of hΦ) okP 1 2000) (f := Try.f91) rfl hs ho hd0 hr hu ?_ site
    refine (f91.b_eq L N (fun v d => some (v, d)) d0.1 d0.2.1 d.1).trans ?_
    refine ((f91.b_nat (fun y => (some ((.tv i64 y.1), (y.2.1, y.2.2, ())) : Option (AV × Dens [(.sl (.int .u8)), i64]))) L N (fun a0 a1 a2 => some (a0, a1, a2)) d0.1 d0.2.1 d.1)).trans ?_
    rw [show f91.b L N (fun a0 a1 a2 => some (a0, a1, a2)) d0.1 d0.2.1 d.1 = some y from hy]
    rfl
  · intro y hy
    cases hy
def Φ91 (L N : Nat) : Tells := (addT (Φ68 L N) 91 (f91.ent L N))
theorem Φ91_ok (L N : Nat) : TellsOk Try.prog (Φ91 L N) := addT_ok (Φ68_ok L N) (f91.ok L N (Φ68_ok L N))
def f134.b' {R : Type} (L N : Nat) (k : Int → LI → Int → Option R) (c0 : LI) (c1 : Int) : Option R :=
  (f91 L N c0 c1 (3 : Int)).bind fun y0 =>
  bif (decide (y0.1 > (0 : Int))) then
    (f91 L N y0.2.1 y0.2.2 (5 : Int)).bind fun y1 =>
    k (wi (y1.1 - (2 : Int))) y1.2.1 y1.2.2
  else (f91 L N y0.2.1 y0.2.2 (9 : Int)).bind fun y2 =>
  k (wi (y2.1 - (4 : Int))) y2.2.1 y2.2.2
def f134.b {R : Type} (L N : Nat) (k : Int → LI → Int → Option R) (c0 : LI) (c1 : Int) : Option R :=
  f134.b' L N k c0 c1
def f134 (L N : Nat) (c0 : LI) (c1 : Int) : Option (Int × LI × Int) := f134.b L N (fun a0 a1 a2 => some (a0, a1, a2)) c0 c1
def f134.ent (L N : Nat) (args : List AV) (vw : View) (site : Nat) : Ans := match boxD [(.sl (.int .u8)), i64] [] vw args with
  | some (o, d0, d, u) => ⟨Int × LI × Int, f134 L N d0.1 d0.2.1, fun y => ((.tv i64 y.1), u ++ [(o, some (.box [(.tv (.sl (.int .u8)) y.2.1), (.tv i64 y.2.2)]))], [])⟩
  | none => Ans.no
noncomputable def E134 (L N : Nat) : Env := { P := Try.prog, ty := tyOf, Φ := (Φ91 L N), inl := inlT, live := lives, liveX := livesX, L := L, dp := none, prom := promT, heal := healT, ren := renT }
theorem f134.b_pre {R : Type} (L N : Nat) (κ : AV → Dens [(.sl (.int .u8)), i64] → Option R) (c0 : LI) (c1 : Int) :
    evBody (E134 L N) (evCallI (E134 L N) 1 2000) 1000 134 Try.f134 [(.ptr 0 0)] [.ptr 0 0] [(0, (.box [(.tv (.sl (.int .u8)) c0), (.tv i64 c1)]))] (finM (.one i64) [(.sl (.int .u8)), i64] κ)
    = f134.b' L N (fun a0 a1 a2 => κ (.tv i64 a0) (a1, a2, ())) c0 c1 := by kernel_rfl
theorem f134.b_eq {R : Type} (L N : Nat) (κ : AV → Dens [(.sl (.int .u8)), i64] → Option R) (c0 : LI) (c1 : Int) :
    evBody (E134 L N) (evCallI (E134 L N) 1 2000) 1000 134 Try.f134 [(.ptr 0 0)] [.ptr 0 0] [(0, (.box [(.tv (.sl (.int .u8)) c0), (.tv i64 c1)]))] (finM (.one i64) [(.sl (.int .u8)), i64] κ)
    = f134.b L N (fun a0 a1 a2 => κ (.tv i64 a0) (a1, a2, ())) c0 c1 := by
  rw [f134.b_pre]
  unfold f134.b
  rfl
theorem f134.b'_nat {R R' : Type} (j : R → Option R') (L N : Nat) (k : Int → LI → Int → Option R) (c0 : LI) (c1 : Int) :
    f134.b' L N (fun a0 a1 a2 => (k a0 a1 a2).bind j) c0 c1 = (f134.b' L N k c0 c1).bind j := by
  unfold f134.b'
  repeat' (first | (with_reducible refine cond_nat ?_ ?_) | (with_reducible refine bind_nat fun _ => ?_) | rfl)
theorem f134.b_nat {R R' : Type} (j : R → Option R') (L N : Nat) (k : Int → LI → Int → Option R) (c0 : LI) (c1 : Int) :
    f134.b L N (fun a0 a1 a2 => (k a0 a1 a2).bind j) c0 c1 = (f134.b L N k c0 c1).bind j := by
  unfold f134.b
  exact f134.b'_nat ..
theorem f134.ok (L N : Nat) (hΦ : TellsOk Try.prog ((Φ91 L N))) : EntOk Try.prog 134 (f134.ent L N) := by
  intro args vw site h
  unfold f134.ent
  split
  · rename_i o d0 d u ha
    intro y hy hs
    obtain ⟨rest, cs, rfl, ho, hd0, hr, hu⟩ := boxD_some ha
    refine call_box (dep := 1000) (E := (E134 L N)) (ts := [(.sl (.int .u8)), i64]) (tr := []) (rs := (.one i64)) (v' := (.tv i64 y.1)) (d1 := (y.2.1, y.2.2, ())) (sound_of hΦ) okP (callI_sound (sound_of hΦ) okP 1 2000) (f := Try.f134) rfl hs ho hd0 hr hu ?_ site
    refine (f134.b_eq L N (fun v d => some (v, d)) d0.1 d0.2.1).trans ?_
    refine ((f134.b_nat (fun y => (some ((.tv i64 y.1), (y.2.1, y.2.2, ())) : Option (AV × Dens [(.sl (.int .u8)), i64]))) L N (fun a0 a1 a2 => some (a0, a1, a2)) d0.1 d0.2.1)).trans ?_
    rw [show f134.b L N (fun a0 a1 a2 => some (a0, a1, a2)) d0.1 d0.2.1 = some y from hy]
    rfl
  · intro y hy
    cases hy
def Φ134 (L N : Nat) : Tells := (addT (Φ91 L N) 134 (f134.ent L N))
theorem Φ134_ok (L N : Nat) : TellsOk Try.prog (Φ134 L N) := addT_ok (Φ91_ok L N) (f134.ok L N (Φ91_ok L N))
def f147.j0' {R : Type} (L N : Nat) (self147 : LI → Int → Int → Int → Bool → Option (Tree × LI × Int)) (k : Tree → LI → Int → Option R) (v10 : Int) (v11 : Int) (v12 : Bool) (v13 : Int) (v14 : Bool) (v15 : LI) (v16 : Int) (v17 : Int) (v18 : Int) : Option R :=
  bif v14 then
    (f91 L N v15 v16 v11).bind fun y19 =>
    k (Tree.mk (5 : Int) y19.1 []) y19.2.1 y19.2.2
  else bif (v13 == (0 : Int)) then
    k (Tree.mk (0 : Int) (0 : Int) []) v15 v16
  else bif (decide (v13 < (5 : Int))) then
    (f134 L N v15 v16).bind fun y20 =>
    bif (v10 == (0 : Int)) then
      k (Tree.mk (1 : Int) y20.1 ([(Tree.mk (0 : Int) (0 : Int) [])] : LT)) y20.2.1 y20.2.2
    else (self147 y20.2.1 y20.2.2 (bif decide ((wi (v10 - (1 : Int))) > (0 : Int)) then (wi (v10 - (1 : Int))) else (0 : Int)) v11 true).bind fun y21 =>
    k (Tree.mk (1 : Int) y20.1 ([y21.1] : LT)) y21.2.1 y21.2.2
  else bif (v13 == (5 : Int)) then
    (f91 L N v15 v16 (4 : Int)).bind fun y22 =>
    (self147 y22.2.1 y22.2.2 (wi (v10 - (1 : Int))) v11 v12).bind fun y23 =>
    k (Tree.mk (4 : Int) y22.1 ([y23.1] : LT)) y23.2.1 y23.2.2
  else bif (v13 == (8 : Int)) then
    (self147 v15 v16 (wi (v10 - (1 : Int))) v11 v12).bind fun y34 =>
    (self147 y34.2.1 y34.2.2 (wi (v10 - (1 : Int))) v11 v12).bind fun y35 =>
    k (Tree.mk (3 : Int) (0 : Int) ([(Tree.mk y34.1.op y34.1.n y34.1.parts), (Tree.mk y35.1.op y35.1.n y35.1.parts)] : LT)) y35.2.1 y35.2.2
  else (self147 v15 v16 (wi (v10 - (1 : Int))) v11 v12).bind fun y36 =>
  (self147 y36.2.1 y36.2.2 (wi (v10 - (1 : Int))) v11 v12).bind fun y37 =>
  k (Tree.mk (2 : Int) (0 : Int) ([(Tree.mk y36.1.op y36.1.n y36.1.parts), (Tree.mk y37.1.op y37.1.n y37.1.parts)] : LT)) y37.2.1 y37.2.2
def f147.j1' {R : Type} (L N : Nat) (self147 : LI → Int → Int → Int → Bool → Option (Tree × LI × Int)) (k : Tree → LI → Int → Option R) (v2 : Int) (v3 : Int) (v4 : Bool) (v5 : Int) (v6 : LI) (v7 : Int) (v8 : Int) (v9 : Int) : Option R :=
  bif (decide (v5 < (2 : Int))) then
    bif (decide (v3 > (0 : Int))) then
      f147.j0' L N self147 k v2 v3 v4 v5 v4 v6 v7 v8 v9
    else f147.j0' L N self147 k v2 v3 v4 v5 false v6 v7 v8 v9
  else f147.j0' L N self147 k v2 v3 v4 v5 false v6 v7 v8 v9
def f147.b' {R : Type} (L N : Nat) (self147 : LI → Int → Int → Int → Bool → Option (Tree × LI × Int)) (k : Tree → LI → Int → Option R) (c0 : LI) (c1 : Int) (x0 : Int) (x1 : Int) (x2 : Bool) : Option R :=
  (f91 L N c0 c1 (9 : Int)).bind fun y0 =>
  bif (x0 == (0 : Int)) then
    (f91 L N y0.2.1 y0.2.2 (2 : Int)).bind fun y1 =>
    f147.j1' L N self147 k x0 x1 x2 y1.1 y1.2.1 y1.2.2 (0 : Int) (0 : Int)
  else f147.j1' L N self147 k x0 x1 x2 y0.1 y0.2.1 y0.2.2 (0 : Int) (0 : Int)
def f147.b {R : Type} (L N : Nat) (self147 : LI → Int → Int → Int → Bool → Option (Tree × LI × Int)) (k : Tree → LI → Int → Option R) (c0 : LI) (c1 : Int) (x0 : Int) (x1 : Int) (x2 : Bool) : Option R :=
  f147.b' L N self147 k c0 c1 x0 x1 x2
def f147 (L N : Nat) : Nat → LI → Int → Int → Int → Bool → Option (Tree × LI × Int)
  | 0, _, _, _, _, _ => none
  | n + 1, c0, c1, x0, x1, x2 => f147.b L N (f147 L N n) (fun a0 a1 a2 => some (a0, a1, a2)) c0 c1 x0 x1 x2
def f147.ent (L N m : Nat) (args : List AV) (vw : View) (site : Nat) : Ans := match boxD [(.sl (.int .u8)), i64] [i64, i64, .bool] vw args with
  | some (o, d0, d, u) => ⟨Tree × LI × Int, f147 L N m d0.1 d0.2.1 d.1 d.2.1 d.2.2.1, fun y => ((.tv (.st 1) y.1), u ++ [(o, some (.box [(.tv (.sl (.int .u8)) y.2.1), (.tv i64 y.2.2)]))], [])⟩
  | none => Ans.no
def Φ147s (L N m : Nat) : Tells := (addT (Φ134 L N) 147 (f147.ent L N m))
noncomputable def E147 (L N m : Nat) : Env := { P := Try.prog, ty := tyOf, Φ := Φ147s L N m, inl := inlT, live := lives, liveX := livesX, L := L, dp := none, prom := promT, heal := healT, ren := renT }
theorem f147.b_pre {R : Type} (L N m : Nat) (κ : AV → Dens [(.sl (.int .u8)), i64] → Option R) (c0 : LI) (c1 : Int) (x0 : Int) (x1 : Int) (x2 : Bool) :
    evBody (E147 L N m) (evCallI (E147 L N m) 1 2000) 1000 147 Try.f147 [(.ptr 0 0), (.tv i64 x0), (.tv i64 x1), (.tv .bool x2)] [.ptr 0 0] [(0, (.box [(.tv (.sl (.int .u8)) c0), (.tv i64 c1)]))] (finM (.one (.st 1)) [(.sl (.int .u8)), i64] κ)
    = f147.b' L N (f147 L N m) (fun a0 a1 a2 => κ (.tv (.st 1) a0) (a1, a2, ())) c0 c1 x0 x1 x2 := by kernel_rfl
theorem f147.b_eq {R : Type} (L N m : Nat) (κ : AV → Dens [(.sl (.int .u8)), i64] → Option R) (c0 : LI) (c1 : Int) (x0 : Int) (x1 : Int) (x2 : Bool) :
    evBody (E147 L N m) (evCallI (E147 L N m) 1 2000) 1000 147 Try.f147 [(.ptr 0 0), (.tv i64 x0), (.tv i64 x1), (.tv .bool x2)] [.ptr 0 0] [(0, (.box [(.tv (.sl (.int .u8)) c0), (.tv i64 c1)]))] (finM (.one (.st 1)) [(.sl (.int .u8)), i64] κ)
    = f147.b L N (f147 L N m) (fun a0 a1 a2 => κ (.tv (.st 1) a0) (a1, a2, ())) c0 c1 x0 x1 x2 := by
  rw [f147.b_pre]
  unfold f147.b
  rfl
theorem f147.j0'_nat {R R' : Type} (j : R → Option R') (L N : Nat) (self147 : LI → Int → Int → Int → Bool → Option (Tree × LI × Int)) (k : Tree → LI → Int → Option R) (v10 : Int) (v11 : Int) (v12 : Bool) (v13 : Int) (v14 : Bool) (v15 : LI) (v16 : Int) (v17 : Int) (v18 : Int) :
    f147.j0' L N self147 (fun a0 a1 a2 => (k a0 a1 a2).bind j) v10 v11 v12 v13 v14 v15 v16 v17 v18 = (f147.j0' L N self147 k v10 v11 v12 v13 v14 v15 v16 v17 v18).bind j := by
  unfold f147.j0'
  repeat' (first | (with_reducible refine cond_nat ?_ ?_) | (with_reducible refine bind_nat fun _ => ?_) | rfl)
theorem f147.j1'_nat {R R' : Type} (j : R → Option R') (L N : Nat) (self147 : LI → Int → Int → Int → Bool → Option (Tree × LI × Int)) (k : Tree → LI → Int → Option R) (v2 : Int) (v3 : Int) (v4 : Bool) (v5 : Int) (v6 : LI) (v7 : Int) (v8 : Int) (v9 : Int) :
    f147.j1' L N self147 (fun a0 a1 a2 => (k a0 a1 a2).bind j) v2 v3 v4 v5 v6 v7 v8 v9 = (f147.j1' L N self147 k v2 v3 v4 v5 v6 v7 v8 v9).bind j := by
  unfold f147.j1'
  repeat' (first | (with_reducible refine cond_nat ?_ ?_) | (with_reducible refine bind_nat fun _ => ?_) | exact f147.j0'_nat .. | rfl)
theorem f147.b'_nat {R R' : Type} (j : R → Option R') (L N : Nat) (self147 : LI → Int → Int → Int → Bool → Option (Tree × LI × Int)) (k : Tree → LI → Int → Option R) (c0 : LI) (c1 : Int) (x0 : Int) (x1 : Int) (x2 : Bool) :
    f147.b' L N self147 (fun a0 a1 a2 => (k a0 a1 a2).bind j) c0 c1 x0 x1 x2 = (f147.b' L N self147 k c0 c1 x0 x1 x2).bind j := by
  unfold f147.b'
  repeat' (first | (with_reducible refine cond_nat ?_ ?_) | (with_reducible refine bind_nat fun _ => ?_) | exact f147.j0'_nat .. | exact f147.j1'_nat .. | rfl)
theorem f147.b_nat {R R' : Type} (j : R → Option R') (L N : Nat) (self147 : LI → Int → Int → Int → Bool → Option (Tree × LI × Int)) (k : Tree → LI → Int → Option R) (c0 : LI) (c1 : Int) (x0 : Int) (x1 : Int) (x2 : Bool) :
    f147.b L N self147 (fun a0 a1 a2 => (k a0 a1 a2).bind j) c0 c1 x0 x1 x2 = (f147.b L N self147 k c0 c1 x0 x1 x2).bind j := by
  unfold f147.b
  exact f147.b'_nat ..
theorem f147.ok (L N m : Nat) (hΦ : TellsOk Try.prog (Φ147s L N m)) : EntOk Try.prog 147 (f147.ent L N (m + 1)) := by
  intro args vw site h
  unfold f147.ent
  split
  · rename_i o d0 d u ha
    intro y hy hs
    obtain ⟨rest, cs, rfl, ho, hd0, hr, hu⟩ := boxD_some ha
    refine call_box (dep := 1000) (E := (E147 L N m)) (ts := [(.sl (.int .u8)), i64]) (tr := [i64, i64, .bool]) (rs := (.one (.st 1))) (v' := (.tv (.st 1) y.1)) (d1 := (y.2.1, y.2.2, ())) (sound_of hΦ) okP (callI_sound (sound_of hΦ) okP 1 2000) (f := Try.f147) rfl hs ho hd0 hr hu ?_ site
    refine (f147.b_eq L N m (fun v d => some (v, d)) d0.1 d0.2.1 d.1 d.2.1 d.2.2.1).trans ?_
    refine ((f147.b_nat (fun y => (some ((.tv (.st 1) y.1), (y.2.1, y.2.2, ())) : Option (AV × Dens [(.sl (.int .u8)), i64]))) L N (f147 L N m) (fun a0 a1 a2 => some (a0, a1, a2)) d0.1 d0.2.1 d.1 d.2.1 d.2.2.1)).trans ?_
    rw [show f147.b L N (f147 L N m) (fun a0 a1 a2 => some (a0, a1, a2)) d0.1 d0.2.1 d.1 d.2.1 d.2.2.1 = some y from hy]
    rfl
  · intro y hy
    cases hy
theorem Φ147s_ok (L N : Nat) : ∀ m, TellsOk Try.prog (Φ147s L N m) := by
  intro m
  induction m with
  | zero => exact (addT_ok (Φ134_ok L N) (fun args vw site h => by unfold f147.ent; split <;> (intro y hy; cases hy)))
  | succ m ih => exact (addT_ok (Φ134_ok L N) (f147.ok L N m ih))
def Φ147 (L N : Nat) : Tells := (addT (Φ134 L N) 147 (f147.ent L N N))
theorem Φ147_ok (L N : Nat) : TellsOk Try.prog (Φ147 L N) := Φ147s_ok L N N
def f130.s0' {R : Type} (L N : Nat) (k0_e0 : Int → LI → Int → LT → Option R) (rec0 : Int → Int → LI → Int → LT → Option R) (s1 : Int) (s2 : Int) (s3 : LI) (s4 : Int) (s5 : LT) : Option R :=
  bif (decide (s2 < s1)) then
    (f91 L N s3 s4 (3 : Int)).bind fun y10 =>
    (f147 L N N y10.2.1 y10.2.2 (wi ((1 : Int) + y10.1)) s1 false).bind fun y11 =>
    bif (decide (s5.length + ([y11.1] : LT).length ≤ lim)) then
      rec0 s1 (wi (s2 + (1 : Int))) y11.2.1 y11.2.2 (s5 ++ ([y11.1] : LT))
    else none
  else k0_e0 s1 s3 s4 s5
def f130.s0 {R : Type} (L N : Nat) (k0_e0 : Int → LI → Int → LT → Option R) (rec0 : Int → Int → LI → Int → LT → Option R) (s1 : Int) (s2 : Int) (s3 : LI) (s4 : Int) (s5 : LT) : Option R :=
  f130.s0' L N k0_e0 rec0 s1 s2 s3 s4 s5
def f130.l0 {R : Type} (L N : Nat) (k0_e0 : Int → LI → Int → LT → Option R) : Nat → Int → Int → LI → Int → LT → Option R
  | 0, _, _, _, _, _ => none
  | n + 1, s1, s2, s3, s4, s5 => f130.s0 L N k0_e0 (f130.l0 L N k0_e0 n) s1 s2 s3 s4 s5
def f130.T0 (s1 : Int) (s2 : Int) (s3 : LI) (s4 : Int) (s5 : LT) : T := mkT 41 [(0, (.ptr 0 0)), (3, (.tv i64 s1)), (4, (.row 1008)), (5, (.tv i64 s2))] ++ [.ptr 0 0]
def f130.H0 (s1 : Int) (s2 : Int) (s3 : LI) (s4 : Int) (s5 : LT) : H := [(0, (.box [(.tv (.sl (.int .u8)) s3), (.tv i64 s4)])), (1008, (.row 110 (.st 1) s5))]
def f130.T0_e0 (z6 : Int) (z7 : LI) (z8 : Int) (z9 : LT) : T := mkT 41 [(0, (.ptr 0 0)), (3, (.tv i64 z6)), (4, (.row 1008))] ++ [.ptr 0 0]
def f130.H0_e0 (z6 : Int) (z7 : LI) (z8 : Int) (z9 : LT) : H := [(0, (.box [(.tv (.sl (.int .u8)) z7), (.tv i64 z8)])), (1008, (.row 110 (.st 1) z9))]
def f130.j0' {R : Type} (L N : Nat) (k : LT → LI → Int → Option R) (v13 : Int) (v14 : Bool) (v15 : LI) (v16 : Int) (v17 : LT) : Option R :=
  bif v14 then
    (f91 L N v15 v16 v13).bind fun y18 =>
    (f91 L N y18.2.1 y18.2.2 (wi (v13 + (1 : Int)))).bind fun y19 =>
    bif (decide (0 ≤ y18.1) && decide (y18.1 < (v17.length : Int))) then
      k (v17.set y18.1.toNat (Tree.mk (5 : Int) y19.1 [])) y19.2.1 y19.2.2
    else none
  else k v17 v15 v16
def f130.p0_e0' {R : Type} (L N : Nat) (k : LT → LI → Int → Option R) (z6 : Int) (z7 : LI) (z8 : Int) (z9 : LT) : Option R :=
  bif (decide (z6 > (0 : Int))) then
    (f91 L N z7 z8 (20 : Int)).bind fun y12 =>
    f130.j0' L N k z6 (y12.1 == (0 : Int)) y12.2.1 y12.2.2 z9
  else f130.j0' L N k z6 false z7 z8 z9
def f130.p0_e0 {R : Type} (L N : Nat) (k : LT → LI → Int → Option R) (z6 : Int) (z7 : LI) (z8 : Int) (z9 : LT) : Option R :=
  f130.p0_e0' L N k z6 z7 z8 z9
def f130.b' {R : Type} (L N : Nat) (k : LT → LI → Int → Option R) (w0 : Int → Int → LI → Int → LT → Option R) (c0 : LI) (c1 : Int) : Option R :=
  (f91 L N c0 c1 (4 : Int)).bind fun y0 =>
  w0 y0.1 (0 : Int) y0.2.1 y0.2.2 ([] : LT)
def f130.b {R : Type} (L N : Nat) (k : LT → LI → Int → Option R) (c0 : LI) (c1 : Int) : Option R :=
  f130.b' L N k (fun s1 s2 s3 s4 s5 => f130.l0 L N (fun z6 z7 z8 z9 => f130.p0_e0 L N k z6 z7 z8 z9) L s1 s2 s3 s4 s5) c0 c1
def f130 (L N : Nat) (c0 : LI) (c1 : Int) : Option (LT × LI × Int) := f130.b L N (fun a0 a1 a2 => some (a0, a1, a2)) c0 c1
def f130.ent (L N : Nat) (args : List AV) (vw : View) (site : Nat) : Ans := match boxD [(.sl (.int .u8)), i64] [] vw args with
  | some (o, d0, d, u) => ⟨LT × LI × Int, f130 L N d0.1 d0.2.1, fun y => ((.tv (.sl (.st 1)) y.1), u ++ [(o, some (.box [(.tv (.sl (.int .u8)) y.2.1), (.tv i64 y.2.2)]))], [])⟩
  | none => Ans.no
noncomputable def E130 (L N : Nat) : Env := { P := Try.prog, ty := tyOf, Φ := (Φ147 L N), inl := inlT, live := lives, liveX := livesX, L := L, dp := none, prom := promT, heal := healT, ren := renT }
noncomputable def f130.c0 : Code := loopAt 0 (codeOf Try.f130)
theorem f130.s0_pre {R : Type} (L N : Nat) (κ : Ex → T → H → Option R) (rec : T → H → Option R) (s1 : Int) (s2 : Int) (s3 : LI) (s4 : Int) (s5 : LT) :
    evRd (E130 L N) (evCallI (E130 L N) 1 2000) 1000 130 41 0 f130.c0 κ rec (f130.T0 s1 s2 s3 s4 s5) (f130.H0 s1 s2 s3 s4 s5)
    = f130.s0' L N (fun z6 z7 z8 z9 => κ (.exit 0) (f130.T0_e0 z6 z7 z8 z9) (f130.H0_e0 z6 z7 z8 z9)) (fun s1 s2 s3 s4 s5 => rec (f130.T0 s1 s2 s3 s4 s5) (f130.H0 s1 s2 s3 s4 s5)) s1 s2 s3 s4 s5 := by kernel_rfl
theorem f130.s0_eq {R : Type} (L N : Nat) (κ : Ex → T → H → Option R) (rec : T → H → Option R) (s1 : Int) (s2 : Int) (s3 : LI) (s4 : Int) (s5 : LT) :
    evRd (E130 L N) (evCallI (E130 L N) 1 2000) 1000 130 41 0 f130.c0 κ rec (f130.T0 s1 s2 s3 s4 s5) (f130.H0 s1 s2 s3 s4 s5)
    = f130.s0 L N (fun z6 z7 z8 z9 => κ (.exit 0) (f130.T0_e0 z6 z7 z8 z9) (f130.H0_e0 z6 z7 z8 z9)) (fun s1 s2 s3 s4 s5 => rec (f130.T0 s1 s2 s3 s4 s5) (f130.H0 s1 s2 s3 s4 s5)) s1 s2 s3 s4 s5 := by
  rw [f130.s0_pre]
  unfold f130.s0
  rfl
theorem f130.l0_eq {R : Type} (L N : Nat) (κ : Ex → T → H → Option R) : ∀ (n : Nat) (s1 : Int) (s2 : Int) (s3 : LI) (s4 : Int) (s5 : LT),
    evLp (E130 L N) (evCallI (E130 L N) 1 2000) 1000 130 41 0 f130.c0 κ n (f130.T0 s1 s2 s3 s4 s5) (f130.H0 s1 s2 s3 s4 s5)
    = f130.l0 L N (fun z6 z7 z8 z9 => κ (.exit 0) (f130.T0_e0 z6 z7 z8 z9) (f130.H0_e0 z6 z7 z8 z9)) n s1 s2 s3 s4 s5 := by
  intro n
  induction n with
  | zero => intros; rfl
  | succ n ih =>
    intro s1 s2 s3 s4 s5
    rw [evLp_succ, f130.s0_eq]
    simp only [ih]
    rfl
theorem f130.p0_e0_pre {R : Type} (L N : Nat) (κ : AV → Dens [(.sl (.int .u8)), i64] → Option R) (z6 : Int) (z7 : LI) (z8 : Int) (z9 : LT) :
    (contAt (E130 L N) (evCallI (E130 L N) 1 2000) 1000 130 41 0 (codeOf Try.f130) (finK (E130 L N) 1000 Try.f130 (finM (.one (.sl (.st 1))) [(.sl (.int .u8)), i64] κ))) (.exit 0) (f130.T0_e0 z6 z7 z8 z9) (f130.H0_e0 z6 z7 z8 z9)
    = f130.p0_e0' L N (fun a0 a1 a2 => κ (.tv (.sl (.st 1)) a0) (a1, a2, ())) z6 z7 z8 z9 := by kernel_rfl
theorem f130.p0_e0_eq {R : Type} (L N : Nat) (κ : AV → Dens [(.sl (.int .u8)), i64] → Option R) (z6 : Int) (z7 : LI) (z8 : Int) (z9 : LT) :
    (contAt (E130 L N) (evCallI (E130 L N) 1 2000) 1000 130 41 0 (codeOf Try.f130) (finK (E130 L N) 1000 Try.f130 (finM (.one (.sl (.st 1))) [(.sl (.int .u8)), i64] κ))) (.exit 0) (f130.T0_e0 z6 z7 z8 z9) (f130.H0_e0 z6 z7 z8 z9)
    = f130.p0_e0 L N (fun a0 a1 a2 => κ (.tv (.sl (.st 1)) a0) (a1, a2, ())) z6 z7 z8 z9 := by
  rw [f130.p0_e0_pre]
  unfold f130.p0_e0
  rfl
theorem f130.b_pre {R : Type} (L N : Nat) (κ : AV → Dens [(.sl (.int .u8)), i64] → Option R) (c0 : LI) (c1 : Int) :
    evBody (E130 L N) (evCallI (E130 L N) 1 2000) 1000 130 Try.f130 [(.ptr 0 0)] [.ptr 0 0] [(0, (.box [(.tv (.sl (.int .u8)) c0), (.tv i64 c1)]))] (finM (.one (.sl (.st 1))) [(.sl (.int .u8)), i64] κ)
    = f130.b' L N (fun a0 a1 a2 => κ (.tv (.sl (.st 1)) a0) (a1, a2, ())) (fun s1 s2 s3 s4 s5 => evLp (E130 L N) (evCallI (E130 L N) 1 2000) 1000 130 41 0 f130.c0 (contAt (E130 L N) (evCallI (E130 L N) 1 2000) 1000 130 41 0 (codeOf Try.f130) (finK (E130 L N) 1000 Try.f130 (finM (.one (.sl (.st 1))) [(.sl (.int .u8)), i64] κ))) L (f130.T0 s1 s2 s3 s4 s5) (f130.H0 s1 s2 s3 s4 s5)) c0 c1 := by kernel_rfl
theorem f130.b_eq {R : Type} (L N : Nat) (κ : AV → Dens [(.sl (.int .u8)), i64] → Option R) (c0 : LI) (c1 : Int) :
    evBody (E130 L N) (evCallI (E130 L N) 1 2000) 1000 130 Try.f130 [(.ptr 0 0)] [.ptr 0 0] [(0, (.box [(.tv (.sl (.int .u8)) c0), (.tv i64 c1)]))] (finM (.one (.sl (.st 1))) [(.sl (.int .u8)), i64] κ)
    = f130.b L N (fun a0 a1 a2 => κ (.tv (.sl (.st 1)) a0) (a1, a2, ())) c0 c1 := by
  rw [f130.b_pre]
  unfold f130.b
  simp only [f130.l0_eq, f130.p0_e0_eq]
theorem f130.s0'_nat {R R' : Type} (j : R → Option R') (L N : Nat) (k0_e0 : Int → LI → Int → LT → Option R) (rec0 : Int → Int → LI → Int → LT → Option R) (s1 : Int) (s2 : Int) (s3 : LI) (s4 : Int) (s5 : LT) :
    f130.s0' L N (fun a0 a1 a2 a3 => (k0_e0 a0 a1 a2 a3).bind j) (fun a0 a1 a2 a3 a4 => (rec0 a0 a1 a2 a3 a4).bind j) s1 s2 s3 s4 s5 = (f130.s0' L N k0_e0 rec0 s1 s2 s3 s4 s5).bind j := by
  unfold f130.s0'
  repeat' (first | (with_reducible refine cond_nat ?_ ?_) | (with_reducible refine bind_nat fun _ => ?_) | rfl)
theorem f130.s0_nat {R R' : Type} (j : R → Option R') (L N : Nat) (k0_e0 : Int → LI → Int → LT → Option R) (rec0 : Int → Int → LI → Int → LT → Option R) (s1 : Int) (s2 : Int) (s3 : LI) (s4 : Int) (s5 : LT) :
    f130.s0 L N (fun a0 a1 a2 a3 => (k0_e0 a0 a1 a2 a3).bind j) (fun a0 a1 a2 a3 a4 => (rec0 a0 a1 a2 a3 a4).bind j) s1 s2 s3 s4 s5 = (f130.s0 L N k0_e0 rec0 s1 s2 s3 s4 s5).bind j := by
  unfold f130.s0
  exact f130.s0'_nat ..
theorem f130.l0_nat {R R' : Type} (j : R → Option R') (L N : Nat) (k0_e0 : Int → LI → Int → LT → Option R) : ∀ (n : Nat) (s1 : Int) (s2 : Int) (s3 : LI) (s4 : Int) (s5 : LT),
    f130.l0 L N (fun a0 a1 a2 a3 => (k0_e0 a0 a1 a2 a3).bind j) n s1 s2 s3 s4 s5 = (f130.l0 L N k0_e0 n s1 s2 s3 s4 s5).bind j := by
  intro n
  induction n with
  | zero => intros; rfl
  | succ n ih =>
    intro s1 s2 s3 s4 s5
    show f130.s0 L N (fun a0 a1 a2 a3 => (k0_e0 a0 a1 a2 a3).bind j) (f130.l0 L N (fun a0 a1 a2 a3 => (k0_e0 a0 a1 a2 a3).bind j) n) s1 s2 s3 s4 s5 = _
    rw [show f130.l0 L N (fun a0 a1 a2 a3 => (k0_e0 a0 a1 a2 a3).bind j) n = (fun s1 s2 s3 s4 s5 => (f130.l0 L N k0_e0 n s1 s2 s3 s4 s5).bind j) from funext fun s1 => funext fun s2 => funext fun s3 => funext fun s4 => funext fun s5 => ih s1 s2 s3 s4 s5]
    exact f130.s0_nat ..
theorem f130.j0'_nat {R R' : Type} (j : R → Option R') (L N : Nat) (k : LT → LI → Int → Option R) (v13 : Int) (v14 : Bool) (v15 : LI) (v16 : Int) (v17 : LT) :
    f130.j0' L N (fun a0 a1 a2 => (k a0 a1 a2).bind j) v13 v14 v15 v16 v17 = (f130.j0' L N k v13 v14 v15 v16 v17).bind j := by
  unfold f130.j0'
  repeat' (first | (with_reducible refine cond_nat ?_ ?_) | (with_reducible refine bind_nat fun _ => ?_) | rfl)
theorem f130.p0_e0'_nat {R R' : Type} (j : R → Option R') (L N : Nat) (k : LT → LI → Int → Option R) (z6 : Int) (z7 : LI) (z8 : Int) (z9 : LT) :
    f130.p0_e0' L N (fun a0 a1 a2 => (k a0 a1 a2).bind j) z6 z7 z8 z9 = (f130.p0_e0' L N k z6 z7 z8 z9).bind j := by
  unfold f130.p0_e0'
  repeat' (first | (with_reducible refine cond_nat ?_ ?_) | (with_reducible refine bind_nat fun _ => ?_) | exact f130.j0'_nat .. | rfl)
theorem f130.p0_e0_nat {R R' : Type} (j : R → Option R') (L N : Nat) (k : LT → LI → Int → Option R) (z6 : Int) (z7 : LI) (z8 : Int) (z9 : LT) :
    f130.p0_e0 L N (fun a0 a1 a2 => (k a0 a1 a2).bind j) z6 z7 z8 z9 = (f130.p0_e0 L N k z6 z7 z8 z9).bind j := by
  unfold f130.p0_e0
  exact f130.p0_e0'_nat ..
theorem f130.b'_nat {R R' : Type} (j : R → Option R') (L N : Nat) (k : LT → LI → Int → Option R) (w0 : Int → Int → LI → Int → LT → Option R) (c0 : LI) (c1 : Int) :
    f130.b' L N (fun a0 a1 a2 => (k a0 a1 a2).bind j) (fun a0 a1 a2 a3 a4 => (w0 a0 a1 a2 a3 a4).bind j) c0 c1 = (f130.b' L N k w0 c0 c1).bind j := by
  unfold f130.b'
  repeat' (first | (with_reducible refine cond_nat ?_ ?_) | (with_reducible refine bind_nat fun _ => ?_) | rfl)
theorem f130.b_nat {R R' : Type} (j : R → Option R') (L N : Nat) (k : LT → LI → Int → Option R) (c0 : LI) (c1 : Int) :
    f130.b L N (fun a0 a1 a2 => (k a0 a1 a2).bind j) c0 c1 = (f130.b L N k c0 c1).bind j := by
  unfold f130.b
  simp only [f130.l0_nat, f130.p0_e0_nat]
  exact f130.b'_nat ..
theorem f130.ok (L N : Nat) (hΦ : TellsOk Try.prog ((Φ147 L N))) : EntOk Try.prog 130 (f130.ent L N) := by
  intro args vw site h
  unfold f130.ent
  split
  · rename_i o d0 d u ha
    intro y hy hs
    obtain ⟨rest, cs, rfl, ho, hd0, hr, hu⟩ := boxD_some ha
    refine call_box (dep := 1000) (E := (E130 L N)) (ts := [(.sl (.int .u8)), i64]) (tr := []) (rs := (.one (.sl (.st 1)))) (v' := (.tv (.sl (.st 1)) y.1)) (d1 := (y.2.1, y.2.2, ())) (sound_of hΦ) okP (callI_sound (sound_of hΦ) okP 1 2000) (f := Try.f130) rfl hs ho hd0 hr hu ?_ site
    refine (f130.b_eq L N (fun v d => some (v, d)) d0.1 d0.2.1).trans ?_
    refine ((f130.b_nat (fun y => (some ((.tv (.sl (.st 1)) y.1), (y.2.1, y.2.2, ())) : Option (AV × Dens [(.sl (.int .u8)), i64]))) L N (fun a0 a1 a2 => some (a0, a1, a2)) d0.1 d0.2.1)).trans ?_
    rw [show f130.b L N (fun a0 a1 a2 => some (a0, a1, a2)) d0.1 d0.2.1 = some y from hy]
    rfl
  · intro y hy
    cases hy
def Φ130 (L N : Nat) : Tells := (addT (Φ147 L N) 130 (f130.ent L N))
theorem Φ130_ok (L N : Nat) : TellsOk Try.prog (Φ130 L N) := addT_ok (Φ147_ok L N) (f130.ok L N (Φ147_ok L N))
def f131.b' {R : Type} (L N : Nat) (k : Tree → LI → Int → Option R) (c0 : LI) (c1 : Int) (x0 : Int) : Option R :=
  (f91 L N c0 c1 (4 : Int)).bind fun y0 =>
  (f147 L N N y0.2.1 y0.2.2 (wi ((1 : Int) + y0.1)) x0 false).bind fun y1 =>
  (f91 L N y1.2.1 y1.2.2 (24 : Int)).bind fun y2 =>
  bif (y2.1 == (0 : Int)) then
    k (Tree.mk ((Tree.mk y1.1.op (wi (y1.1.n + (7 : Int))) y1.1.parts).op) ((Tree.mk y1.1.op (wi (y1.1.n + (7 : Int))) y1.1.parts).n) ((Tree.mk y1.1.op (wi (y1.1.n + (7 : Int))) y1.1.parts).parts)) y2.2.1 y2.2.2
  else bif (y2.1 == (1 : Int)) then
    (f91 L N y2.2.1 y2.2.2 (8 : Int)).bind fun y3 =>
    k (Tree.mk ((Tree.mk y3.1 y1.1.n y1.1.parts).op) ((Tree.mk y3.1 y1.1.n y1.1.parts).n) ((Tree.mk y3.1 y1.1.n y1.1.parts).parts)) y3.2.1 y3.2.2
  else bif (y2.1 == (2 : Int)) then
    bif (decide (([(Tree.mk (0 : Int) (0 : Int) [])] : LT).length + y1.1.parts.length ≤ lim)) then
      k (Tree.mk y1.1.op y1.1.n (([(Tree.mk (0 : Int) (0 : Int) [])] : LT) ++ y1.1.parts)) y2.2.1 y2.2.2
    else none
  else k (Tree.mk ((Tree.mk y1.1.op y1.1.n y1.1.parts).op) ((Tree.mk y1.1.op y1.1.n y1.1.parts).n) ((Tree.mk y1.1.op y1.1.n y1.1.parts).parts)) y2.2.1 y2.2.2
def f131.b {R : Type} (L N : Nat) (k : Tree → LI → Int → Option R) (c0 : LI) (c1 : Int) (x0 : Int) : Option R :=
  f131.b' L N k c0 c1 x0
def f131 (L N : Nat) (c0 : LI) (c1 : Int) (x0 : Int) : Option (Tree × LI × Int) := f131.b L N (fun a0 a1 a2 => some (a0, a1, a2)) c0 c1 x0
def f131.ent (L N : Nat) (args : List AV) (vw : View) (site : Nat) : Ans := match boxD [(.sl (.int .u8)), i64] [i64] vw args with
  | some (o, d0, d, u) => ⟨Tree × LI × Int, f131 L N d0.1 d0.2.1 d.1, fun y => ((.tv (.st 1) y.1), u ++ [(o, some (.box [(.tv (.sl (.int .u8)) y.2.1), (.tv i64 y.2.2)]))], [])⟩
  | none => Ans.no
noncomputable def E131 (L N : Nat) : Env := { P := Try.prog, ty := tyOf, Φ := (Φ130 L N), inl := inlT, live := lives, liveX := livesX, L := L, dp := none, prom := promT, heal := healT, ren := renT }
theorem f131.b_pre {R : Type} (L N : Nat) (κ : AV → Dens [(.sl (.int .u8)), i64] → Option R) (c0 : LI) (c1 : Int) (x0 : Int) :
    evBody (E131 L N) (evCallI (E131 L N) 1 2000) 1000 131 Try.f131 [(.ptr 0 0), (.tv i64 x0)] [.ptr 0 0] [(0, (.box [(.tv (.sl (.int .u8)) c0), (.tv i64 c1)]))] (finM (.one (.st 1)) [(.sl (.int .u8)), i64] κ)
    = f131.b' L N (fun a0 a1 a2 => κ (.tv (.st 1) a0) (a1, a2, ())) c0 c1 x0 := by kernel_rfl
theorem f131.b_eq {R : Type} (L N : Nat) (κ : AV → Dens [(.sl (.int .u8)), i64] → Option R) (c0 : LI) (c1 : Int) (x0 : Int) :
    evBody (E131 L N) (evCallI (E131 L N) 1 2000) 1000 131 Try.f131 [(.ptr 0 0), (.tv i64 x0)] [.ptr 0 0] [(0, (.box [(.tv (.sl (.int .u8)) c0), (.tv i64 c1)]))] (finM (.one (.st 1)) [(.sl (.int .u8)), i64] κ)
    = f131.b L N (fun a0 a1 a2 => κ (.tv (.st 1) a0) (a1, a2, ())) c0 c1 x0 := by
  rw [f131.b_pre]
  unfold f131.b
  rfl
theorem f131.b'_nat {R R' : Type} (j : R → Option R') (L N : Nat) (k : Tree → LI → Int → Option R) (c0 : LI) (c1 : Int) (x0 : Int) :
    f131.b' L N (fun a0 a1 a2 => (k a0 a1 a2).bind j) c0 c1 x0 = (f131.b' L N k c0 c1 x0).bind j := by
  unfold f131.b'
  repeat' (first | (with_reducible refine cond_nat ?_ ?_) | (with_reducible refine bind_nat fun _ => ?_) | rfl)
theorem f131.b_nat {R R' : Type} (j : R → Option R') (L N : Nat) (k : Tree → LI → Int → Option R) (c0 : LI) (c1 : Int) (x0 : Int) :
    f131.b L N (fun a0 a1 a2 => (k a0 a1 a2).bind j) c0 c1 x0 = (f131.b L N k c0 c1 x0).bind j := by
  unfold f131.b
  exact f131.b'_nat ..
theorem f131.ok (L N : Nat) (hΦ : TellsOk Try.prog ((Φ130 L N))) : EntOk Try.prog 131 (f131.ent L N) := by
  intro args vw site h
  unfold f131.ent
  split
  · rename_i o d0 d u ha
    intro y hy hs
    obtain ⟨rest, cs, rfl, ho, hd0, hr, hu⟩ := boxD_some ha
    refine call_box (dep := 1000) (E := (E131 L N)) (ts := [(.sl (.int .u8)), i64]) (tr := [i64]) (rs := (.one (.st 1))) (v' := (.tv (.st 1) y.1)) (d1 := (y.2.1, y.2.2, ())) (sound_of hΦ) okP (callI_sound (sound_of hΦ) okP 1 2000) (f := Try.f131) rfl hs ho hd0 hr hu ?_ site
    refine (f131.b_eq L N (fun v d => some (v, d)) d0.1 d0.2.1 d.1).trans ?_
    refine ((f131.b_nat (fun y => (some ((.tv (.st 1) y.1), (y.2.1, y.2.2, ())) : Option (AV × Dens [(.sl (.int .u8)), i64]))) L N (fun a0 a1 a2 => some (a0, a1, a2)) d0.1 d0.2.1 d.1)).trans ?_
    rw [show f131.b L N (fun a0 a1 a2 => some (a0, a1, a2)) d0.1 d0.2.1 d.1 = some y from hy]
    rfl
  · intro y hy
    cases hy
def Φ131 (L N : Nat) : Tells := (addT (Φ130 L N) 131 (f131.ent L N))
theorem Φ131_ok (L N : Nat) : TellsOk Try.prog (Φ131 L N) := addT_ok (Φ130_ok L N) (f131.ok L N (Φ130_ok L N))
def f103.j0' {R : Type} (L N : Nat) (k : Tree → LT → LI → Int → Option R) (v3 : LT) (v4 : Bool) (v5 : LI) (v6 : Int) (v7 : Int) (v8 : Int) (v9 : Int) (v10 : Int) (v11 : LT) : Option R :=
  bif v4 then
    (f91 L N v5 v6 (v3.length : Int)).bind fun y12 =>
    k (Tree.mk (5 : Int) y12.1 []) v3 y12.2.1 y12.2.2
  else k (Tree.mk ((Tree.mk v9 v10 v11).op) ((Tree.mk v9 v10 v11).n) ((Tree.mk v9 v10 v11).parts)) v3 v5 v6
def f103.b' {R : Type} (L N : Nat) (k : Tree → LT → LI → Int → Option R) (c0 : LI) (c1 : Int) : Option R :=
  (f130 L N c0 c1).bind fun y0 =>
  (f131 L N y0.2.1 y0.2.2 (y0.1.length : Int)).bind fun y1 =>
  bif (decide ((y0.1.length : Int) > (0 : Int))) then
    (f91 L N y1.2.1 y1.2.2 (3 : Int)).bind fun y2 =>
    f103.j0' L N k y0.1 (y2.1 == (0 : Int)) y2.2.1 y2.2.2 (0 : Int) (0 : Int) y1.1.op y1.1.n y1.1.parts
  else f103.j0' L N k y0.1 false y1.2.1 y1.2.2 (0 : Int) (0 : Int) y1.1.op y1.1.n y1.1.parts
def f103.b {R : Type} (L N : Nat) (k : Tree → LT → LI → Int → Option R) (c0 : LI) (c1 : Int) : Option R :=
  f103.b' L N k c0 c1
def f103 (L N : Nat) (c0 : LI) (c1 : Int) : Option (Tree × LT × LI × Int) := f103.b L N (fun a0 a1 a2 a3 => some (a0, a1, a2, a3)) c0 c1
def f103.ent (L N : Nat) (args : List AV) (vw : View) (site : Nat) : Ans := match boxD [(.sl (.int .u8)), i64] [] vw args with
  | some (o, d0, d, u) => ⟨Tree × LT × LI × Int, f103 L N d0.1 d0.2.1, fun y => ((.tup [(.tv (.st 1) y.1), (.tv (.sl (.st 1)) y.2.1)]), u ++ [(o, some (.box [(.tv (.sl (.int .u8)) y.2.2.1), (.tv i64 y.2.2.2)]))], [])⟩
  | none => Ans.no
noncomputable def E103 (L N : Nat) : Env := { P := Try.prog, ty := tyOf, Φ := (Φ131 L N), inl := inlT, live := lives, liveX := livesX, L := L, dp := none, prom := promT, heal := healT, ren := renT }
theorem f103.b_pre {R : Type} (L N : Nat) (κ : AV → Dens [(.sl (.int .u8)), i64] → Option R) (c0 : LI) (c1 : Int) :
    evBody (E103 L N) (evCallI (E103 L N) 1 2000) 1000 103 Try.f103 [(.ptr 0 0)] [.ptr 0 0] [(0, (.box [(.tv (.sl (.int .u8)) c0), (.tv i64 c1)]))] (finM (.many [(.st 1), (.sl (.st 1))]) [(.sl (.int .u8)), i64] κ)
    = f103.b' L N (fun a0 a1 a2 a3 => κ (.tup [(.tv (.st 1) a0), (.tv (.sl (.st 1)) a1)]) (a2, a3, ())) c0 c1 := by kernel_rfl
theorem f103.b_eq {R : Type} (L N : Nat) (κ : AV → Dens [(.sl (.int .u8)), i64] → Option R) (c0 : LI) (c1 : Int) :
    evBody (E103 L N) (evCallI (E103 L N) 1 2000) 1000 103 Try.f103 [(.ptr 0 0)] [.ptr 0 0] [(0, (.box [(.tv (.sl (.int .u8)) c0), (.tv i64 c1)]))] (finM (.many [(.st 1), (.sl (.st 1))]) [(.sl (.int .u8)), i64] κ)
    = f103.b L N (fun a0 a1 a2 a3 => κ (.tup [(.tv (.st 1) a0), (.tv (.sl (.st 1)) a1)]) (a2, a3, ())) c0 c1 := by
  rw [f103.b_pre]
  unfold f103.b
  rfl
theorem f103.j0'_nat {R R' : Type} (j : R → Option R') (L N : Nat) (k : Tree → LT → LI → Int → Option R) (v3 : LT) (v4 : Bool) (v5 : LI) (v6 : Int) (v7 : Int) (v8 : Int) (v9 : Int) (v10 : Int) (v11 : LT) :
    f103.j0' L N (fun a0 a1 a2 a3 => (k a0 a1 a2 a3).bind j) v3 v4 v5 v6 v7 v8 v9 v10 v11 = (f103.j0' L N k v3 v4 v5 v6 v7 v8 v9 v10 v11).bind j := by
  unfold f103.j0'
  repeat' (first | (with_reducible refine cond_nat ?_ ?_) | (with_reducible refine bind_nat fun _ => ?_) | rfl)
theorem f103.b'_nat {R R' : Type} (j : R → Option R') (L N : Nat) (k : Tree → LT → LI → Int → Option R) (c0 : LI) (c1 : Int) :
    f103.b' L N (fun a0 a1 a2 a3 => (k a0 a1 a2 a3).bind j) c0 c1 = (f103.b' L N k c0 c1).bind j := by
  unfold f103.b'
  repeat' (first | (with_reducible refine cond_nat ?_ ?_) | (with_reducible refine bind_nat fun _ => ?_) | exact f103.j0'_nat .. | rfl)
theorem f103.b_nat {R R' : Type} (j : R → Option R') (L N : Nat) (k : Tree → LT → LI → Int → Option R) (c0 : LI) (c1 : Int) :
    f103.b L N (fun a0 a1 a2 a3 => (k a0 a1 a2 a3).bind j) c0 c1 = (f103.b L N k c0 c1).bind j := by
  unfold f103.b
  exact f103.b'_nat ..
theorem f103.ok (L N : Nat) (hΦ : TellsOk Try.prog ((Φ131 L N))) : EntOk Try.prog 103 (f103.ent L N) := by
  intro args vw site h
  unfold f103.ent
  split
  · rename_i o d0 d u ha
    intro y hy hs
    obtain ⟨rest, cs, rfl, ho, hd0, hr, hu⟩ := boxD_some ha
    refine call_box (dep := 1000) (E := (E103 L N)) (ts := [(.sl (.int .u8)), i64]) (tr := []) (rs := (.many [(.st 1), (.sl (.st 1))])) (v' := (.tup [(.tv (.st 1) y.1), (.tv (.sl (.st 1)) y.2.1)])) (d1 := (y.2.2.1, y.2.2.2, ())) (sound_of hΦ) okP (callI_sound (sound_of hΦ) okP 1 2000) (f := Try.f103) rfl hs ho hd0 hr hu ?_ site
    refine (f103.b_eq L N (fun v d => some (v, d)) d0.1 d0.2.1).trans ?_
    refine ((f103.b_nat (fun y => (some ((.tup [(.tv (.st 1) y.1), (.tv (.sl (.st 1)) y.2.1)]), (y.2.2.1, y.2.2.2, ())) : Option (AV × Dens [(.sl (.int .u8)), i64]))) L N (fun a0 a1 a2 a3 => some (a0, a1, a2, a3)) d0.1 d0.2.1)).trans ?_
    rw [show f103.b L N (fun a0 a1 a2 a3 => some (a0, a1, a2, a3)) d0.1 d0.2.1 = some y from hy]
    rfl
  · intro y hy
    cases hy
def Φ103 (L N : Nat) : Tells := (addT (Φ131 L N) 103 (f103.ent L N))
theorem Φ103_ok (L N : Nat) : TellsOk Try.prog (Φ103 L N) := addT_ok (Φ131_ok L N) (f103.ok L N (Φ131_ok L N))
def f96.b' {R : Type} (L N : Nat) (k : Bool → Option R) (x0 : Int) (x1 : Int) (x2 : Int) : Option R :=
  bif (decide (x0 ≥ x1)) then
    k (decide (x0 ≤ x2))
  else k false
def f96.b {R : Type} (L N : Nat) (k : Bool → Option R) (x0 : Int) (x1 : Int) (x2 : Int) : Option R :=
  f96.b' L N k x0 x1 x2
def f96 (L N : Nat) (x0 : Int) (x1 : Int) (x2 : Int) : Option (Bool) := f96.b L N some x0 x1 x2
def f96.ent (L N : Nat) (args : List AV) (vw : View) (site : Nat) : Ans := match roD [i64, i64, i64] vw args with
  | some d => ⟨Bool, f96 L N d.1 d.2.1 d.2.2.1, fun y => ((.tv .bool y), [], [])⟩
  | none => Ans.no
noncomputable def E96 (L N : Nat) : Env := { P := Try.prog, ty := tyOf, Φ := (Φ103 L N), inl := inlT, live := lives, liveX := livesX, L := L, dp := none, prom := promT, heal := healT, ren := renT }
theorem f96.b_pre {R : Type} (L N : Nat) (κ : AV → Option R) (x0 : Int) (x1 : Int) (x2 : Int) :
    evBody (E96 L N) (evCallI (E96 L N) 1 2000) 1000 96 Try.f96 [(.tv i64 x0), (.tv i64 x1), (.tv i64 x2)] [] [] (finC (.one .bool) κ)
    = f96.b' L N (fun a0 => κ (.tv .bool a0)) x0 x1 x2 := by kernel_rfl
theorem f96.b_eq {R : Type} (L N : Nat) (κ : AV → Option R) (x0 : Int) (x1 : Int) (x2 : Int) :
    evBody (E96 L N) (evCallI (E96 L N) 1 2000) 1000 96 Try.f96 [(.tv i64 x0), (.tv i64 x1), (.tv i64 x2)] [] [] (finC (.one .bool) κ)
    = f96.b L N (fun a0 => κ (.tv .bool a0)) x0 x1 x2 := by
  rw [f96.b_pre]
  unfold f96.b
  rfl
theorem f96.b'_nat {R R' : Type} (j : R → Option R') (L N : Nat) (k : Bool → Option R) (x0 : Int) (x1 : Int) (x2 : Int) :
    f96.b' L N (fun a0 => (k a0).bind j) x0 x1 x2 = (f96.b' L N k x0 x1 x2).bind j := by
  unfold f96.b'
  repeat' (first | (with_reducible refine cond_nat ?_ ?_) | (with_reducible refine bind_nat fun _ => ?_) | rfl)
theorem f96.b_nat {R R' : Type} (j : R → Option R') (L N : Nat) (k : Bool → Option R) (x0 : Int) (x1 : Int) (x2 : Int) :
    f96.b L N (fun a0 => (k a0).bind j) x0 x1 x2 = (f96.b L N k x0 x1 x2).bind j := by
  unfold f96.b
  exact f96.b'_nat ..
theorem f96.ok (L N : Nat) (hΦ : TellsOk Try.prog ((Φ103 L N))) : EntOk Try.prog 96 (f96.ent L N) := by
  intro args vw site h
  unfold f96.ent
  split
  · rename_i d ha
    intro y hy hs
    refine call_ro (dep := 1000) (E := (E96 L N)) (rs := (.one .bool)) (v := (.tv .bool y)) (sound_of hΦ) okP (callI_sound (sound_of hΦ) okP 1 2000) (f := Try.f96) rfl hs ha ?_ rfl site
    refine (f96.b_eq L N some d.1 d.2.1 d.2.2.1).trans ?_
    refine ((f96.b_nat (fun y => (some (.tv .bool y) : Option AV)) L N some d.1 d.2.1 d.2.2.1)).trans ?_
    rw [show f96.b L N some d.1 d.2.1 d.2.2.1 = some y from hy]
    rfl
  · intro y hy
    cases hy
def Φ96 (L N : Nat) : Tells := (addT (Φ103 L N) 96 (f96.ent L N))
theorem Φ96_ok (L N : Nat) : TellsOk Try.prog (Φ96 L N) := addT_ok (Φ103_ok L N) (f96.ok L N (Φ103_ok L N))
def f158.j0' {R : Type} (L N : Nat) (self158 : Tree → Bool → Option (Int)) (k0_e0 : Int → Option R) (rec0 : Bool → Int → Int → Int → Int → LT → Option R) (v14 : Bool) (v15 : Int) (v16 : Int) (v17 : Int) (v18 : Int) (v19 : LT) : Option R :=
  bif (decide (0 ≤ v16) && decide (v16 < (v19.length : Int))) then
    (self158 (listAt v19 (Ty.dflt (.st 1)) v16.toNat) v14).bind fun y20 =>
    rec0 v14 (bif decide (y20 > v15) then y20 else v15) (wi (v16 + (1 : Int))) v17 v18 v19
  else none
def f158.s0' {R : Type} (L N : Nat) (self158 : Tree → Bool → Option (Int)) (k0_e0 : Int → Option R) (rec0 : Bool → Int → Int → Int → Int → LT → Option R) (s0 : Bool) (s1 : Int) (s2 : Int) (s3 : Int) (s4 : Int) (s5 : LT) : Option R :=
  bif (decide (s2 < (s5.length : Int))) then
    bif s0 then
      bif (!(s3 == (1 : Int))) then
        f158.j0' L N self158 k0_e0 rec0 s0 s1 s2 s3 s4 s5
      else k0_e0 s1
    else bif (!false) then
      f158.j0' L N self158 k0_e0 rec0 s0 s1 s2 s3 s4 s5
    else k0_e0 s1
  else k0_e0 s1
def f158.s0 {R : Type} (L N : Nat) (self158 : Tree → Bool → Option (Int)) (k0_e0 : Int → Option R) (rec0 : Bool → Int → Int → Int → Int → LT → Option R) (s0 : Bool) (s1 : Int) (s2 : Int) (s3 : Int) (s4 : Int) (s5 : LT) : Option R :=
  f158.s0' L N self158 k0_e0 rec0 s0 s1 s2 s3 s4 s5
def f158.l0 {R : Type} (L N : Nat) (self158 : Tree → Bool → Option (Int)) (k0_e0 : Int → Option R) : Nat → Bool → Int → Int → Int → Int → LT → Option R
  | 0, _, _, _, _, _, _ => none
  | n + 1, s0, s1, s2, s3, s4, s5 => f158.s0 L N self158 k0_e0 (f158.l0 L N self158 k0_e0 n) s0 s1 s2 s3 s4 s5
def f158.T0 (s0 : Bool) (s1 : Int) (s2 : Int) (s3 : Int) (s4 : Int) (s5 : LT) : T := mkT 38 [(1, (.tv .bool s0)), (2, (.ptr 1002 0)), (5, (.tv i64 s1)), (6, (.tv i64 s2))]
def f158.H0 (s0 : Bool) (s1 : Int) (s2 : Int) (s3 : Int) (s4 : Int) (s5 : LT) : H := [(1002, (.box [(.tv i64 s3), (.tv i64 s4), (.tv (.sl (.st 1)) s5)]))]
def f158.T0_e0 (z13 : Int) : T := mkT 38 [(5, (.tv i64 z13))]
def f158.H0_e0 (z13 : Int) : H := []
def f158.p0_e0' {R : Type} (L N : Nat) (self158 : Tree → Bool → Option (Int)) (k : Int → Option R) (z13 : Int) : Option R :=
  k z13
def f158.p0_e0 {R : Type} (L N : Nat) (self158 : Tree → Bool → Option (Int)) (k : Int → Option R) (z13 : Int) : Option R :=
  f158.p0_e0' L N self158 k z13
def f158.b' {R : Type} (L N : Nat) (self158 : Tree → Bool → Option (Int)) (k : Int → Option R) (w0 : Bool → Int → Int → Int → Int → LT → Option R) (x0 : Tree) (x1 : Bool) : Option R :=
  bif (x0.op == (5 : Int)) then
    k x0.n
  else w0 x1 (-1 : Int) (0 : Int) x0.op x0.n x0.parts
def f158.b {R : Type} (L N : Nat) (self158 : Tree → Bool → Option (Int)) (k : Int → Option R) (x0 : Tree) (x1 : Bool) : Option R :=
  f158.b' L N self158 k (fun s0 s1 s2 s3 s4 s5 => f158.l0 L N self158 (fun z13 => f158.p0_e0 L N self158 k z13) L s0 s1 s2 s3 s4 s5) x0 x1
def f158 (L N : Nat) : Nat → Tree → Bool → Option (Int)
  | 0, _, _ => none
  | n + 1, x0, x1 => f158.b L N (f158 L N n) some x0 x1
def f158.ent (L N m : Nat) (args : List AV) (vw : View) (site : Nat) : Ans := match roD [(.st 1), .bool] vw args with
  | some d => ⟨Int, f158 L N m d.1 d.2.1, fun y => ((.tv i64 y), [], [])⟩
  | none => Ans.no
def Φ158s (L N m : Nat) : Tells := (addT (Φ96 L N) 158 (f158.ent L N m))
noncomputable def E158 (L N m : Nat) : Env := { P := Try.prog, ty := tyOf, Φ := Φ158s L N m, inl := inlT, live := lives, liveX := livesX, L := L, dp := none, prom := promT, heal := healT, ren := renT }
noncomputable def f158.c0 : Code := loopAt 0 (codeOf Try.f158)
theorem f158.s0_pre {R : Type} (L N m : Nat) (κ : Ex → T → H → Option R) (rec : T → H → Option R) (s0 : Bool) (s1 : Int) (s2 : Int) (s3 : Int) (s4 : Int) (s5 : LT) :
    evRd (E158 L N m) (evCallI (E158 L N m) 1 2000) 1000 158 38 0 f158.c0 κ rec (f158.T0 s0 s1 s2 s3 s4 s5) (f158.H0 s0 s1 s2 s3 s4 s5)
    = f158.s0' L N (f158 L N m) (fun z13 => κ (.exit 0) (f158.T0_e0 z13) (f158.H0_e0 z13)) (fun s0 s1 s2 s3 s4 s5 => rec (f158.T0 s0 s1 s2 s3 s4 s5) (f158.H0 s0 s1 s2 s3 s4 s5)) s0 s1 s2 s3 s4 s5 := by kernel_rfl
theorem f158.s0_eq {R : Type} (L N m : Nat) (κ : Ex → T → H → Option R) (rec : T → H → Option R) (s0 : Bool) (s1 : Int) (s2 : Int) (s3 : Int) (s4 : Int) (s5 : LT) :
    evRd (E158 L N m) (evCallI (E158 L N m) 1 2000) 1000 158 38 0 f158.c0 κ rec (f158.T0 s0 s1 s2 s3 s4 s5) (f158.H0 s0 s1 s2 s3 s4 s5)
    = f158.s0 L N (f158 L N m) (fun z13 => κ (.exit 0) (f158.T0_e0 z13) (f158.H0_e0 z13)) (fun s0 s1 s2 s3 s4 s5 => rec (f158.T0 s0 s1 s2 s3 s4 s5) (f158.H0 s0 s1 s2 s3 s4 s5)) s0 s1 s2 s3 s4 s5 := by
  rw [f158.s0_pre]
  unfold f158.s0
  rfl
theorem f158.l0_eq {R : Type} (L N m : Nat) (κ : Ex → T → H → Option R) : ∀ (n : Nat) (s0 : Bool) (s1 : Int) (s2 : Int) (s3 : Int) (s4 : Int) (s5 : LT),
    evLp (E158 L N m) (evCallI (E158 L N m) 1 2000) 1000 158 38 0 f158.c0 κ n (f158.T0 s0 s1 s2 s3 s4 s5) (f158.H0 s0 s1 s2 s3 s4 s5)
    = f158.l0 L N (f158 L N m) (fun z13 => κ (.exit 0) (f158.T0_e0 z13) (f158.H0_e0 z13)) n s0 s1 s2 s3 s4 s5 := by
  intro n
  induction n with
  | zero => intros; rfl
  | succ n ih =>
    intro s0 s1 s2 s3 s4 s5
    rw [evLp_succ, f158.s0_eq]
    simp only [ih]
    rfl
theorem f158.p0_e0_pre {R : Type} (L N m : Nat) (κ : AV → Option R) (z13 : Int) :
    (contAt (E158 L N m) (evCallI (E158 L N m) 1 2000) 1000 158 38 0 (codeOf Try.f158) (finK (E158 L N m) 1000 Try.f158 (finC (.one i64) κ))) (.exit 0) (f158.T0_e0 z13) (f158.H0_e0 z13)
    = f158.p0_e0' L N (f158 L N m) (fun a0 => κ (.tv i64 a0)) z13 := by kernel_rfl
theorem f158.p0_e0_eq {R : Type} (L N m : Nat) (κ : AV → Option R) (z13 : Int) :
    (contAt (E158 L N m) (evCallI (E158 L N m) 1 2000) 1000 158 38 0 (codeOf Try.f158) (finK (E158 L N m) 1000 Try.f158 (finC (.one i64) κ))) (.exit 0) (f158.T0_e0 z13) (f158.H0_e0 z13)
    = f158.p0_e0 L N (f158 L N m) (fun a0 => κ (.tv i64 a0)) z13 := by
  rw [f158.p0_e0_pre]
  unfold f158.p0_e0
  rfl
theorem f158.b_pre {R : Type} (L N m : Nat) (κ : AV → Option R) (x0 : Tree) (x1 : Bool) :
    evBody (E158 L N m) (evCallI (E158 L N m) 1 2000) 1000 158 Try.f158 [(.tv (.st 1) x0), (.tv .bool x1)] [] [] (finC (.one i64) κ)
    = f158.b' L N (f158 L N m) (fun a0 => κ (.tv i64 a0)) (fun s0 s1 s2 s3 s4 s5 => evLp (E158 L N m) (evCallI (E158 L N m) 1 2000) 1000 158 38 0 f158.c0 (contAt (E158 L N m) (evCallI (E158 L N m) 1 2000) 1000 158 38 0 (codeOf Try.f158) (finK (E158 L N m) 1000 Try.f158 (finC (.one i64) κ))) L (f158.T0 s0 s1 s2 s3 s4 s5) (f158.H0 s0 s1 s2 s3 s4 s5)) x0 x1 := by kernel_rfl
theorem f158.b_eq {R : Type} (L N m : Nat) (κ : AV → Option R) (x0 : Tree) (x1 : Bool) :
    evBody (E158 L N m) (evCallI (E158 L N m) 1 2000) 1000 158 Try.f158 [(.tv (.st 1) x0), (.tv .bool x1)] [] [] (finC (.one i64) κ)
    = f158.b L N (f158 L N m) (fun a0 => κ (.tv i64 a0)) x0 x1 := by
  rw [f158.b_pre]
  unfold f158.b
  simp only [f158.l0_eq, f158.p0_e0_eq]
theorem f158.j0'_nat {R R' : Type} (j : R → Option R') (L N : Nat) (self158 : Tree → Bool → Option (Int)) (k0_e0 : Int → Option R) (rec0 : Bool → Int → Int → Int → Int → LT → Option R) (v14 : Bool) (v15 : Int) (v16 : Int) (v17 : Int) (v18 : Int) (v19 : LT) :
    f158.j0' L N self158 (fun a0 => (k0_e0 a0).bind j) (fun a0 a1 a2 a3 a4 a5 => (rec0 a0 a1 a2 a3 a4 a5).bind j) v14 v15 v16 v17 v18 v19 = (f158.j0' L N self158 k0_e0 rec0 v14 v15 v16 v17 v18 v19).bind j := by
  unfold f158.j0'
  repeat' (first | (with_reducible refine cond_nat ?_ ?_) | (with_reducible refine bind_nat fun _ => ?_) | rfl)
theorem f158.s0'_nat {R R' : Type} (j : R → Option R') (L N : Nat) (self158 : Tree → Bool → Option (Int)) (k0_e0 : Int → Option R) (rec0 : Bool → Int → Int → Int → Int → LT → Option R) (s0 : Bool) (s1 : Int) (s2 : Int) (s3 : Int) (s4 : Int) (s5 : LT) :
    f158.s0' L N self158 (fun a0 => (k0_e0 a0).bind j) (fun a0 a1 a2 a3 a4 a5 => (rec0 a0 a1 a2 a3 a4 a5).bind j) s0 s1 s2 s3 s4 s5 = (f158.s0' L N self158 k0_e0 rec0 s0 s1 s2 s3 s4 s5).bind j := by
  unfold f158.s0'
  repeat' (first | (with_reducible refine cond_nat ?_ ?_) | (with_reducible refine bind_nat fun _ => ?_) | exact f158.j0'_nat .. | rfl)
theorem f158.s0_nat {R R' : Type} (j : R → Option R') (L N : Nat) (self158 : Tree → Bool → Option (Int)) (k0_e0 : Int → Option R) (rec0 : Bool → Int → Int → Int → Int → LT → Option R) (s0 : Bool) (s1 : Int) (s2 : Int) (s3 : Int) (s4 : Int) (s5 : LT) :
    f158.s0 L N self158 (fun a0 => (k0_e0 a0).bind j) (fun a0 a1 a2 a3 a4 a5 => (rec0 a0 a1 a2 a3 a4 a5).bind j) s0 s1 s2 s3 s4 s5 = (f158.s0 L N self158 k0_e0 rec0 s0 s1 s2 s3 s4 s5).bind j := by
  unfold f158.s0
  exact f158.s0'_nat ..
theorem f158.l0_nat {R R' : Type} (j : R → Option R') (L N : Nat) (self158 : Tree → Bool → Option (Int)) (k0_e0 : Int → Option R) : ∀ (n : Nat) (s0 : Bool) (s1 : Int) (s2 : Int) (s3 : Int) (s4 : Int) (s5 : LT),
    f158.l0 L N self158 (fun a0 => (k0_e0 a0).bind j) n s0 s1 s2 s3 s4 s5 = (f158.l0 L N self158 k0_e0 n s0 s1 s2 s3 s4 s5).bind j := by
  intro n
  induction n with
  | zero => intros; rfl
  | succ n ih =>
    intro s0 s1 s2 s3 s4 s5
    show f158.s0 L N self158 (fun a0 => (k0_e0 a0).bind j) (f158.l0 L N self158 (fun a0 => (k0_e0 a0).bind j) n) s0 s1 s2 s3 s4 s5 = _
    rw [show f158.l0 L N self158 (fun a0 => (k0_e0 a0).bind j) n = (fun s0 s1 s2 s3 s4 s5 => (f158.l0 L N self158 k0_e0 n s0 s1 s2 s3 s4 s5).bind j) from funext fun s0 => funext fun s1 => funext fun s2 => funext fun s3 => funext fun s4 => funext fun s5 => ih s0 s1 s2 s3 s4 s5]
    exact f158.s0_nat ..
theorem f158.p0_e0'_nat {R R' : Type} (j : R → Option R') (L N : Nat) (self158 : Tree → Bool → Option (Int)) (k : Int → Option R) (z13 : Int) :
    f158.p0_e0' L N self158 (fun a0 => (k a0).bind j) z13 = (f158.p0_e0' L N self158 k z13).bind j := by
  unfold f158.p0_e0'
  repeat' (first | (with_reducible refine cond_nat ?_ ?_) | (with_reducible refine bind_nat fun _ => ?_) | rfl)
theorem f158.p0_e0_nat {R R' : Type} (j : R → Option R') (L N : Nat) (self158 : Tree → Bool → Option (Int)) (k : Int → Option R) (z13 : Int) :
    f158.p0_e0 L N self158 (fun a0 => (k a0).bind j) z13 = (f158.p0_e0 L N self158 k z13).bind j := by
  unfold f158.p0_e0
  exact f158.p0_e0'_nat ..
theorem f158.b'_nat {R R' : Type} (j : R → Option R') (L N : Nat) (self158 : Tree → Bool → Option (Int)) (k : Int → Option R) (w0 : Bool → Int → Int → Int → Int → LT → Option R) (x0 : Tree) (x1 : Bool) :
    f158.b' L N self158 (fun a0 => (k a0).bind j) (fun a0 a1 a2 a3 a4 a5 => (w0 a0 a1 a2 a3 a4 a5).bind j) x0 x1 = (f158.b' L N self158 k w0 x0 x1).bind j := by
  unfold f158.b'
  repeat' (first | (with_reducible refine cond_nat ?_ ?_) | (with_reducible refine bind_nat fun _ => ?_) | rfl)
theorem f158.b_nat {R R' : Type} (j : R → Option R') (L N : Nat) (self158 : Tree → Bool → Option (Int)) (k : Int → Option R) (x0 : Tree) (x1 : Bool) :
    f158.b L N self158 (fun a0 => (k a0).bind j) x0 x1 = (f158.b L N self158 k x0 x1).bind j := by
  unfold f158.b
  simp only [f158.l0_nat, f158.p0_e0_nat]
  exact f158.b'_nat ..
theorem f158.ok (L N m : Nat) (hΦ : TellsOk Try.prog (Φ158s L N m)) : EntOk Try.prog 158 (f158.ent L N (m + 1)) := by
  intro args vw site h
  unfold f158.ent
  split
  · rename_i d ha
    intro y hy hs
    refine call_ro (dep := 1000) (E := (E158 L N m)) (rs := (.one i64)) (v := (.tv i64 y)) (sound_of hΦ) okP (callI_sound (sound_of hΦ) okP 1 2000) (f := Try.f158) rfl hs ha ?_ rfl site
    refine (f158.b_eq L N m some d.1 d.2.1).trans ?_
    refine ((f158.b_nat (fun y => (some (.tv i64 y) : Option AV)) L N (f158 L N m) some d.1 d.2.1)).trans ?_
    rw [show f158.b L N (f158 L N m) some d.1 d.2.1 = some y from hy]
    rfl
  · intro y hy
    cases hy
theorem Φ158s_ok (L N : Nat) : ∀ m, TellsOk Try.prog (Φ158s L N m) := by
  intro m
  induction m with
  | zero => exact (addT_ok (Φ96_ok L N) (fun args vw site h => by unfold f158.ent; split <;> (intro y hy; cases hy)))
  | succ m ih => exact (addT_ok (Φ96_ok L N) (f158.ok L N m ih))
def Φ158 (L N : Nat) : Tells := (addT (Φ96 L N) 158 (f158.ent L N N))
theorem Φ158_ok (L N : Nat) : TellsOk Try.prog (Φ158 L N) := Φ158s_ok L N N
def f97.b' {R : Type} (L N : Nat) (k : Bool → Option R) (x0 : Int) : Option R :=
  (f96 L N x0 (-4 : Int) (4 : Int)).bind fun y0 =>
  k y0
def f97.b {R : Type} (L N : Nat) (k : Bool → Option R) (x0 : Int) : Option R :=
  f97.b' L N k x0
def f97 (L N : Nat) (x0 : Int) : Option (Bool) := f97.b L N some x0
def f97.ent (L N : Nat) (args : List AV) (vw : View) (site : Nat) : Ans := match roD [i64] vw args with
  | some d => ⟨Bool, f97 L N d.1, fun y => ((.tv .bool y), [], [])⟩
  | none => Ans.no
noncomputable def E97 (L N : Nat) : Env := { P := Try.prog, ty := tyOf, Φ := (Φ158 L N), inl := inlT, live := lives, liveX := livesX, L := L, dp := none, prom := promT, heal := healT, ren := renT }
theorem f97.b_pre {R : Type} (L N : Nat) (κ : AV → Option R) (x0 : Int) :
    evBody (E97 L N) (evCallI (E97 L N) 1 2000) 1000 97 Try.f97 [(.tv i64 x0)] [] [] (finC (.one .bool) κ)
    = f97.b' L N (fun a0 => κ (.tv .bool a0)) x0 := by kernel_rfl
theorem f97.b_eq {R : Type} (L N : Nat) (κ : AV → Option R) (x0 : Int) :
    evBody (E97 L N) (evCallI (E97 L N) 1 2000) 1000 97 Try.f97 [(.tv i64 x0)] [] [] (finC (.one .bool) κ)
    = f97.b L N (fun a0 => κ (.tv .bool a0)) x0 := by
  rw [f97.b_pre]
  unfold f97.b
  rfl
theorem f97.b'_nat {R R' : Type} (j : R → Option R') (L N : Nat) (k : Bool → Option R) (x0 : Int) :
    f97.b' L N (fun a0 => (k a0).bind j) x0 = (f97.b' L N k x0).bind j := by
  unfold f97.b'
  repeat' (first | (with_reducible refine cond_nat ?_ ?_) | (with_reducible refine bind_nat fun _ => ?_) | rfl)
theorem f97.b_nat {R R' : Type} (j : R → Option R') (L N : Nat) (k : Bool → Option R) (x0 : Int) :
    f97.b L N (fun a0 => (k a0).bind j) x0 = (f97.b L N k x0).bind j := by
  unfold f97.b
  exact f97.b'_nat ..
theorem f97.ok (L N : Nat) (hΦ : TellsOk Try.prog ((Φ158 L N))) : EntOk Try.prog 97 (f97.ent L N) := by
  intro args vw site h
  unfold f97.ent
  split
  · rename_i d ha
    intro y hy hs
    refine call_ro (dep := 1000) (E := (E97 L N)) (rs := (.one .bool)) (v := (.tv .bool y)) (sound_of hΦ) okP (callI_sound (sound_of hΦ) okP 1 2000) (f := Try.f97) rfl hs ha ?_ rfl site
    refine (f97.b_eq L N some d.1).trans ?_
    refine ((f97.b_nat (fun y => (some (.tv .bool y) : Option AV)) L N some d.1)).trans ?_
    rw [show f97.b L N some d.1 = some y from hy]
    rfl
  · intro y hy
    cases hy
def Φ97 (L N : Nat) : Tells := (addT (Φ158 L N) 97 (f97.ent L N))
theorem Φ97_ok (L N : Nat) : TellsOk Try.prog (Φ97 L N) := addT_ok (Φ158_ok L N) (f97.ok L N (Φ158_ok L N))
def f152.s0' {R : Type} (L N : Nat) (self152 : Tree → Option (Int)) (k0_e1 : Int → Option R) (k0_r : Int → Int → Option R) (rec0 : Int → Int → Int → Int → Int → LT → Option R) (s24 : Int) (s25 : Int) (s26 : Int) (s27 : Int) (s28 : Int) (s29 : LT) : Option R :=
  bif (decide (s26 < s24)) then
    bif (decide (0 ≤ s26) && decide (s26 < (s29.length : Int))) then
      (self152 (listAt s29 (Ty.dflt (.st 1)) s26.toNat)).bind fun y31 =>
      bif (y31 == (0 : Int)) then
        k0_r (0 : Int) s25
      else rec0 s24 (bif decide ((wi (s25 + y31)) < (1000 : Int)) then (wi (s25 + y31)) else (1000 : Int)) (wi (s26 + (1 : Int))) s27 s28 s29
    else none
  else k0_e1 s25
def f152.s0 {R : Type} (L N : Nat) (self152 : Tree → Option (Int)) (k0_e1 : Int → Option R) (k0_r : Int → Int → Option R) (rec0 : Int → Int → Int → Int → Int → LT → Option R) (s24 : Int) (s25 : Int) (s26 : Int) (s27 : Int) (s28 : Int) (s29 : LT) : Option R :=
  f152.s0' L N self152 k0_e1 k0_r rec0 s24 s25 s26 s27 s28 s29
def f152.l0 {R : Type} (L N : Nat) (self152 : Tree → Option (Int)) (k0_e1 : Int → Option R) (k0_r : Int → Int → Option R) : Nat → Int → Int → Int → Int → Int → LT → Option R
  | 0, _, _, _, _, _, _ => none
  | n + 1, s24, s25, s26, s27, s28, s29 => f152.s0 L N self152 k0_e1 k0_r (f152.l0 L N self152 k0_e1 k0_r n) s24 s25 s26 s27 s28 s29
def f152.T0 (s24 : Int) (s25 : Int) (s26 : Int) (s27 : Int) (s28 : Int) (s29 : LT) : T := mkT 60 [(1, (.ptr 1001 0)), (3, (.tv i64 s24)), (5, (.tv i64 s25)), (6, (.tv i64 s26))]
def f152.H0 (s24 : Int) (s25 : Int) (s26 : Int) (s27 : Int) (s28 : Int) (s29 : LT) : H := [(1001, (.box [(.tv i64 s27), (.tv i64 s28), (.tv (.sl (.st 1)) s29)]))]
def f152.T0_e1 (z30 : Int) : T := mkT 60 [(5, (.tv i64 z30))]
def f152.H0_e1 (z30 : Int) : H := []
def f152.T0_r (z32 : Int) (z33 : Int) : T := mkT 60 [(2, (.tv i64 z32)), (5, (.tv i64 z33))]
def f152.H0_r (z32 : Int) (z33 : Int) : H := []
def f152.p0_e1' {R : Type} (L N : Nat) (self152 : Tree → Option (Int)) (k : Int → Option R) (z30 : Int) : Option R :=
  k z30
def f152.p0_e1 {R : Type} (L N : Nat) (self152 : Tree → Option (Int)) (k : Int → Option R) (z30 : Int) : Option R :=
  f152.p0_e1' L N self152 k z30
def f152.p0_r' {R : Type} (L N : Nat) (self152 : Tree → Option (Int)) (k : Int → Option R) (z32 : Int) (z33 : Int) : Option R :=
  k z32
def f152.p0_r {R : Type} (L N : Nat) (self152 : Tree → Option (Int)) (k : Int → Option R) (z32 : Int) (z33 : Int) : Option R :=
  f152.p0_r' L N self152 k z32 z33
def f152.j1' {R : Type} (L N : Nat) (self152 : Tree → Option (Int)) (k : Int → Option R) (w0 : Int → Int → Int → Int → Int → LT → Option R) (v20 : Int) (v21 : Int) (v22 : Int) (v23 : LT) : Option R :=
  w0 v20 (1 : Int) (0 : Int) v21 v22 v23
def f152.j2' {R : Type} (L N : Nat) (self152 : Tree → Option (Int)) (k : Int → Option R) (w0 : Int → Int → Int → Int → Int → LT → Option R) (v10 : Int) (v11 : Bool) (v12 : Int) (v13 : Int) (v14 : LT) : Option R :=
  bif (!v11) then
    k (0 : Int)
  else bif ((v14.length : Int) != v10) then
    k (0 : Int)
  else f152.j1' L N self152 k w0 v10 v12 v13 v14
def f152.j0' {R : Type} (L N : Nat) (self152 : Tree → Option (Int)) (k : Int → Option R) (w0 : Int → Int → Int → Int → Int → LT → Option R) (v1 : Int) (v2 : Bool) (v3 : Int) (v4 : Bool) (v5 : Int) (v6 : Int) (v7 : LT) : Option R :=
  bif v4 then
    f152.j2' L N self152 k w0 (2 : Int) v2 v5 v6 v7
  else bif (v3 == (4 : Int)) then
    (f96 L N v6 (0 : Int) (3 : Int)).bind fun y8 =>
    f152.j2' L N self152 k w0 (1 : Int) y8 v5 v6 v7
  else bif (v3 == (5 : Int)) then
    (f96 L N v6 (0 : Int) (2 : Int)).bind fun y9 =>
    f152.j2' L N self152 k w0 v1 y9 v5 v6 v7
  else f152.j2' L N self152 k w0 v1 false v5 v6 v7
def f152.b' {R : Type} (L N : Nat) (self152 : Tree → Option (Int)) (k : Int → Option R) (w0 : Int → Int → Int → Int → Int → LT → Option R) (x0 : Tree) : Option R :=
  bif (x0.op == (0 : Int)) then
    f152.j2' L N self152 k w0 (0 : Int) (x0.n == (0 : Int)) x0.op x0.n x0.parts
  else bif (x0.op == (1 : Int)) then
    (f97 L N x0.n).bind fun y0 =>
    f152.j2' L N self152 k w0 (1 : Int) y0 x0.op x0.n x0.parts
  else bif (x0.op == (2 : Int)) then
    f152.j0' L N self152 k w0 (0 : Int) (x0.n == (0 : Int)) x0.op (x0.op == (2 : Int)) x0.op x0.n x0.parts
  else f152.j0' L N self152 k w0 (0 : Int) (x0.n == (0 : Int)) x0.op (x0.op == (3 : Int)) x0.op x0.n x0.parts
def f152.b {R : Type} (L N : Nat) (self152 : Tree → Option (Int)) (k : Int → Option R) (x0 : Tree) : Option R :=
  f152.b' L N self152 k (fun s24 s25 s26 s27 s28 s29 => f152.l0 L N self152 (fun z30 => f152.p0_e1 L N self152 k z30) (fun z32 z33 => f152.p0_r L N self152 k z32 z33) L s24 s25 s26 s27 s28 s29) x0
def f152 (L N : Nat) : Nat → Tree → Option (Int)
  | 0, _ => none
  | n + 1, x0 => f152.b L N (f152 L N n) some x0
def f152.ent (L N m : Nat) (args : List AV) (vw : View) (site : Nat) : Ans := match roD [(.st 1)] vw args with
  | some d => ⟨Int, f152 L N m d.1, fun y => ((.tv i64 y), [], [])⟩
  | none => Ans.no
def Φ152s (L N m : Nat) : Tells := (addT (Φ97 L N) 152 (f152.ent L N m))
noncomputable def E152 (L N m : Nat) : Env := { P := Try.prog, ty := tyOf, Φ := Φ152s L N m, inl := inlT, live := lives, liveX := livesX, L := L, dp := none, prom := promT, heal := healT, ren := renT }
noncomputable def f152.c0 : Code := loopAt 1 (codeOf Try.f152)
theorem f152.s0_pre {R : Type} (L N m : Nat) (κ : Ex → T → H → Option R) (rec : T → H → Option R) (s24 : Int) (s25 : Int) (s26 : Int) (s27 : Int) (s28 : Int) (s29 : LT) :
    evRd (E152 L N m) (evCallI (E152 L N m) 1 2000) 1000 152 60 1 f152.c0 κ rec (f152.T0 s24 s25 s26 s27 s28 s29) (f152.H0 s24 s25 s26 s27 s28 s29)
    = f152.s0' L N (f152 L N m) (fun z30 => κ (.exit 1) (f152.T0_e1 z30) (f152.H0_e1 z30)) (fun z32 z33 => κ .ret (f152.T0_r z32 z33) (f152.H0_r z32 z33)) (fun s24 s25 s26 s27 s28 s29 => rec (f152.T0 s24 s25 s26 s27 s28 s29) (f152.H0 s24 s25 s26 s27 s28 s29)) s24 s25 s26 s27 s28 s29 := by kernel_rfl
theorem f152.s0_eq {R : Type} (L N m : Nat) (κ : Ex → T → H → Option R) (rec : T → H → Option R) (s24 : Int) (s25 : Int) (s26 : Int) (s27 : Int) (s28 : Int) (s29 : LT) :
    evRd (E152 L N m) (evCallI (E152 L N m) 1 2000) 1000 152 60 1 f152.c0 κ rec (f152.T0 s24 s25 s26 s27 s28 s29) (f152.H0 s24 s25 s26 s27 s28 s29)
    = f152.s0 L N (f152 L N m) (fun z30 => κ (.exit 1) (f152.T0_e1 z30) (f152.H0_e1 z30)) (fun z32 z33 => κ .ret (f152.T0_r z32 z33) (f152.H0_r z32 z33)) (fun s24 s25 s26 s27 s28 s29 => rec (f152.T0 s24 s25 s26 s27 s28 s29) (f152.H0 s24 s25 s26 s27 s28 s29)) s24 s25 s26 s27 s28 s29 := by
  rw [f152.s0_pre]
  unfold f152.s0
  rfl
theorem f152.l0_eq {R : Type} (L N m : Nat) (κ : Ex → T → H → Option R) : ∀ (n : Nat) (s24 : Int) (s25 : Int) (s26 : Int) (s27 : Int) (s28 : Int) (s29 : LT),
    evLp (E152 L N m) (evCallI (E152 L N m) 1 2000) 1000 152 60 1 f152.c0 κ n (f152.T0 s24 s25 s26 s27 s28 s29) (f152.H0 s24 s25 s26 s27 s28 s29)
    = f152.l0 L N (f152 L N m) (fun z30 => κ (.exit 1) (f152.T0_e1 z30) (f152.H0_e1 z30)) (fun z32 z33 => κ .ret (f152.T0_r z32 z33) (f152.H0_r z32 z33)) n s24 s25 s26 s27 s28 s29 := by
  intro n
  induction n with
  | zero => intros; rfl
  | succ n ih =>
    intro s24 s25 s26 s27 s28 s29
    rw [evLp_succ, f152.s0_eq]
    simp only [ih]
    rfl
theorem f152.p0_e1_pre {R : Type} (L N m : Nat) (κ : AV → Option R) (z30 : Int) :
    (contAt (E152 L N m) (evCallI (E152 L N m) 1 2000) 1000 152 60 1 (codeOf Try.f152) (finK (E152 L N m) 1000 Try.f152 (finC (.one i64) κ))) (.exit 1) (f152.T0_e1 z30) (f152.H0_e1 z30)
    = f152.p0_e1' L N (f152 L N m) (fun a0 => κ (.tv i64 a0)) z30 := by kernel_rfl
theorem f152.p0_e1_eq {R : Type} (L N m : Nat) (κ : AV → Option R) (z30 : Int) :
    (contAt (E152 L N m) (evCallI (E152 L N m) 1 2000) 1000 152 60 1 (codeOf Try.f152) (finK (E152 L N m) 1000 Try.f152 (finC (.one i64) κ))) (.exit 1) (f152.T0_e1 z30) (f152.H0_e1 z30)
    = f152.p0_e1 L N (f152 L N m) (fun a0 => κ (.tv i64 a0)) z30 := by
  rw [f152.p0_e1_pre]
  unfold f152.p0_e1
  rfl
theorem f152.p0_r_pre {R : Type} (L N m : Nat) (κ : AV → Option R) (z32 : Int) (z33 : Int) :
    (contAt (E152 L N m) (evCallI (E152 L N m) 1 2000) 1000 152 60 1 (codeOf Try.f152) (finK (E152 L N m) 1000 Try.f152 (finC (.one i64) κ))) .ret (f152.T0_r z32 z33) (f152.H0_r z32 z33)
    = f152.p0_r' L N (f152 L N m) (fun a0 => κ (.tv i64 a0)) z32 z33 := by kernel_rfl
theorem f152.p0_r_eq {R : Type} (L N m : Nat) (κ : AV → Option R) (z32 : Int) (z33 : Int) :
    (contAt (E152 L N m) (evCallI (E152 L N m) 1 2000) 1000 152 60 1 (codeOf Try.f152) (finK (E152 L N m) 1000 Try.f152 (finC (.one i64) κ))) .ret (f152.T0_r z32 z33) (f152.H0_r z32 z33)
    = f152.p0_r L N (f152 L N m) (fun a0 => κ (.tv i64 a0)) z32 z33 := by
  rw [f152.p0_r_pre]
  unfold f152.p0_r
  rfl
theorem f152.b_pre {R : Type} (L N m : Nat) (κ : AV → Option R) (x0 : Tree) :
    evBody (E152 L N m) (evCallI (E152 L N m) 1 2000) 1000 152 Try.f152 [(.tv (.st 1) x0)] [] [] (finC (.one i64) κ)
    = f152.b' L N (f152 L N m) (fun a0 => κ (.tv i64 a0)) (fun s24 s25 s26 s27 s28 s29 => evLp (E152 L N m) (evCallI (E152 L N m) 1 2000) 1000 152 60 1 f152.c0 (contAt (E152 L N m) (evCallI (E152 L N m) 1 2000) 1000 152 60 1 (codeOf Try.f152) (finK (E152 L N m) 1000 Try.f152 (finC (.one i64) κ))) L (f152.T0 s24 s25 s26 s27 s28 s29) (f152.H0 s24 s25 s26 s27 s28 s29)) x0 := by kernel_rfl
theorem f152.b_eq {R : Type} (L N m : Nat) (κ : AV → Option R) (x0 : Tree) :
    evBody (E152 L N m) (evCallI (E152 L N m) 1 2000) 1000 152 Try.f152 [(.tv (.st 1) x0)] [] [] (finC (.one i64) κ)
    = f152.b L N (f152 L N m) (fun a0 => κ (.tv i64 a0)) x0 := by
  rw [f152.b_pre]
  unfold f152.b
  simp only [f152.l0_eq, f152.p0_e1_eq, f152.p0_r_eq]
theorem f152.s0'_nat {R R' : Type} (j : R → Option R') (L N : Nat) (self152 : Tree → Option (Int)) (k0_e1 : Int → Option R) (k0_r : Int → Int → Option R) (rec0 : Int → Int → Int → Int → Int → LT → Option R) (s24 : Int) (s25 : Int) (s26 : Int) (s27 : Int) (s28 : Int) (s29 : LT) :
    f152.s0' L N self152 (fun a0 => (k0_e1 a0).bind j) (fun a0 a1 => (k0_r a0 a1).bind j) (fun a0 a1 a2 a3 a4 a5 => (rec0 a0 a1 a2 a3 a4 a5).bind j) s24 s25 s26 s27 s28 s29 = (f152.s0' L N self152 k0_e1 k0_r rec0 s24 s25 s26 s27 s28 s29).bind j := by
  unfold f152.s0'
  repeat' (first | (with_reducible refine cond_nat ?_ ?_) | (with_reducible refine bind_nat fun _ => ?_) | rfl)
theorem f152.s0_nat {R R' : Type} (j : R → Option R') (L N : Nat) (self152 : Tree → Option (Int)) (k0_e1 : Int → Option R) (k0_r : Int → Int → Option R) (rec0 : Int → Int → Int → Int → Int → LT → Option R) (s24 : Int) (s25 : Int) (s26 : Int) (s27 : Int) (s28 : Int) (s29 : LT) :
    f152.s0 L N self152 (fun a0 => (k0_e1 a0).bind j) (fun a0 a1 => (k0_r a0 a1).bind j) (fun a0 a1 a2 a3 a4 a5 => (rec0 a0 a1 a2 a3 a4 a5).bind j) s24 s25 s26 s27 s28 s29 = (f152.s0 L N self152 k0_e1 k0_r rec0 s24 s25 s26 s27 s28 s29).bind j := by
  unfold f152.s0
  exact f152.s0'_nat ..
theorem f152.l0_nat {R R' : Type} (j : R → Option R') (L N : Nat) (self152 : Tree → Option (Int)) (k0_e1 : Int → Option R) (k0_r : Int → Int → Option R) : ∀ (n : Nat) (s24 : Int) (s25 : Int) (s26 : Int) (s27 : Int) (s28 : Int) (s29 : LT),
    f152.l0 L N self152 (fun a0 => (k0_e1 a0).bind j) (fun a0 a1 => (k0_r a0 a1).bind j) n s24 s25 s26 s27 s28 s29 = (f152.l0 L N self152 k0_e1 k0_r n s24 s25 s26 s27 s28 s29).bind j := by
  intro n
  induction n with
  | zero => intros; rfl
  | succ n ih =>
    intro s24 s25 s26 s27 s28 s29
    show f152.s0 L N self152 (fun a0 => (k0_e1 a0).bind j) (fun a0 a1 => (k0_r a0 a1).bind j) (f152.l0 L N self152 (fun a0 => (k0_e1 a0).bind j) (fun a0 a1 => (k0_r a0 a1).bind j) n) s24 s25 s26 s27 s28 s29 = _
    rw [show f152.l0 L N self152 (fun a0 => (k0_e1 a0).bind j) (fun a0 a1 => (k0_r a0 a1).bind j) n = (fun s24 s25 s26 s27 s28 s29 => (f152.l0 L N self152 k0_e1 k0_r n s24 s25 s26 s27 s28 s29).bind j) from funext fun s24 => funext fun s25 => funext fun s26 => funext fun s27 => funext fun s28 => funext fun s29 => ih s24 s25 s26 s27 s28 s29]
    exact f152.s0_nat ..
theorem f152.p0_e1'_nat {R R' : Type} (j : R → Option R') (L N : Nat) (self152 : Tree → Option (Int)) (k : Int → Option R) (z30 : Int) :
    f152.p0_e1' L N self152 (fun a0 => (k a0).bind j) z30 = (f152.p0_e1' L N self152 k z30).bind j := by
  unfold f152.p0_e1'
  repeat' (first | (with_reducible refine cond_nat ?_ ?_) | (with_reducible refine bind_nat fun _ => ?_) | rfl)
theorem f152.p0_e1_nat {R R' : Type} (j : R → Option R') (L N : Nat) (self152 : Tree → Option (Int)) (k : Int → Option R) (z30 : Int) :
    f152.p0_e1 L N self152 (fun a0 => (k a0).bind j) z30 = (f152.p0_e1 L N self152 k z30).bind j := by
  unfold f152.p0_e1
  exact f152.p0_e1'_nat ..
theorem f152.p0_r'_nat {R R' : Type} (j : R → Option R') (L N : Nat) (self152 : Tree → Option (Int)) (k : Int → Option R) (z32 : Int) (z33 : Int) :
    f152.p0_r' L N self152 (fun a0 => (k a0).bind j) z32 z33 = (f152.p0_r' L N self152 k z32 z33).bind j := by
  unfold f152.p0_r'
  repeat' (first | (with_reducible refine cond_nat ?_ ?_) | (with_reducible refine bind_nat fun _ => ?_) | rfl)
theorem f152.p0_r_nat {R R' : Type} (j : R → Option R') (L N : Nat) (self152 : Tree → Option (Int)) (k : Int → Option R) (z32 : Int) (z33 : Int) :
    f152.p0_r L N self152 (fun a0 => (k a0).bind j) z32 z33 = (f152.p0_r L N self152 k z32 z33).bind j := by
  unfold f152.p0_r
  exact f152.p0_r'_nat ..
theorem f152.j1'_nat {R R' : Type} (j : R → Option R') (L N : Nat) (self152 : Tree → Option (Int)) (k : Int → Option R) (w0 : Int → Int → Int → Int → Int → LT → Option R) (v20 : Int) (v21 : Int) (v22 : Int) (v23 : LT) :
    f152.j1' L N self152 (fun a0 => (k a0).bind j) (fun a0 a1 a2 a3 a4 a5 => (w0 a0 a1 a2 a3 a4 a5).bind j) v20 v21 v22 v23 = (f152.j1' L N self152 k w0 v20 v21 v22 v23).bind j := by
  unfold f152.j1'
  repeat' (first | (with_reducible refine cond_nat ?_ ?_) | (with_reducible refine bind_nat fun _ => ?_) | rfl)
theorem f152.j2'_nat {R R' : Type} (j : R → Option R') (L N : Nat) (self152 : Tree → Option (Int)) (k : Int → Option R) (w0 : Int → Int → Int → Int → Int → LT → Option R) (v10 : Int) (v11 : Bool) (v12 : Int) (v13 : Int) (v14 : LT) :
    f152.j2' L N self152 (fun a0 => (k a0).bind j) (fun a0 a1 a2 a3 a4 a5 => (w0 a0 a1 a2 a3 a4 a5).bind j) v10 v11 v12 v13 v14 = (f152.j2' L N self152 k w0 v10 v11 v12 v13 v14).bind j := by
  unfold f152.j2'
  repeat' (first | (with_reducible refine cond_nat ?_ ?_) | (with_reducible refine bind_nat fun _ => ?_) | exact f152.j1'_nat .. | rfl)
theorem f152.j0'_nat {R R' : Type} (j : R → Option R') (L N : Nat) (self152 : Tree → Option (Int)) (k : Int → Option R) (w0 : Int → Int → Int → Int → Int → LT → Option R) (v1 : Int) (v2 : Bool) (v3 : Int) (v4 : Bool) (v5 : Int) (v6 : Int) (v7 : LT) :
    f152.j0' L N self152 (fun a0 => (k a0).bind j) (fun a0 a1 a2 a3 a4 a5 => (w0 a0 a1 a2 a3 a4 a5).bind j) v1 v2 v3 v4 v5 v6 v7 = (f152.j0' L N self152 k w0 v1 v2 v3 v4 v5 v6 v7).bind j := by
  unfold f152.j0'
  repeat' (first | (with_reducible refine cond_nat ?_ ?_) | (with_reducible refine bind_nat fun _ => ?_) | exact f152.j1'_nat .. | exact f152.j2'_nat .. | rfl)
theorem f152.b'_nat {R R' : Type} (j : R → Option R') (L N : Nat) (self152 : Tree → Option (Int)) (k : Int → Option R) (w0 : Int → Int → Int → Int → Int → LT → Option R) (x0 : Tree) :
    f152.b' L N self152 (fun a0 => (k a0).bind j) (fun a0 a1 a2 a3 a4 a5 => (w0 a0 a1 a2 a3 a4 a5).bind j) x0 = (f152.b' L N self152 k w0 x0).bind j := by
  unfold f152.b'
  repeat' (first | (with_reducible refine cond_nat ?_ ?_) | (with_reducible refine bind_nat fun _ => ?_) | exact f152.j1'_nat .. | exact f152.j2'_nat .. | exact f152.j0'_nat .. | rfl)
theorem f152.b_nat {R R' : Type} (j : R → Option R') (L N : Nat) (self152 : Tree → Option (Int)) (k : Int → Option R) (x0 : Tree) :
    f152.b L N self152 (fun a0 => (k a0).bind j) x0 = (f152.b L N self152 k x0).bind j := by
  unfold f152.b
  simp only [f152.l0_nat, f152.p0_e1_nat, f152.p0_r_nat]
  exact f152.b'_nat ..
theorem f152.ok (L N m : Nat) (hΦ : TellsOk Try.prog (Φ152s L N m)) : EntOk Try.prog 152 (f152.ent L N (m + 1)) := by
  intro args vw site h
  unfold f152.ent
  split
  · rename_i d ha
    intro y hy hs
    refine call_ro (dep := 1000) (E := (E152 L N m)) (rs := (.one i64)) (v := (.tv i64 y)) (sound_of hΦ) okP (callI_sound (sound_of hΦ) okP 1 2000) (f := Try.f152) rfl hs ha ?_ rfl site
    refine (f152.b_eq L N m some d.1).trans ?_
    refine ((f152.b_nat (fun y => (some (.tv i64 y) : Option AV)) L N (f152 L N m) some d.1)).trans ?_
    rw [show f152.b L N (f152 L N m) some d.1 = some y from hy]
    rfl
  · intro y hy
    cases hy
theorem Φ152s_ok (L N : Nat) : ∀ m, TellsOk Try.prog (Φ152s L N m) := by
  intro m
  induction m with
  | zero => exact (addT_ok (Φ97_ok L N) (fun args vw site h => by unfold f152.ent; split <;> (intro y hy; cases hy)))
  | succ m ih => exact (addT_ok (Φ97_ok L N) (f152.ok L N m ih))
def Φ152 (L N : Nat) : Tells := (addT (Φ97 L N) 152 (f152.ent L N N))
theorem Φ152_ok (L N : Nat) : TellsOk Try.prog (Φ152 L N) := Φ152s_ok L N N
def f159.b' {R : Type} (L N : Nat) (k : Bool → Option R) (x0 : Tree) : Option R :=
  (f152 L N N (Tree.mk x0.op x0.n x0.parts)).bind fun y0 =>
  (f96 L N y0 (1 : Int) (24 : Int)).bind fun y1 =>
  k y1
def f159.b {R : Type} (L N : Nat) (k : Bool → Option R) (x0 : Tree) : Option R :=
  f159.b' L N k x0
def f159 (L N : Nat) (x0 : Tree) : Option (Bool) := f159.b L N some x0
def f159.ent (L N : Nat) (args : List AV) (vw : View) (site : Nat) : Ans := match roD [(.st 1)] vw args with
  | some d => ⟨Bool, f159 L N d.1, fun y => ((.tv .bool y), [], [])⟩
  | none => Ans.no
noncomputable def E159 (L N : Nat) : Env := { P := Try.prog, ty := tyOf, Φ := (Φ152 L N), inl := inlT, live := lives, liveX := livesX, L := L, dp := none, prom := promT, heal := healT, ren := renT }
theorem f159.b_pre {R : Type} (L N : Nat) (κ : AV → Option R) (x0 : Tree) :
    evBody (E159 L N) (evCallI (E159 L N) 1 2000) 1000 159 Try.f159 [(.tv (.st 1) x0)] [] [] (finC (.one .bool) κ)
    = f159.b' L N (fun a0 => κ (.tv .bool a0)) x0 := by kernel_rfl
theorem f159.b_eq {R : Type} (L N : Nat) (κ : AV → Option R) (x0 : Tree) :
    evBody (E159 L N) (evCallI (E159 L N) 1 2000) 1000 159 Try.f159 [(.tv (.st 1) x0)] [] [] (finC (.one .bool) κ)
    = f159.b L N (fun a0 => κ (.tv .bool a0)) x0 := by
  rw [f159.b_pre]
  unfold f159.b
  rfl
theorem f159.b'_nat {R R' : Type} (j : R → Option R') (L N : Nat) (k : Bool → Option R) (x0 : Tree) :
    f159.b' L N (fun a0 => (k a0).bind j) x0 = (f159.b' L N k x0).bind j := by
  unfold f159.b'
  repeat' (first | (with_reducible refine cond_nat ?_ ?_) | (with_reducible refine bind_nat fun _ => ?_) | rfl)
theorem f159.b_nat {R R' : Type} (j : R → Option R') (L N : Nat) (k : Bool → Option R) (x0 : Tree) :
    f159.b L N (fun a0 => (k a0).bind j) x0 = (f159.b L N k x0).bind j := by
  unfold f159.b
  exact f159.b'_nat ..
theorem f159.ok (L N : Nat) (hΦ : TellsOk Try.prog ((Φ152 L N))) : EntOk Try.prog 159 (f159.ent L N) := by
  intro args vw site h
  unfold f159.ent
  split
  · rename_i d ha
    intro y hy hs
    refine call_ro (dep := 1000) (E := (E159 L N)) (rs := (.one .bool)) (v := (.tv .bool y)) (sound_of hΦ) okP (callI_sound (sound_of hΦ) okP 1 2000) (f := Try.f159) rfl hs ha ?_ rfl site
    refine (f159.b_eq L N some d.1).trans ?_
    refine ((f159.b_nat (fun y => (some (.tv .bool y) : Option AV)) L N some d.1)).trans ?_
    rw [show f159.b L N some d.1 = some y from hy]
    rfl
  · intro y hy
    cases hy
def Φ159 (L N : Nat) : Tells := (addT (Φ152 L N) 159 (f159.ent L N))
theorem Φ159_ok (L N : Nat) : TellsOk Try.prog (Φ159 L N) := addT_ok (Φ152_ok L N) (f159.ok L N (Φ152_ok L N))
def f149.b' {R : Type} (L N : Nat) (k : Bool → Option R) (x0 : Tree) (x1 : Int) : Option R :=
  (f159 L N (Tree.mk x0.op x0.n x0.parts)).bind fun y0 =>
  bif y0 then
    (f96 L N x1 (0 : Int) (3 : Int)).bind fun y1 =>
    bif y1 then
      (f158 L N N (Tree.mk x0.op x0.n x0.parts) false).bind fun y2 =>
      k (decide (y2 < x1))
    else k false
  else k false
def f149.b {R : Type} (L N : Nat) (k : Bool → Option R) (x0 : Tree) (x1 : Int) : Option R :=
  f149.b' L N k x0 x1
def f149 (L N : Nat) (x0 : Tree) (x1 : Int) : Option (Bool) := f149.b L N some x0 x1
def f149.ent (L N : Nat) (args : List AV) (vw : View) (site : Nat) : Ans := match roD [(.st 1), i64] vw args with
  | some d => ⟨Bool, f149 L N d.1 d.2.1, fun y => ((.tv .bool y), [], [])⟩
  | none => Ans.no
noncomputable def E149 (L N : Nat) : Env := { P := Try.prog, ty := tyOf, Φ := (Φ159 L N), inl := inlT, live := lives, liveX := livesX, L := L, dp := none, prom := promT, heal := healT, ren := renT }
theorem f149.b_pre {R : Type} (L N : Nat) (κ : AV → Option R) (x0 : Tree) (x1 : Int) :
    evBody (E149 L N) (evCallI (E149 L N) 1 2000) 1000 149 Try.f149 [(.tv (.st 1) x0), (.tv i64 x1)] [] [] (finC (.one .bool) κ)
    = f149.b' L N (fun a0 => κ (.tv .bool a0)) x0 x1 := by kernel_rfl
theorem f149.b_eq {R : Type} (L N : Nat) (κ : AV → Option R) (x0 : Tree) (x1 : Int) :
    evBody (E149 L N) (evCallI (E149 L N) 1 2000) 1000 149 Try.f149 [(.tv (.st 1) x0), (.tv i64 x1)] [] [] (finC (.one .bool) κ)
    = f149.b L N (fun a0 => κ (.tv .bool a0)) x0 x1 := by
  rw [f149.b_pre]
  unfold f149.b
  rfl
theorem f149.b'_nat {R R' : Type} (j : R → Option R') (L N : Nat) (k : Bool → Option R) (x0 : Tree) (x1 : Int) :
    f149.b' L N (fun a0 => (k a0).bind j) x0 x1 = (f149.b' L N k x0 x1).bind j := by
  unfold f149.b'
  repeat' (first | (with_reducible refine cond_nat ?_ ?_) | (with_reducible refine bind_nat fun _ => ?_) | rfl)
theorem f149.b_nat {R R' : Type} (j : R → Option R') (L N : Nat) (k : Bool → Option R) (x0 : Tree) (x1 : Int) :
    f149.b L N (fun a0 => (k a0).bind j) x0 x1 = (f149.b L N k x0 x1).bind j := by
  unfold f149.b
  exact f149.b'_nat ..
theorem f149.ok (L N : Nat) (hΦ : TellsOk Try.prog ((Φ159 L N))) : EntOk Try.prog 149 (f149.ent L N) := by
  intro args vw site h
  unfold f149.ent
  split
  · rename_i d ha
    intro y hy hs
    refine call_ro (dep := 1000) (E := (E149 L N)) (rs := (.one .bool)) (v := (.tv .bool y)) (sound_of hΦ) okP (callI_sound (sound_of hΦ) okP 1 2000) (f := Try.f149) rfl hs ha ?_ rfl site
    refine (f149.b_eq L N some d.1 d.2.1).trans ?_
    refine ((f149.b_nat (fun y => (some (.tv .bool y) : Option AV)) L N some d.1 d.2.1)).trans ?_
    rw [show f149.b L N some d.1 d.2.1 = some y from hy]
    rfl
  · intro y hy
    cases hy
def Φ149 (L N : Nat) : Tells := (addT (Φ159 L N) 149 (f149.ent L N))
theorem Φ149_ok (L N : Nat) : TellsOk Try.prog (Φ149 L N) := addT_ok (Φ159_ok L N) (f149.ok L N (Φ159_ok L N))
def f148.s0' {R : Type} (L N : Nat) (k0_e0 : LT → Option R) (k0_r : LT → Bool → Option R) (rec0 : LT → Int → Option R) (s0 : LT) (s1 : Int) : Option R :=
  bif (decide (s1 < (s0.length : Int))) then
    bif (decide (0 ≤ s1) && decide (s1 < (s0.length : Int))) then
      (f149 L N (listAt s0 (Ty.dflt (.st 1)) s1.toNat) (s0.length : Int)).bind fun y3 =>
      bif (!y3) then
        k0_r s0 false
      else bif (decide (0 ≤ s1) && decide (s1 < (s0.length : Int))) then
        (f158 L N N (listAt s0 (Ty.dflt (.st 1)) s1.toNat) true).bind fun y4 =>
        bif (decide (y4 ≥ (0 : Int))) then
          k0_r s0 false
        else rec0 s0 (wi (s1 + (1 : Int)))
      else none
    else none
  else k0_e0 s0
def f148.s0 {R : Type} (L N : Nat) (k0_e0 : LT → Option R) (k0_r : LT → Bool → Option R) (rec0 : LT → Int → Option R) (s0 : LT) (s1 : Int) : Option R :=
  f148.s0' L N k0_e0 k0_r rec0 s0 s1
def f148.l0 {R : Type} (L N : Nat) (k0_e0 : LT → Option R) (k0_r : LT → Bool → Option R) : Nat → LT → Int → Option R
  | 0, _, _ => none
  | n + 1, s0, s1 => f148.s0 L N k0_e0 k0_r (f148.l0 L N k0_e0 k0_r n) s0 s1
def f148.T0 (s0 : LT) (s1 : Int) : T := mkT 29 [(0, (.tv (.sl (.st 1)) s0)), (3, (.tv i64 s1))]
def f148.H0 (s0 : LT) (s1 : Int) : H := []
def f148.T0_e0 (z2 : LT) : T := mkT 29 [(0, (.tv (.sl (.st 1)) z2))]
def f148.H0_e0 (z2 : LT) : H := []
def f148.T0_r (z8 : LT) (z9 : Bool) : T := mkT 29 [(0, (.tv (.sl (.st 1)) z8)), (2, (.tv .bool z9))]
def f148.H0_r (z8 : LT) (z9 : Bool) : H := []
def f148.p0_e0' {R : Type} (L N : Nat) (k : Bool → Option R) (z2 : LT) : Option R :=
  k (decide ((z2.length : Int) ≤ (3 : Int)))
def f148.p0_e0 {R : Type} (L N : Nat) (k : Bool → Option R) (z2 : LT) : Option R :=
  f148.p0_e0' L N k z2
def f148.p0_r' {R : Type} (L N : Nat) (k : Bool → Option R) (z8 : LT) (z9 : Bool) : Option R :=
  k z9
def f148.p0_r {R : Type} (L N : Nat) (k : Bool → Option R) (z8 : LT) (z9 : Bool) : Option R :=
  f148.p0_r' L N k z8 z9
def f148.b' {R : Type} (L N : Nat) (k : Bool → Option R) (w0 : LT → Int → Option R) (x0 : LT) : Option R :=
  w0 x0 (0 : Int)
def f148.b {R : Type} (L N : Nat) (k : Bool → Option R) (x0 : LT) : Option R :=
  f148.b' L N k (fun s0 s1 => f148.l0 L N (fun z2 => f148.p0_e0 L N k z2) (fun z8 z9 => f148.p0_r L N k z8 z9) L s0 s1) x0
def f148 (L N : Nat) (x0 : LT) : Option (Bool) := f148.b L N some x0
def f148.ent (L N : Nat) (args : List AV) (vw : View) (site : Nat) : Ans := match roD [(.sl (.st 1))] vw args with
  | some d => ⟨Bool, f148 L N d.1, fun y => ((.tv .bool y), [], [])⟩
  | none => Ans.no
noncomputable def E148 (L N : Nat) : Env := { P := Try.prog, ty := tyOf, Φ := (Φ149 L N), inl := inlT, live := lives, liveX := livesX, L := L, dp := none, prom := promT, heal := healT, ren := renT }
noncomputable def f148.c0 : Code := loopAt 0 (codeOf Try.f148)
theorem f148.s0_pre {R : Type} (L N : Nat) (κ : Ex → T → H → Option R) (rec : T → H → Option R) (s0 : LT) (s1 : Int) :
    evRd (E148 L N) (evCallI (E148 L N) 1 2000) 1000 148 29 0 f148.c0 κ rec (f148.T0 s0 s1) (f148.H0 s0 s1)
    = f148.s0' L N (fun z2 => κ (.exit 0) (f148.T0_e0 z2) (f148.H0_e0 z2)) (fun z8 z9 => κ .ret (f148.T0_r z8 z9) (f148.H0_r z8 z9)) (fun s0 s1 => rec (f148.T0 s0 s1) (f148.H0 s0 s1)) s0 s1 := by kernel_rfl
theorem f148.s0_eq {R : Type} (L N : Nat) (κ : Ex → T → H → Option R) (rec : T → H → Option R) (s0 : LT) (s1 : Int) :
    evRd (E148 L N) (evCallI (E148 L N) 1 2000) 1000 148 29 0 f148.c0 κ rec (f148.T0 s0 s1) (f148.H0 s0 s1)
    = f148.s0 L N (fun z2 => κ (.exit 0) (f148.T0_e0 z2) (f148.H0_e0 z2)) (fun z8 z9 => κ .ret (f148.T0_r z8 z9) (f148.H0_r z8 z9)) (fun s0 s1 => rec (f148.T0 s0 s1) (f148.H0 s0 s1)) s0 s1 := by
  rw [f148.s0_pre]
  unfold f148.s0
  rfl
theorem f148.l0_eq {R : Type} (L N : Nat) (κ : Ex → T → H → Option R) : ∀ (n : Nat) (s0 : LT) (s1 : Int),
    evLp (E148 L N) (evCallI (E148 L N) 1 2000) 1000 148 29 0 f148.c0 κ n (f148.T0 s0 s1) (f148.H0 s0 s1)
    = f148.l0 L N (fun z2 => κ (.exit 0) (f148.T0_e0 z2) (f148.H0_e0 z2)) (fun z8 z9 => κ .ret (f148.T0_r z8 z9) (f148.H0_r z8 z9)) n s0 s1 := by
  intro n
  induction n with
  | zero => intros; rfl
  | succ n ih =>
    intro s0 s1
    rw [evLp_succ, f148.s0_eq]
    simp only [ih]
    rfl
theorem f148.p0_e0_pre {R : Type} (L N : Nat) (κ : AV → Option R) (z2 : LT) :
    (contAt (E148 L N) (evCallI (E148 L N) 1 2000) 1000 148 29 0 (codeOf Try.f148) (finK (E148 L N) 1000 Try.f148 (finC (.one .bool) κ))) (.exit 0) (f148.T0_e0 z2) (f148.H0_e0 z2)
    = f148.p0_e0' L N (fun a0 => κ (.tv .bool a0)) z2 := by kernel_rfl
theorem f148.p0_e0_eq {R : Type} (L N : Nat) (κ : AV → Option R) (z2 : LT) :
    (contAt (E148 L N) (evCallI (E148 L N) 1 2000) 1000 148 29 0 (codeOf Try.f148) (finK (E148 L N) 1000 Try.f148 (finC (.one .bool) κ))) (.exit 0) (f148.T0_e0 z2) (f148.H0_e0 z2)
    = f148.p0_e0 L N (fun a0 => κ (.tv .bool a0)) z2 := by
  rw [f148.p0_e0_pre]
  unfold f148.p0_e0
  rfl
theorem f148.p0_r_pre {R : Type} (L N : Nat) (κ : AV → Option R) (z8 : LT) (z9 : Bool) :
    (contAt (E148 L N) (evCallI (E148 L N) 1 2000) 1000 148 29 0 (codeOf Try.f148) (finK (E148 L N) 1000 Try.f148 (finC (.one .bool) κ))) .ret (f148.T0_r z8 z9) (f148.H0_r z8 z9)
    = f148.p0_r' L N (fun a0 => κ (.tv .bool a0)) z8 z9 := by kernel_rfl
theorem f148.p0_r_eq {R : Type} (L N : Nat) (κ : AV → Option R) (z8 : LT) (z9 : Bool) :
    (contAt (E148 L N) (evCallI (E148 L N) 1 2000) 1000 148 29 0 (codeOf Try.f148) (finK (E148 L N) 1000 Try.f148 (finC (.one .bool) κ))) .ret (f148.T0_r z8 z9) (f148.H0_r z8 z9)
    = f148.p0_r L N (fun a0 => κ (.tv .bool a0)) z8 z9 := by
  rw [f148.p0_r_pre]
  unfold f148.p0_r
  rfl
theorem f148.b_pre {R : Type} (L N : Nat) (κ : AV → Option R) (x0 : LT) :
    evBody (E148 L N) (evCallI (E148 L N) 1 2000) 1000 148 Try.f148 [(.tv (.sl (.st 1)) x0)] [] [] (finC (.one .bool) κ)
    = f148.b' L N (fun a0 => κ (.tv .bool a0)) (fun s0 s1 => evLp (E148 L N) (evCallI (E148 L N) 1 2000) 1000 148 29 0 f148.c0 (contAt (E148 L N) (evCallI (E148 L N) 1 2000) 1000 148 29 0 (codeOf Try.f148) (finK (E148 L N) 1000 Try.f148 (finC (.one .bool) κ))) L (f148.T0 s0 s1) (f148.H0 s0 s1)) x0 := by kernel_rfl
theorem f148.b_eq {R : Type} (L N : Nat) (κ : AV → Option R) (x0 : LT) :
    evBody (E148 L N) (evCallI (E148 L N) 1 2000) 1000 148 Try.f148 [(.tv (.sl (.st 1)) x0)] [] [] (finC (.one .bool) κ)
    = f148.b L N (fun a0 => κ (.tv .bool a0)) x0 := by
  rw [f148.b_pre]
  unfold f148.b
  simp only [f148.l0_eq, f148.p0_e0_eq, f148.p0_r_eq]
theorem f148.s0'_nat {R R' : Type} (j : R → Option R') (L N : Nat) (k0_e0 : LT → Option R) (k0_r : LT → Bool → Option R) (rec0 : LT → Int → Option R) (s0 : LT) (s1 : Int) :
    f148.s0' L N (fun a0 => (k0_e0 a0).bind j) (fun a0 a1 => (k0_r a0 a1).bind j) (fun a0 a1 => (rec0 a0 a1).bind j) s0 s1 = (f148.s0' L N k0_e0 k0_r rec0 s0 s1).bind j := by
  unfold f148.s0'
  repeat' (first | (with_reducible refine cond_nat ?_ ?_) | (with_reducible refine bind_nat fun _ => ?_) | rfl)
theorem f148.s0_nat {R R' : Type} (j : R → Option R') (L N : Nat) (k0_e0 : LT → Option R) (k0_r : LT → Bool → Option R) (rec0 : LT → Int → Option R) (s0 : LT) (s1 : Int) :
    f148.s0 L N (fun a0 => (k0_e0 a0).bind j) (fun a0 a1 => (k0_r a0 a1).bind j) (fun a0 a1 => (rec0 a0 a1).bind j) s0 s1 = (f148.s0 L N k0_e0 k0_r rec0 s0 s1).bind j := by
  unfold f148.s0
  exact f148.s0'_nat ..
theorem f148.l0_nat {R R' : Type} (j : R → Option R') (L N : Nat) (k0_e0 : LT → Option R) (k0_r : LT → Bool → Option R) : ∀ (n : Nat) (s0 : LT) (s1 : Int),
    f148.l0 L N (fun a0 => (k0_e0 a0).bind j) (fun a0 a1 => (k0_r a0 a1).bind j) n s0 s1 = (f148.l0 L N k0_e0 k0_r n s0 s1).bind j := by
  intro n
  induction n with
  | zero => intros; rfl
  | succ n ih =>
    intro s0 s1
    show f148.s0 L N (fun a0 => (k0_e0 a0).bind j) (fun a0 a1 => (k0_r a0 a1).bind j) (f148.l0 L N (fun a0 => (k0_e0 a0).bind j) (fun a0 a1 => (k0_r a0 a1).bind j) n) s0 s1 = _
    rw [show f148.l0 L N (fun a0 => (k0_e0 a0).bind j) (fun a0 a1 => (k0_r a0 a1).bind j) n = (fun s0 s1 => (f148.l0 L N k0_e0 k0_r n s0 s1).bind j) from funext fun s0 => funext fun s1 => ih s0 s1]
    exact f148.s0_nat ..
theorem f148.p0_e0'_nat {R R' : Type} (j : R → Option R') (L N : Nat) (k : Bool → Option R) (z2 : LT) :
    f148.p0_e0' L N (fun a0 => (k a0).bind j) z2 = (f148.p0_e0' L N k z2).bind j := by
  unfold f148.p0_e0'
  repeat' (first | (with_reducible refine cond_nat ?_ ?_) | (with_reducible refine bind_nat fun _ => ?_) | rfl)
theorem f148.p0_e0_nat {R R' : Type} (j : R → Option R') (L N : Nat) (k : Bool → Option R) (z2 : LT) :
    f148.p0_e0 L N (fun a0 => (k a0).bind j) z2 = (f148.p0_e0 L N k z2).bind j := by
  unfold f148.p0_e0
  exact f148.p0_e0'_nat ..
theorem f148.p0_r'_nat {R R' : Type} (j : R → Option R') (L N : Nat) (k : Bool → Option R) (z8 : LT) (z9 : Bool) :
    f148.p0_r' L N (fun a0 => (k a0).bind j) z8 z9 = (f148.p0_r' L N k z8 z9).bind j := by
  unfold f148.p0_r'
  repeat' (first | (with_reducible refine cond_nat ?_ ?_) | (with_reducible refine bind_nat fun _ => ?_) | rfl)
theorem f148.p0_r_nat {R R' : Type} (j : R → Option R') (L N : Nat) (k : Bool → Option R) (z8 : LT) (z9 : Bool) :
    f148.p0_r L N (fun a0 => (k a0).bind j) z8 z9 = (f148.p0_r L N k z8 z9).bind j := by
  unfold f148.p0_r
  exact f148.p0_r'_nat ..
theorem f148.b'_nat {R R' : Type} (j : R → Option R') (L N : Nat) (k : Bool → Option R) (w0 : LT → Int → Option R) (x0 : LT) :
    f148.b' L N (fun a0 => (k a0).bind j) (fun a0 a1 => (w0 a0 a1).bind j) x0 = (f148.b' L N k w0 x0).bind j := by
  unfold f148.b'
  repeat' (first | (with_reducible refine cond_nat ?_ ?_) | (with_reducible refine bind_nat fun _ => ?_) | rfl)
theorem f148.b_nat {R R' : Type} (j : R → Option R') (L N : Nat) (k : Bool → Option R) (x0 : LT) :
    f148.b L N (fun a0 => (k a0).bind j) x0 = (f148.b L N k x0).bind j := by
  unfold f148.b
  simp only [f148.l0_nat, f148.p0_e0_nat, f148.p0_r_nat]
  exact f148.b'_nat ..
theorem f148.ok (L N : Nat) (hΦ : TellsOk Try.prog ((Φ149 L N))) : EntOk Try.prog 148 (f148.ent L N) := by
  intro args vw site h
  unfold f148.ent
  split
  · rename_i d ha
    intro y hy hs
    refine call_ro (dep := 1000) (E := (E148 L N)) (rs := (.one .bool)) (v := (.tv .bool y)) (sound_of hΦ) okP (callI_sound (sound_of hΦ) okP 1 2000) (f := Try.f148) rfl hs ha ?_ rfl site
    refine (f148.b_eq L N some d.1).trans ?_
    refine ((f148.b_nat (fun y => (some (.tv .bool y) : Option AV)) L N some d.1)).trans ?_
    rw [show f148.b L N some d.1 = some y from hy]
    rfl
  · intro y hy
    cases hy
def Φ148 (L N : Nat) : Tells := (addT (Φ149 L N) 148 (f148.ent L N))
theorem Φ148_ok (L N : Nat) : TellsOk Try.prog (Φ148 L N) := addT_ok (Φ149_ok L N) (f148.ok L N (Φ149_ok L N))
def f132.b' {R : Type} (L N : Nat) (k : Bool → Option R) (x0 : Tree) (x1 : LT) : Option R :=
  (f148 L N x1).bind fun y0 =>
  bif y0 then
    (f149 L N (Tree.mk x0.op x0.n x0.parts) (x1.length : Int)).bind fun y1 =>
    k y1
  else k false
def f132.b {R : Type} (L N : Nat) (k : Bool → Option R) (x0 : Tree) (x1 : LT) : Option R :=
  f132.b' L N k x0 x1
def f132 (L N : Nat) (x0 : Tree) (x1 : LT) : Option (Bool) := f132.b L N some x0 x1
def f132.ent (L N : Nat) (args : List AV) (vw : View) (site : Nat) : Ans := match roD [(.st 1), (.sl (.st 1))] vw args with
  | some d => ⟨Bool, f132 L N d.1 d.2.1, fun y => ((.tv .bool y), [], [])⟩
  | none => Ans.no
noncomputable def E132 (L N : Nat) : Env := { P := Try.prog, ty := tyOf, Φ := (Φ148 L N), inl := inlT, live := lives, liveX := livesX, L := L, dp := none, prom := promT, heal := healT, ren := renT }
theorem f132.b_pre {R : Type} (L N : Nat) (κ : AV → Option R) (x0 : Tree) (x1 : LT) :
    evBody (E132 L N) (evCallI (E132 L N) 1 2000) 1000 132 Try.f132 [(.tv (.st 1) x0), (.tv (.sl (.st 1)) x1)] [] [] (finC (.one .bool) κ)
    = f132.b' L N (fun a0 => κ (.tv .bool a0)) x0 x1 := by kernel_rfl
theorem f132.b_eq {R : Type} (L N : Nat) (κ : AV → Option R) (x0 : Tree) (x1 : LT) :
    evBody (E132 L N) (evCallI (E132 L N) 1 2000) 1000 132 Try.f132 [(.tv (.st 1) x0), (.tv (.sl (.st 1)) x1)] [] [] (finC (.one .bool) κ)
    = f132.b L N (fun a0 => κ (.tv .bool a0)) x0 x1 := by
  rw [f132.b_pre]
  unfold f132.b
  rfl
theorem f132.b'_nat {R R' : Type} (j : R → Option R') (L N : Nat) (k : Bool → Option R) (x0 : Tree) (x1 : LT) :
    f132.b' L N (fun a0 => (k a0).bind j) x0 x1 = (f132.b' L N k x0 x1).bind j := by
  unfold f132.b'
  repeat' (first | (with_reducible refine cond_nat ?_ ?_) | (with_reducible refine bind_nat fun _ => ?_) | rfl)
theorem f132.b_nat {R R' : Type} (j : R → Option R') (L N : Nat) (k : Bool → Option R) (x0 : Tree) (x1 : LT) :
    f132.b L N (fun a0 => (k a0).bind j) x0 x1 = (f132.b L N k x0 x1).bind j := by
  unfold f132.b
  exact f132.b'_nat ..
theorem f132.ok (L N : Nat) (hΦ : TellsOk Try.prog ((Φ148 L N))) : EntOk Try.prog 132 (f132.ent L N) := by
  intro args vw site h
  unfold f132.ent
  split
  · rename_i d ha
    intro y hy hs
    refine call_ro (dep := 1000) (E := (E132 L N)) (rs := (.one .bool)) (v := (.tv .bool y)) (sound_of hΦ) okP (callI_sound (sound_of hΦ) okP 1 2000) (f := Try.f132) rfl hs ha ?_ rfl site
    refine (f132.b_eq L N some d.1 d.2.1).trans ?_
    refine ((f132.b_nat (fun y => (some (.tv .bool y) : Option AV)) L N some d.1 d.2.1)).trans ?_
    rw [show f132.b L N some d.1 d.2.1 = some y from hy]
    rfl
  · intro y hy
    cases hy
def Φ132 (L N : Nat) : Tells := (addT (Φ148 L N) 132 (f132.ent L N))
theorem Φ132_ok (L N : Nat) : TellsOk Try.prog (Φ132 L N) := addT_ok (Φ148_ok L N) (f132.ok L N (Φ148_ok L N))
def f98.b' {R : Type} (L N : Nat) (k : Bool → Option R) (x0 : Move) (x1 : Move) : Option R :=
  bif (decide (x0.act < x1.act)) then
    k true
  else bif (x0.act == x1.act) then
    k (decide (x0.to < x1.to))
  else k false
def f98.b {R : Type} (L N : Nat) (k : Bool → Option R) (x0 : Move) (x1 : Move) : Option R :=
  f98.b' L N k x0 x1
def f98 (L N : Nat) (x0 : Move) (x1 : Move) : Option (Bool) := f98.b L N some x0 x1
def f98.ent (L N : Nat) (args : List AV) (vw : View) (site : Nat) : Ans := match roD [(.st 0), (.st 0)] vw args with
  | some d => ⟨Bool, f98 L N d.1 d.2.1, fun y => ((.tv .bool y), [], [])⟩
  | none => Ans.no
noncomputable def E98 (L N : Nat) : Env := { P := Try.prog, ty := tyOf, Φ := (Φ132 L N), inl := inlT, live := lives, liveX := livesX, L := L, dp := none, prom := promT, heal := healT, ren := renT }
theorem f98.b_pre {R : Type} (L N : Nat) (κ : AV → Option R) (x0 : Move) (x1 : Move) :
    evBody (E98 L N) (evCallI (E98 L N) 1 2000) 1000 98 Try.f98 [(.tv (.st 0) x0), (.tv (.st 0) x1)] [] [] (finC (.one .bool) κ)
    = f98.b' L N (fun a0 => κ (.tv .bool a0)) x0 x1 := by kernel_rfl
theorem f98.b_eq {R : Type} (L N : Nat) (κ : AV → Option R) (x0 : Move) (x1 : Move) :
    evBody (E98 L N) (evCallI (E98 L N) 1 2000) 1000 98 Try.f98 [(.tv (.st 0) x0), (.tv (.st 0) x1)] [] [] (finC (.one .bool) κ)
    = f98.b L N (fun a0 => κ (.tv .bool a0)) x0 x1 := by
  rw [f98.b_pre]
  unfold f98.b
  rfl
theorem f98.b'_nat {R R' : Type} (j : R → Option R') (L N : Nat) (k : Bool → Option R) (x0 : Move) (x1 : Move) :
    f98.b' L N (fun a0 => (k a0).bind j) x0 x1 = (f98.b' L N k x0 x1).bind j := by
  unfold f98.b'
  repeat' (first | (with_reducible refine cond_nat ?_ ?_) | (with_reducible refine bind_nat fun _ => ?_) | rfl)
theorem f98.b_nat {R R' : Type} (j : R → Option R') (L N : Nat) (k : Bool → Option R) (x0 : Move) (x1 : Move) :
    f98.b L N (fun a0 => (k a0).bind j) x0 x1 = (f98.b L N k x0 x1).bind j := by
  unfold f98.b
  exact f98.b'_nat ..
theorem f98.ok (L N : Nat) (hΦ : TellsOk Try.prog ((Φ132 L N))) : EntOk Try.prog 98 (f98.ent L N) := by
  intro args vw site h
  unfold f98.ent
  split
  · rename_i d ha
    intro y hy hs
    refine call_ro (dep := 1000) (E := (E98 L N)) (rs := (.one .bool)) (v := (.tv .bool y)) (sound_of hΦ) okP (callI_sound (sound_of hΦ) okP 1 2000) (f := Try.f98) rfl hs ha ?_ rfl site
    refine (f98.b_eq L N some d.1 d.2.1).trans ?_
    refine ((f98.b_nat (fun y => (some (.tv .bool y) : Option AV)) L N some d.1 d.2.1)).trans ?_
    rw [show f98.b L N some d.1 d.2.1 = some y from hy]
    rfl
  · intro y hy
    cases hy
def Φ98 (L N : Nat) : Tells := (addT (Φ132 L N) 98 (f98.ent L N))
theorem Φ98_ok (L N : Nat) : TellsOk Try.prog (Φ98 L N) := addT_ok (Φ132_ok L N) (f98.ok L N (Φ132_ok L N))
def f123.s1' {R : Type} (L N : Nat) (k1_e2 : LM → Int → Int → LM → Option R) (rec1 : LM → Int → Int → LM → Option R) (s4 : LM) (s5 : Int) (s6 : Int) (s7 : LM) : Option R :=
  bif (decide (s6 > (0 : Int))) then
    bif (decide (0 ≤ s5) && decide (s5 < (s4.length : Int))) then
      bif (decide (0 ≤ (wi (s6 - (1 : Int)))) && decide ((wi (s6 - (1 : Int))) < (s7.length : Int))) then
        (f98 L N (listAt s4 (Ty.dflt (.st 0)) s5.toNat) (listAt s7 (Ty.dflt (.st 0)) (wi (s6 - (1 : Int))).toNat)).bind fun y8 =>
        bif y8 then
          rec1 s4 s5 (wi (s6 - (1 : Int))) s7
        else k1_e2 s4 s5 s6 s7
      else none
    else none
  else k1_e2 s4 s5 s6 s7
def f123.s1 {R : Type} (L N : Nat) (k1_e2 : LM → Int → Int → LM → Option R) (rec1 : LM → Int → Int → LM → Option R) (s4 : LM) (s5 : Int) (s6 : Int) (s7 : LM) : Option R :=
  f123.s1' L N k1_e2 rec1 s4 s5 s6 s7
def f123.l1 {R : Type} (L N : Nat) (k1_e2 : LM → Int → Int → LM → Option R) : Nat → LM → Int → Int → LM → Option R
  | 0, _, _, _, _ => none
  | n + 1, s4, s5, s6, s7 => f123.s1 L N k1_e2 (f123.l1 L N k1_e2 n) s4 s5 s6 s7
def f123.T1 (s4 : LM) (s5 : Int) (s6 : Int) (s7 : LM) : T := mkT 74 [(0, (.tv (.sl (.st 0)) s4)), (3, (.row 1007)), (4, (.tv i64 s5)), (5, (.tv i64 s6))]
def f123.H1 (s4 : LM) (s5 : Int) (s6 : Int) (s7 : LM) : H := [(1007, (.row 53 (.st 0) s7))]
def f123.T1_e2 (z14 : LM) (z15 : Int) (z16 : Int) (z17 : LM) : T := mkT 74 [(0, (.tv (.sl (.st 0)) z14)), (3, (.row 1007)), (4, (.tv i64 z15)), (5, (.tv i64 z16))]
def f123.H1_e2 (z14 : LM) (z15 : Int) (z16 : Int) (z17 : LM) : H := [(1007, (.row 53 (.st 0) z17))]
def f123.s2' {R : Type} (L N : Nat) (k2_e4 : LM → Int → Int → LM → Option R) (rec2 : LM → Int → Int → Int → LM → Option R) (s31 : LM) (s32 : Int) (s33 : Int) (s34 : Int) (s35 : LM) : Option R :=
  bif (decide (s34 > s33)) then
    bif (decide (0 ≤ (wi (s34 - (1 : Int)))) && decide ((wi (s34 - (1 : Int))) < (s35.length : Int))) then
      bif (decide (0 ≤ s34) && decide (s34 < (s35.length : Int))) then
        rec2 s31 s32 s33 (wi (s34 - (1 : Int))) (s35.set s34.toNat (listAt s35 (Ty.dflt (.st 0)) (wi (s34 - (1 : Int))).toNat))
      else none
    else none
  else k2_e4 s31 s32 s33 s35
def f123.s2 {R : Type} (L N : Nat) (k2_e4 : LM → Int → Int → LM → Option R) (rec2 : LM → Int → Int → Int → LM → Option R) (s31 : LM) (s32 : Int) (s33 : Int) (s34 : Int) (s35 : LM) : Option R :=
  f123.s2' L N k2_e4 rec2 s31 s32 s33 s34 s35
def f123.l2 {R : Type} (L N : Nat) (k2_e4 : LM → Int → Int → LM → Option R) : Nat → LM → Int → Int → Int → LM → Option R
  | 0, _, _, _, _, _ => none
  | n + 1, s31, s32, s33, s34, s35 => f123.s2 L N k2_e4 (f123.l2 L N k2_e4 n) s31 s32 s33 s34 s35
def f123.T2 (s31 : LM) (s32 : Int) (s33 : Int) (s34 : Int) (s35 : LM) : T := mkT 74 [(0, (.tv (.sl (.st 0)) s31)), (3, (.row 1007)), (4, (.tv i64 s32)), (5, (.tv i64 s33)), (6, (.tv i64 s34))]
def f123.H2 (s31 : LM) (s32 : Int) (s33 : Int) (s34 : Int) (s35 : LM) : H := [(1007, (.row 53 (.st 0) s35))]
def f123.T2_e4 (z36 : LM) (z37 : Int) (z38 : Int) (z39 : LM) : T := mkT 74 [(0, (.tv (.sl (.st 0)) z36)), (3, (.row 1007)), (4, (.tv i64 z37)), (5, (.tv i64 z38))]
def f123.H2_e4 (z36 : LM) (z37 : Int) (z38 : Int) (z39 : LM) : H := [(1007, (.row 53 (.st 0) z39))]
def f123.p2_e4' {R : Type} (L N : Nat) (k0_e0 : LM → Option R) (rec0 : LM → Int → LM → Option R) (z36 : LM) (z37 : Int) (z38 : Int) (z39 : LM) : Option R :=
  bif (decide (0 ≤ z37) && decide (z37 < (z36.length : Int))) then
    bif (decide (0 ≤ z38) && decide (z38 < (z39.length : Int))) then
      rec0 z36 (wi (z37 + (1 : Int))) (z39.set z38.toNat (listAt z36 (Ty.dflt (.st 0)) z37.toNat))
    else none
  else none
def f123.p2_e4 {R : Type} (L N : Nat) (k0_e0 : LM → Option R) (rec0 : LM → Int → LM → Option R) (z36 : LM) (z37 : Int) (z38 : Int) (z39 : LM) : Option R :=
  f123.p2_e4' L N k0_e0 rec0 z36 z37 z38 z39
def f123.j0' {R : Type} (L N : Nat) (k0_e0 : LM → Option R) (rec0 : LM → Int → LM → Option R) (w2 : LM → Int → Int → Int → LM → Option R) (v27 : LM) (v28 : Int) (v29 : Int) (v30 : LM) : Option R :=
  bif (decide (v30.length + ([(Move.mk (0 : Int) (0 : Int))] : LM).length ≤ lim)) then
    w2 v27 v28 v29 (wi (((v30 ++ ([(Move.mk (0 : Int) (0 : Int))] : LM)).length : Int) - (1 : Int))) (v30 ++ ([(Move.mk (0 : Int) (0 : Int))] : LM))
  else none
def f123.p1_e2' {R : Type} (L N : Nat) (k0_e0 : LM → Option R) (rec0 : LM → Int → LM → Option R) (w2 : LM → Int → Int → Int → LM → Option R) (z14 : LM) (z15 : Int) (z16 : Int) (z17 : LM) : Option R :=
  bif (decide (z16 > (0 : Int))) then
    bif (decide (0 ≤ (wi (z16 - (1 : Int)))) && decide ((wi (z16 - (1 : Int))) < (z17.length : Int))) then
      bif (decide (0 ≤ z15) && decide (z15 < (z14.length : Int))) then
        bif (Move.eqb (listAt z17 (Ty.dflt (.st 0)) (wi (z16 - (1 : Int))).toNat) (listAt z14 (Ty.dflt (.st 0)) z15.toNat)) then
          rec0 z14 (wi (z15 + (1 : Int))) z17
        else f123.j0' L N k0_e0 rec0 w2 z14 z15 z16 z17
      else none
    else none
  else f123.j0' L N k0_e0 rec0 w2 z14 z15 z16 z17
def f123.p1_e2 {R : Type} (L N : Nat) (k0_e0 : LM → Option R) (rec0 : LM → Int → LM → Option R) (z14 : LM) (z15 : Int) (z16 : Int) (z17 : LM) : Option R :=
  f123.p1_e2' L N k0_e0 rec0 (fun s31 s32 s33 s34 s35 => f123.l2 L N (fun z36 z37 z38 z39 => f123.p2_e4 L N k0_e0 rec0 z36 z37 z38 z39) L s31 s32 s33 s34 s35) z14 z15 z16 z17
def f123.s0' {R : Type} (L N : Nat) (k0_e0 : LM → Option R) (rec0 : LM → Int → LM → Option R) (w1 : LM → Int → Int → LM → Option R) (s0 : LM) (s1 : Int) (s2 : LM) : Option R :=
  bif (decide (s1 < (s0.length : Int))) then
    w1 s0 s1 (s2.length : Int) s2
  else k0_e0 s2
def f123.s0 {R : Type} (L N : Nat) (k0_e0 : LM → Option R) (rec0 : LM → Int → LM → Option R) (s0 : LM) (s1 : Int) (s2 : LM) : Option R :=
  f123.s0' L N k0_e0 rec0 (fun s4 s5 s6 s7 => f123.l1 L N (fun z14 z15 z16 z17 => f123.p1_e2 L N k0_e0 rec0 z14 z15 z16 z17) L s4 s5 s6 s7) s0 s1 s2
def f123.l0 {R : Type} (L N : Nat) (k0_e0 : LM → Option R) : Nat → LM → Int → LM → Option R
  | 0, _, _, _ => none
  | n + 1, s0, s1, s2 => f123.s0 L N k0_e0 (f123.l0 L N k0_e0 n) s0 s1 s2
def f123.T0 (s0 : LM) (s1 : Int) (s2 : LM) : T := mkT 74 [(0, (.tv (.sl (.st 0)) s0)), (3, (.row 1007)), (4, (.tv i64 s1))]
def f123.H0 (s0 : LM) (s1 : Int) (s2 : LM) : H := [(1007, (.row 53 (.st 0) s2))]
def f123.T0_e0 (z3 : LM) : T := mkT 74 [(3, (.row 1007))]
def f123.H0_e0 (z3 : LM) : H := [(1007, (.row 53 (.st 0) z3))]
def f123.p0_e0' {R : Type} (L N : Nat) (k : LM → Option R) (z3 : LM) : Option R :=
  k z3
def f123.p0_e0 {R : Type} (L N : Nat) (k : LM → Option R) (z3 : LM) : Option R :=
  f123.p0_e0' L N k z3
def f123.b' {R : Type} (L N : Nat) (k : LM → Option R) (w0 : LM → Int → LM → Option R) (x0 : LM) : Option R :=
  w0 x0 (0 : Int) ([] : LM)
def f123.b {R : Type} (L N : Nat) (k : LM → Option R) (x0 : LM) : Option R :=
  f123.b' L N k (fun s0 s1 s2 => f123.l0 L N (fun z3 => f123.p0_e0 L N k z3) L s0 s1 s2) x0
def f123 (L N : Nat) (x0 : LM) : Option (LM) := f123.b L N some x0
def f123.ent (L N : Nat) (args : List AV) (vw : View) (site : Nat) : Ans := match roD [(.sl (.st 0))] vw args with
  | some d => ⟨LM, f123 L N d.1, fun y => (RN.av site .row (), [(site, some (mkO none 53 (.st 0) y))], [])⟩
  | none => Ans.no
noncomputable def E123 (L N : Nat) : Env := { P := Try.prog, ty := tyOf, Φ := (Φ98 L N), inl := inlT, live := lives, liveX := livesX, L := L, dp := none, prom := promT, heal := healT, ren := renT }
noncomputable def f123.c0 : Code := loopAt 0 (codeOf Try.f123)
noncomputable def f123.c1 : Code := loopAt 2 f123.c0
theorem f123.s1_pre {R : Type} (L N : Nat) (κ : Ex → T → H → Option R) (rec : T → H → Option R) (s4 : LM) (s5 : Int) (s6 : Int) (s7 : LM) :
    evRd (E123 L N) (evCallI (E123 L N) 1 2000) 1000 123 74 2 f123.c1 κ rec (f123.T1 s4 s5 s6 s7) (f123.H1 s4 s5 s6 s7)
    = f123.s1' L N (fun z14 z15 z16 z17 => κ (.exit 2) (f123.T1_e2 z14 z15 z16 z17) (f123.H1_e2 z14 z15 z16 z17)) (fun s4 s5 s6 s7 => rec (f123.T1 s4 s5 s6 s7) (f123.H1 s4 s5 s6 s7)) s4 s5 s6 s7 := by kernel_rfl
theorem f123.s1_eq {R : Type} (L N : Nat) (κ : Ex → T → H → Option R) (rec : T → H → Option R) (s4 : LM) (s5 : Int) (s6 : Int) (s7 : LM) :
    evRd (E123 L N) (evCallI (E123 L N) 1 2000) 1000 123 74 2 f123.c1 κ rec (f123.T1 s4 s5 s6 s7) (f123.H1 s4 s5 s6 s7)
    = f123.s1 L N (fun z14 z15 z16 z17 => κ (.exit 2) (f123.T1_e2 z14 z15 z16 z17) (f123.H1_e2 z14 z15 z16 z17)) (fun s4 s5 s6 s7 => rec (f123.T1 s4 s5 s6 s7) (f123.H1 s4 s5 s6 s7)) s4 s5 s6 s7 := by
  rw [f123.s1_pre]
  unfold f123.s1
  rfl
theorem f123.l1_eq {R : Type} (L N : Nat) (κ : Ex → T → H → Option R) : ∀ (n : Nat) (s4 : LM) (s5 : Int) (s6 : Int) (s7 : LM),
    evLp (E123 L N) (evCallI (E123 L N) 1 2000) 1000 123 74 2 f123.c1 κ n (f123.T1 s4 s5 s6 s7) (f123.H1 s4 s5 s6 s7)
    = f123.l1 L N (fun z14 z15 z16 z17 => κ (.exit 2) (f123.T1_e2 z14 z15 z16 z17) (f123.H1_e2 z14 z15 z16 z17)) n s4 s5 s6 s7 := by
  intro n
  induction n with
  | zero => intros; rfl
  | succ n ih =>
    intro s4 s5 s6 s7
    rw [evLp_succ, f123.s1_eq]
    simp only [ih]
    rfl
noncomputable def f123.c2 : Code := loopAt 4 f123.c0
theorem f123.s2_pre {R : Type} (L N : Nat) (κ : Ex → T → H → Option R) (rec : T → H → Option R) (s31 : LM) (s32 : Int) (s33 : Int) (s34 : Int) (s35 : LM) :
    evRd (E123 L N) (evCallI (E123 L N) 1 2000) 1000 123 74 4 f123.c2 κ rec (f123.T2 s31 s32 s33 s34 s35) (f123.H2 s31 s32 s33 s34 s35)
    = f123.s2' L N (fun z36 z37 z38 z39 => κ (.exit 4) (f123.T2_e4 z36 z37 z38 z39) (f123.H2_e4 z36 z37 z38 z39)) (fun s31 s32 s33 s34 s35 => rec (f123.T2 s31 s32 s33 s34 s35) (f123.H2 s31 s32 s33 s34 s35)) s31 s32 s33 s34 s35 := by kernel_rfl
theorem f123.s2_eq {R : Type} (L N : Nat) (κ : Ex → T → H → Option R) (rec : T → H → Option R) (s31 : LM) (s32 : Int) (s33 : Int) (s34 : Int) (s35 : LM) :
    evRd (E123 L N) (evCallI (E123 L N) 1 2000) 1000 123 74 4 f123.c2 κ rec (f123.T2 s31 s32 s33 s34 s35) (f123.H2 s31 s32 s33 s34 s35)
    = f123.s2 L N (fun z36 z37 z38 z39 => κ (.exit 4) (f123.T2_e4 z36 z37 z38 z39) (f123.H2_e4 z36 z37 z38 z39)) (fun s31 s32 s33 s34 s35 => rec (f123.T2 s31 s32 s33 s34 s35) (f123.H2 s31 s32 s33 s34 s35)) s31 s32 s33 s34 s35 := by
  rw [f123.s2_pre]
  unfold f123.s2
  rfl
theorem f123.l2_eq {R : Type} (L N : Nat) (κ : Ex → T → H → Option R) : ∀ (n : Nat) (s31 : LM) (s32 : Int) (s33 : Int) (s34 : Int) (s35 : LM),
    evLp (E123 L N) (evCallI (E123 L N) 1 2000) 1000 123 74 4 f123.c2 κ n (f123.T2 s31 s32 s33 s34 s35) (f123.H2 s31 s32 s33 s34 s35)
    = f123.l2 L N (fun z36 z37 z38 z39 => κ (.exit 4) (f123.T2_e4 z36 z37 z38 z39) (f123.H2_e4 z36 z37 z38 z39)) n s31 s32 s33 s34 s35 := by
  intro n
  induction n with
  | zero => intros; rfl
  | succ n ih =>
    intro s31 s32 s33 s34 s35
    rw [evLp_succ, f123.s2_eq]
    simp only [ih]
    rfl
theorem f123.p2_e4_pre {R : Type} (L N : Nat) (κ : Ex → T → H → Option R) (rec : T → H → Option R) (z36 : LM) (z37 : Int) (z38 : Int) (z39 : LM) :
    (contAt (E123 L N) (evCallI (E123 L N) 1 2000) 1000 123 74 4 f123.c0 (stepK (outK (keepT 74 ((E123 L N).liveX 123 0).1) (keepH 1000 ((E123 L N).liveX 123 0).2) κ) fun t h => rec (backK 1000 74 ((E123 L N).live 123 0).1 ((E123 L N).live 123 0).2 ((E123 L N).heal 123 0) ((E123 L N).ren 123 0) t h).1 (backK 1000 74 ((E123 L N).live 123 0).1 ((E123 L N).live 123 0).2 ((E123 L N).heal 123 0) ((E123 L N).ren 123 0) t h).2)) (.exit 4) (f123.T2_e4 z36 z37 z38 z39) (f123.H2_e4 z36 z37 z38 z39)
    = f123.p2_e4' L N (fun z3 => κ (.exit 0) (f123.T0_e0 z3) (f123.H0_e0 z3)) (fun s0 s1 s2 => rec (f123.T0 s0 s1 s2) (f123.H0 s0 s1 s2)) z36 z37 z38 z39 := by kernel_rfl
theorem f123.p2_e4_eq {R : Type} (L N : Nat) (κ : Ex → T → H → Option R) (rec : T → H → Option R) (z36 : LM) (z37 : Int) (z38 : Int) (z39 : LM) :
    (contAt (E123 L N) (evCallI (E123 L N) 1 2000) 1000 123 74 4 f123.c0 (stepK (outK (keepT 74 ((E123 L N).liveX 123 0).1) (keepH 1000 ((E123 L N).liveX 123 0).2) κ) fun t h => rec (backK 1000 74 ((E123 L N).live 123 0).1 ((E123 L N).live 123 0).2 ((E123 L N).heal 123 0) ((E123 L N).ren 123 0) t h).1 (backK 1000 74 ((E123 L N).live 123 0).1 ((E123 L N).live 123 0).2 ((E123 L N).heal 123 0) ((E123 L N).ren 123 0) t h).2)) (.exit 4) (f123.T2_e4 z36 z37 z38 z39) (f123.H2_e4 z36 z37 z38 z39)
    = f123.p2_e4 L N (fun z3 => κ (.exit 0) (f123.T0_e0 z3) (f123.H0_e0 z3)) (fun s0 s1 s2 => rec (f123.T0 s0 s1 s2) (f123.H0 s0 s1 s2)) z36 z37 z38 z39 := by
  rw [f123.p2_e4_pre]
  unfold f123.p2_e4
  rfl
theorem f123.p1_e2_pre {R : Type} (L N : Nat) (κ : Ex → T → H → Option R) (rec : T → H → Option R) (z14 : LM) (z15 : Int) (z16 : Int) (z17 : LM) :
    (contAt (E123 L N) (evCallI (E123 L N) 1 2000) 1000 123 74 2 f123.c0 (stepK (outK (keepT 74 ((E123 L N).liveX 123 0).1) (keepH 1000 ((E123 L N).liveX 123 0).2) κ) fun t h => rec (backK 1000 74 ((E123 L N).live 123 0).1 ((E123 L N).live 123 0).2 ((E123 L N).heal 123 0) ((E123 L N).ren 123 0) t h).1 (backK 1000 74 ((E123 L N).live 123 0).1 ((E123 L N).live 123 0).2 ((E123 L N).heal 123 0) ((E123 L N).ren 123 0) t h).2)) (.exit 2) (f123.T1_e2 z14 z15 z16 z17) (f123.H1_e2 z14 z15 z16 z17)
    = f123.p1_e2' L N (fun z3 => κ (.exit 0) (f123.T0_e0 z3) (f123.H0_e0 z3)) (fun s0 s1 s2 => rec (f123.T0 s0 s1 s2) (f123.H0 s0 s1 s2)) (fun s31 s32 s33 s34 s35 => evLp (E123 L N) (evCallI (E123 L N) 1 2000) 1000 123 74 4 f123.c2 (contAt (E123 L N) (evCallI (E123 L N) 1 2000) 1000 123 74 4 f123.c0 (stepK (outK (keepT 74 ((E123 L N).liveX 123 0).1) (keepH 1000 ((E123 L N).liveX 123 0).2) κ) fun t h => rec (backK 1000 74 ((E123 L N).live 123 0).1 ((E123 L N).live 123 0).2 ((E123 L N).heal 123 0) ((E123 L N).ren 123 0) t h).1 (backK 1000 74 ((E123 L N).live 123 0).1 ((E123 L N).live 123 0).2 ((E123 L N).heal 123 0) ((E123 L N).ren 123 0) t h).2)) L (f123.T2 s31 s32 s33 s34 s35) (f123.H2 s31 s32 s33 s34 s35)) z14 z15 z16 z17 := by kernel_rfl
theorem f123.p1_e2_eq {R : Type} (L N : Nat) (κ : Ex → T → H → Option R) (rec : T → H → Option R) (z14 : LM) (z15 : Int) (z16 : Int) (z17 : LM) :
    (contAt (E123 L N) (evCallI (E123 L N) 1 2000) 1000 123 74 2 f123.c0 (stepK (outK (keepT 74 ((E123 L N).liveX 123 0).1) (keepH 1000 ((E123 L N).liveX 123 0).2) κ) fun t h => rec (backK 1000 74 ((E123 L N).live 123 0).1 ((E123 L N).live 123 0).2 ((E123 L N).heal 123 0) ((E123 L N).ren 123 0) t h).1 (backK 1000 74 ((E123 L N).live 123 0).1 ((E123 L N).live 123 0).2 ((E123 L N).heal 123 0) ((E123 L N).ren 123 0) t h).2)) (.exit 2) (f123.T1_e2 z14 z15 z16 z17) (f123.H1_e2 z14 z15 z16 z17)
    = f123.p1_e2 L N (fun z3 => κ (.exit 0) (f123.T0_e0 z3) (f123.H0_e0 z3)) (fun s0 s1 s2 => rec (f123.T0 s0 s1 s2) (f123.H0 s0 s1 s2)) z14 z15 z16 z17 := by
  rw [f123.p1_e2_pre]
  unfold f123.p1_e2
  simp only [f123.l2_eq, f123.p2_e4_eq]
theorem f123.s0_pre {R : Type} (L N : Nat) (κ : Ex → T → H → Option R) (rec : T → H → Option R) (s0 : LM) (s1 : Int) (s2 : LM) :
    evRd (E123 L N) (evCallI (E123 L N) 1 2000) 1000 123 74 0 f123.c0 κ rec (f123.T0 s0 s1 s2) (f123.H0 s0 s1 s2)
    = f123.s0' L N (fun z3 => κ (.exit 0) (f123.T0_e0 z3) (f123.H0_e0 z3)) (fun s0 s1 s2 => rec (f123.T0 s0 s1 s2) (f123.H0 s0 s1 s2)) (fun s4 s5 s6 s7 => evLp (E123 L N) (evCallI (E123 L N) 1 2000) 1000 123 74 2 f123.c1 (contAt (E123 L N) (evCallI (E123 L N) 1 2000) 1000 123 74 2 f123.c0 (stepK (outK (keepT 74 ((E123 L N).liveX 123 0).1) (keepH 1000 ((E123 L N).liveX 123 0).2) κ) fun t h => rec (backK 1000 74 ((E123 L N).live 123 0).1 ((E123 L N).live 123 0).2 ((E123 L N).heal 123 0) ((E123 L N).ren 123 0) t h).1 (backK 1000 74 ((E123 L N).live 123 0).1 ((E123 L N).live 123 0).2 ((E123 L N).heal 123 0) ((E123 L N).ren 123 0) t h).2)) L (f123.T1 s4 s5 s6 s7) (f123.H1 s4 s5 s6 s7)) s0 s1 s2 := by kernel_rfl
theorem f123.s0_eq {R : Type} (L N : Nat) (κ : Ex → T → H → Option R) (rec : T → H → Option R) (s0 : LM) (s1 : Int) (s2 : LM) :
    evRd (E123 L N) (evCallI (E123 L N) 1 2000) 1000 123 74 0 f123.c0 κ rec (f123.T0 s0 s1 s2) (f123.H0 s0 s1 s2)
    = f123.s0 L N (fun z3 => κ (.exit 0) (f123.T0_e0 z3) (f123.H0_e0 z3)) (fun s0 s1 s2 => rec (f123.T0 s0 s1 s2) (f123.H0 s0 s1 s2)) s0 s1 s2 := by
  rw [f123.s0_pre]
  unfold f123.s0
  simp only [f123.l1_eq, f123.p1_e2_eq]
theorem f123.l0_eq {R : Type} (L N : Nat) (κ : Ex → T → H → Option R) : ∀ (n : Nat) (s0 : LM) (s1 : Int) (s2 : LM),
    evLp (E123 L N) (evCallI (E123 L N) 1 2000) 1000 123 74 0 f123.c0 κ n (f123.T0 s0 s1 s2) (f123.H0 s0 s1 s2)
    = f123.l0 L N (fun z3 => κ (.exit 0) (f123.T0_e0 z3) (f123.H0_e0 z3)) n s0 s1 s2 := by
  intro n
  induction n with
  | zero => intros; rfl
  | succ n ih =>
    intro s0 s1 s2
    rw [evLp_succ, f123.s0_eq]
    simp only [ih]
    rfl
theorem f123.p0_e0_pre {R : Type} (L N : Nat) (κ : RN.Den .row → List Move → Option R) (z3 : LM) :
    (contAt (E123 L N) (evCallI (E123 L N) 1 2000) 1000 123 74 0 (codeOf Try.f123) (finK (E123 L N) 1000 Try.f123 (finN .row none 53 (.st 0) κ))) (.exit 0) (f123.T0_e0 z3) (f123.H0_e0 z3)
    = f123.p0_e0' L N (fun a0 => κ () a0) z3 := by kernel_rfl
theorem f123.p0_e0_eq {R : Type} (L N : Nat) (κ : RN.Den .row → List Move → Option R) (z3 : LM) :
    (contAt (E123 L N) (evCallI (E123 L N) 1 2000) 1000 123 74 0 (codeOf Try.f123) (finK (E123 L N) 1000 Try.f123 (finN .row none 53 (.st 0) κ))) (.exit 0) (f123.T0_e0 z3) (f123.H0_e0 z3)
    = f123.p0_e0 L N (fun a0 => κ () a0) z3 := by
  rw [f123.p0_e0_pre]
  unfold f123.p0_e0
  rfl
theorem f123.b_pre {R : Type} (L N : Nat) (κ : RN.Den .row → List Move → Option R) (x0 : LM) :
    evBody (E123 L N) (evCallI (E123 L N) 1 2000) 1000 123 Try.f123 [(.tv (.sl (.st 0)) x0)] [] [] (finN .row none 53 (.st 0) κ)
    = f123.b' L N (fun a0 => κ () a0) (fun s0 s1 s2 => evLp (E123 L N) (evCallI (E123 L N) 1 2000) 1000 123 74 0 f123.c0 (contAt (E123 L N) (evCallI (E123 L N) 1 2000) 1000 123 74 0 (codeOf Try.f123) (finK (E123 L N) 1000 Try.f123 (finN .row none 53 (.st 0) κ))) L (f123.T0 s0 s1 s2) (f123.H0 s0 s1 s2)) x0 := by kernel_rfl
theorem f123.b_eq {R : Type} (L N : Nat) (κ : RN.Den .row → List Move → Option R) (x0 : LM) :
    evBody (E123 L N) (evCallI (E123 L N) 1 2000) 1000 123 Try.f123 [(.tv (.sl (.st 0)) x0)] [] [] (finN .row none 53 (.st 0) κ)
    = f123.b L N (fun a0 => κ () a0) x0 := by
  rw [f123.b_pre]
  unfold f123.b
  simp only [f123.l0_eq, f123.p0_e0_eq]
theorem f123.s1'_nat {R R' : Type} (j : R → Option R') (L N : Nat) (k1_e2 : LM → Int → Int → LM → Option R) (rec1 : LM → Int → Int → LM → Option R) (s4 : LM) (s5 : Int) (s6 : Int) (s7 : LM) :
    f123.s1' L N (fun a0 a1 a2 a3 => (k1_e2 a0 a1 a2 a3).bind j) (fun a0 a1 a2 a3 => (rec1 a0 a1 a2 a3).bind j) s4 s5 s6 s7 = (f123.s1' L N k1_e2 rec1 s4 s5 s6 s7).bind j := by
  unfold f123.s1'
  repeat' (first | (with_reducible refine cond_nat ?_ ?_) | (with_reducible refine bind_nat fun _ => ?_) | rfl)
theorem f123.s1_nat {R R' : Type} (j : R → Option R') (L N : Nat) (k1_e2 : LM → Int → Int → LM → Option R) (rec1 : LM → Int → Int → LM → Option R) (s4 : LM) (s5 : Int) (s6 : Int) (s7 : LM) :
    f123.s1 L N (fun a0 a1 a2 a3 => (k1_e2 a0 a1 a2 a3).bind j) (fun a0 a1 a2 a3 => (rec1 a0 a1 a2 a3).bind j) s4 s5 s6 s7 = (f123.s1 L N k1_e2 rec1 s4 s5 s6 s7).bind j := by
  unfold f123.s1
  exact f123.s1'_nat ..
theorem f123.l1_nat {R R' : Type} (j : R → Option R') (L N : Nat) (k1_e2 : LM → Int → Int → LM → Option R) : ∀ (n : Nat) (s4 : LM) (s5 : Int) (s6 : Int) (s7 : LM),
    f123.l1 L N (fun a0 a1 a2 a3 => (k1_e2 a0 a1 a2 a3).bind j) n s4 s5 s6 s7 = (f123.l1 L N k1_e2 n s4 s5 s6 s7).bind j := by
  intro n
  induction n with
  | zero => intros; rfl
  | succ n ih =>
    intro s4 s5 s6 s7
    show f123.s1 L N (fun a0 a1 a2 a3 => (k1_e2 a0 a1 a2 a3).bind j) (f123.l1 L N (fun a0 a1 a2 a3 => (k1_e2 a0 a1 a2 a3).bind j) n) s4 s5 s6 s7 = _
    rw [show f123.l1 L N (fun a0 a1 a2 a3 => (k1_e2 a0 a1 a2 a3).bind j) n = (fun s4 s5 s6 s7 => (f123.l1 L N k1_e2 n s4 s5 s6 s7).bind j) from funext fun s4 => funext fun s5 => funext fun s6 => funext fun s7 => ih s4 s5 s6 s7]
    exact f123.s1_nat ..
theorem f123.s2'_nat {R R' : Type} (j : R → Option R') (L N : Nat) (k2_e4 : LM → Int → Int → LM → Option R) (rec2 : LM → Int → Int → Int → LM → Option R) (s31 : LM) (s32 : Int) (s33 : Int) (s34 : Int) (s35 : LM) :
    f123.s2' L N (fun a0 a1 a2 a3 => (k2_e4 a0 a1 a2 a3).bind j) (fun a0 a1 a2 a3 a4 => (rec2 a0 a1 a2 a3 a4).bind j) s31 s32 s33 s34 s35 = (f123.s2' L N k2_e4 rec2 s31 s32 s33 s34 s35).bind j := by
  unfold f123.s2'
  repeat' (first | (with_reducible refine cond_nat ?_ ?_) | (with_reducible refine bind_nat fun _ => ?_) | rfl)
theorem f123.s2_nat {R R' : Type} (j : R → Option R') (L N : Nat) (k2_e4 : LM → Int → Int → LM → Option R) (rec2 : LM → Int → Int → Int → LM → Option R) (s31 : LM) (s32 : Int) (s33 : Int) (s34 : Int) (s35 : LM) :
    f123.s2 L N (fun a0 a1 a2 a3 => (k2_e4 a0 a1 a2 a3).bind j) (fun a0 a1 a2 a3 a4 => (rec2 a0 a1 a2 a3 a4).bind j) s31 s32 s33 s34 s35 = (f123.s2 L N k2_e4 rec2 s31 s32 s33 s34 s35).bind j := by
  unfold f123.s2
  exact f123.s2'_nat ..
theorem f123.l2_nat {R R' : Type} (j : R → Option R') (L N : Nat) (k2_e4 : LM → Int → Int → LM → Option R) : ∀ (n : Nat) (s31 : LM) (s32 : Int) (s33 : Int) (s34 : Int) (s35 : LM),
    f123.l2 L N (fun a0 a1 a2 a3 => (k2_e4 a0 a1 a2 a3).bind j) n s31 s32 s33 s34 s35 = (f123.l2 L N k2_e4 n s31 s32 s33 s34 s35).bind j := by
  intro n
  induction n with
  | zero => intros; rfl
  | succ n ih =>
    intro s31 s32 s33 s34 s35
    show f123.s2 L N (fun a0 a1 a2 a3 => (k2_e4 a0 a1 a2 a3).bind j) (f123.l2 L N (fun a0 a1 a2 a3 => (k2_e4 a0 a1 a2 a3).bind j) n) s31 s32 s33 s34 s35 = _
    rw [show f123.l2 L N (fun a0 a1 a2 a3 => (k2_e4 a0 a1 a2 a3).bind j) n = (fun s31 s32 s33 s34 s35 => (f123.l2 L N k2_e4 n s31 s32 s33 s34 s35).bind j) from funext fun s31 => funext fun s32 => funext fun s33 => funext fun s34 => funext fun s35 => ih s31 s32 s33 s34 s35]
    exact f123.s2_nat ..
theorem f123.p2_e4'_nat {R R' : Type} (j : R → Option R') (L N : Nat) (k0_e0 : LM → Option R) (rec0 : LM → Int → LM → Option R) (z36 : LM) (z37 : Int) (z38 : Int) (z39 : LM) :
    f123.p2_e4' L N (fun a0 => (k0_e0 a0).bind j) (fun a0 a1 a2 => (rec0 a0 a1 a2).bind j) z36 z37 z38 z39 = (f123.p2_e4' L N k0_e0 rec0 z36 z37 z38 z39).bind j := by
  unfold f123.p2_e4'
  repeat' (first | (with_reducible refine cond_nat ?_ ?_) | (with_reducible refine bind_nat fun _ => ?_) | rfl)
theorem f123.p2_e4_nat {R R' : Type} (j : R → Option R') (L N : Nat) (k0_e0 : LM → Option R) (rec0 : LM → Int → LM → Option R) (z36 : LM) (z37 : Int) (z38 : Int) (z39 : LM) :
    f123.p2_e4 L N (fun a0 => (k0_e0 a0).bind j) (fun a0 a1 a2 => (rec0 a0 a1 a2).bind j) z36 z37 z38 z39 = (f123.p2_e4 L N k0_e0 rec0 z36 z37 z38 z39).bind j := by
  unfold f123.p2_e4
  exact f123.p2_e4'_nat ..
theorem f123.j0'_nat {R R' : Type} (j : R → Option R') (L N : Nat) (k0_e0 : LM → Option R) (rec0 : LM → Int → LM → Option R) (w2 : LM → Int → Int → Int → LM → Option R) (v27 : LM) (v28 : Int) (v29 : Int) (v30 : LM) :
    f123.j0' L N (fun a0 => (k0_e0 a0).bind j) (fun a0 a1 a2 => (rec0 a0 a1 a2).bind j) (fun a0 a1 a2 a3 a4 => (w2 a0 a1 a2 a3 a4).bind j) v27 v28 v29 v30 = (f123.j0' L N k0_e0 rec0 w2 v27 v28 v29 v30).bind j := by
  unfold f123.j0'
  repeat' (first | (with_reducible refine cond_nat ?_ ?_) | (with_reducible refine bind_nat fun _ => ?_) | rfl)
theorem f123.p1_e2'_nat {R R' : Type} (j : R → Option R') (L N : Nat) (k0_e0 : LM → Option R) (rec0 : LM → Int → LM → Option R) (w2 : LM → Int → Int → Int → LM → Option R) (z14 : LM) (z15 : Int) (z16 : Int) (z17 : LM) :
    f123.p1_e2' L N (fun a0 => (k0_e0 a0).bind j) (fun a0 a1 a2 => (rec0 a0 a1 a2).bind j) (fun a0 a1 a2 a3 a4 => (w2 a0 a1 a2 a3 a4).bind j) z14 z15 z16 z17 = (f123.p1_e2' L N k0_e0 rec0 w2 z14 z15 z16 z17).bind j := by
  unfold f123.p1_e2'
  repeat' (first | (with_reducible refine cond_nat ?_ ?_) | (with_reducible refine bind_nat fun _ => ?_) | exact f123.j0'_nat .. | rfl)
theorem f123.p1_e2_nat {R R' : Type} (j : R → Option R') (L N : Nat) (k0_e0 : LM → Option R) (rec0 : LM → Int → LM → Option R) (z14 : LM) (z15 : Int) (z16 : Int) (z17 : LM) :
    f123.p1_e2 L N (fun a0 => (k0_e0 a0).bind j) (fun a0 a1 a2 => (rec0 a0 a1 a2).bind j) z14 z15 z16 z17 = (f123.p1_e2 L N k0_e0 rec0 z14 z15 z16 z17).bind j := by
  unfold f123.p1_e2
  simp only [f123.l2_nat, f123.p2_e4_nat]
  exact f123.p1_e2'_nat ..
theorem f123.s0'_nat {R R' : Type} (j : R → Option R') (L N : Nat) (k0_e0 : LM → Option R) (rec0 : LM → Int → LM → Option R) (w1 : LM → Int → Int → LM → Option R) (s0 : LM) (s1 : Int) (s2 : LM) :
    f123.s0' L N (fun a0 => (k0_e0 a0).bind j) (fun a0 a1 a2 => (rec0 a0 a1 a2).bind j) (fun a0 a1 a2 a3 => (w1 a0 a1 a2 a3).bind j) s0 s1 s2 = (f123.s0' L N k0_e0 rec0 w1 s0 s1 s2).bind j := by
  unfold f123.s0'
  repeat' (first | (with_reducible refine cond_nat ?_ ?_) | (with_reducible refine bind_nat fun _ => ?_) | rfl)
theorem f123.s0_nat {R R' : Type} (j : R → Option R') (L N : Nat) (k0_e0 : LM → Option R) (rec0 : LM → Int → LM → Option R) (s0 : LM) (s1 : Int) (s2 : LM) :
    f123.s0 L N (fun a0 => (k0_e0 a0).bind j) (fun a0 a1 a2 => (rec0 a0 a1 a2).bind j) s0 s1 s2 = (f123.s0 L N k0_e0 rec0 s0 s1 s2).bind j := by
  unfold f123.s0
  simp only [f123.l1_nat, f123.p1_e2_nat]
  exact f123.s0'_nat ..
theorem f123.l0_nat {R R' : Type} (j : R → Option R') (L N : Nat) (k0_e0 : LM → Option R) : ∀ (n : Nat) (s0 : LM) (s1 : Int) (s2 : LM),
    f123.l0 L N (fun a0 => (k0_e0 a0).bind j) n s0 s1 s2 = (f123.l0 L N k0_e0 n s0 s1 s2).bind j := by
  intro n
  induction n with
  | zero => intros; rfl
  | succ n ih =>
    intro s0 s1 s2
    show f123.s0 L N (fun a0 => (k0_e0 a0).bind j) (f123.l0 L N (fun a0 => (k0_e0 a0).bind j) n) s0 s1 s2 = _
    rw [show f123.l0 L N (fun a0 => (k0_e0 a0).bind j) n = (fun s0 s1 s2 => (f123.l0 L N k0_e0 n s0 s1 s2).bind j) from funext fun s0 => funext fun s1 => funext fun s2 => ih s0 s1 s2]
    exact f123.s0_nat ..
theorem f123.p0_e0'_nat {R R' : Type} (j : R → Option R') (L N : Nat) (k : LM → Option R) (z3 : LM) :
    f123.p0_e0' L N (fun a0 => (k a0).bind j) z3 = (f123.p0_e0' L N k z3).bind j := by
  unfold f123.p0_e0'
  repeat' (first | (with_reducible refine cond_nat ?_ ?_) | (with_reducible refine bind_nat fun _ => ?_) | rfl)
theorem f123.p0_e0_nat {R R' : Type} (j : R → Option R') (L N : Nat) (k : LM → Option R) (z3 : LM) :
    f123.p0_e0 L N (fun a0 => (k a0).bind j) z3 = (f123.p0_e0 L N k z3).bind j := by
  unfold f123.p0_e0
  exact f123.p0_e0'_nat ..
theorem f123.b'_nat {R R' : Type} (j : R → Option R') (L N : Nat) (k : LM → Option R) (w0 : LM → Int → LM → Option R) (x0 : LM) :
    f123.b' L N (fun a0 => (k a0).bind j) (fun a0 a1 a2 => (w0 a0 a1 a2).bind j) x0 = (f123.b' L N k w0 x0).bind j := by
  unfold f123.b'
  repeat' (first | (with_reducible refine cond_nat ?_ ?_) | (with_reducible refine bind_nat fun _ => ?_) | rfl)
theorem f123.b_nat {R R' : Type} (j : R → Option R') (L N : Nat) (k : LM → Option R) (x0 : LM) :
    f123.b L N (fun a0 => (k a0).bind j) x0 = (f123.b L N k x0).bind j := by
  unfold f123.b
  simp only [f123.l0_nat, f123.p0_e0_nat]
  exact f123.b'_nat ..
theorem f123.ok (L N : Nat) (hΦ : TellsOk Try.prog ((Φ98 L N))) : EntOk Try.prog 123 (f123.ent L N) := by
  intro args vw site h
  unfold f123.ent
  split
  · rename_i d ha
    intro y hy hs
    refine call_ron (dep := 1000) (E := (E123 L N)) (ts := [(.sl (.st 0))]) (rn := .row) (q := none) (el := 53) (ty := (.st 0)) (d1 := ()) (xs := y) (sound_of hΦ) okP (callI_sound (sound_of hΦ) okP 1 2000) (f := Try.f123) rfl hs ha ?_ rfl site
    refine (f123.b_eq L N (fun d xs => some (d, xs)) d.1).trans ?_
    refine ((f123.b_nat (fun y => (some ((), y) : Option (RN.Den .row × List Move))) L N some d.1)).trans ?_
    rw [show f123.b L N some d.1 = some y from hy]
    rfl
  · intro y hy
    cases hy
def Φ123 (L N : Nat) : Tells := (addT (Φ98 L N) 123 (f123.ent L N))
theorem Φ123_ok (L N : Nat) : TellsOk Try.prog (Φ123 L N) := addT_ok (Φ98_ok L N) (f123.ok L N (Φ98_ok L N))
def f160.b' {R : Type} (L N : Nat) (self160 : Int → Option (ByteArray)) (k : ByteArray → Option R) (x0 : Int) : Option R :=
  bif (decide (x0 < (-9223372036854775807 : Int))) then
    k (ByteArray.mk #[45, 57, 50, 50, 51, 51, 55, 50, 48, 51, 54, 56, 53, 52, 55, 55, 53, 56, 48, 56])
  else bif (decide (x0 < (0 : Int))) then
    (self160 (wi (0 - x0))).bind fun y0 =>
    bif (decide ((ByteArray.mk #[45]).size + y0.size ≤ 4611686018427387904)) then
      k ((ByteArray.mk #[45]) ++ y0)
    else none
  else bif (decide (x0 < (10 : Int))) then
    k (strOfNums ([(IntKind.wrap .u8 ((wi ((48 : Int) + x0))))] : LI))
  else bif (decide ((10 : Int) = 0)) then
    none
  else (self160 (wi (Int.tdiv x0 (10 : Int)))).bind fun y1 =>
  bif (decide ((10 : Int) = 0)) then
    none
  else bif (decide (y1.size + (strOfNums ([(IntKind.wrap .u8 ((wi ((48 : Int) + (Int.tmod x0 (10 : Int))))))] : LI)).size ≤ 4611686018427387904)) then
    k (y1 ++ (strOfNums ([(IntKind.wrap .u8 ((wi ((48 : Int) + (Int.tmod x0 (10 : Int))))))] : LI)))
  else none
def f160.b {R : Type} (L N : Nat) (self160 : Int → Option (ByteArray)) (k : ByteArray → Option R) (x0 : Int) : Option R :=
  f160.b' L N self160 k x0
def f160 (L N : Nat) : Nat → Int → Option (ByteArray)
  | 0, _ => none
  | n + 1, x0 => f160.b L N (f160 L N n) some x0
def f160.ent (L N m : Nat) (args : List AV) (vw : View) (site : Nat) : Ans := match roD [i64] vw args with
  | some d => ⟨ByteArray, f160 L N m d.1, fun y => ((.tv .str y), [], [])⟩
  | none => Ans.no
def Φ160s (L N m : Nat) : Tells := (addT (Φ123 L N) 160 (f160.ent L N m))
noncomputable def E160 (L N m : Nat) : Env := { P := Try.prog, ty := tyOf, Φ := Φ160s L N m, inl := inlT, live := lives, liveX := livesX, L := L, dp := none, prom := promT, heal := healT, ren := renT }
theorem f160.b_pre {R : Type} (L N m : Nat) (κ : AV → Option R) (x0 : Int) :
    evBody (E160 L N m) (evCallI (E160 L N m) 1 2000) 1000 160 Try.f160 [(.tv i64 x0)] [] [] (finC (.one .str) κ)
    = f160.b' L N (f160 L N m) (fun a0 => κ (.tv .str a0)) x0 := by kernel_rfl
theorem f160.b_eq {R : Type} (L N m : Nat) (κ : AV → Option R) (x0 : Int) :
    evBody (E160 L N m) (evCallI (E160 L N m) 1 2000) 1000 160 Try.f160 [(.tv i64 x0)] [] [] (finC (.one .str) κ)
    = f160.b L N (f160 L N m) (fun a0 => κ (.tv .str a0)) x0 := by
  rw [f160.b_pre]
  unfold f160.b
  rfl
theorem f160.b'_nat {R R' : Type} (j : R → Option R') (L N : Nat) (self160 : Int → Option (ByteArray)) (k : ByteArray → Option R) (x0 : Int) :
    f160.b' L N self160 (fun a0 => (k a0).bind j) x0 = (f160.b' L N self160 k x0).bind j := by
  unfold f160.b'
  repeat' (first | (with_reducible refine cond_nat ?_ ?_) | (with_reducible refine bind_nat fun _ => ?_) | rfl)
theorem f160.b_nat {R R' : Type} (j : R → Option R') (L N : Nat) (self160 : Int → Option (ByteArray)) (k : ByteArray → Option R) (x0 : Int) :
    f160.b L N self160 (fun a0 => (k a0).bind j) x0 = (f160.b L N self160 k x0).bind j := by
  unfold f160.b
  exact f160.b'_nat ..
theorem f160.ok (L N m : Nat) (hΦ : TellsOk Try.prog (Φ160s L N m)) : EntOk Try.prog 160 (f160.ent L N (m + 1)) := by
  intro args vw site h
  unfold f160.ent
  split
  · rename_i d ha
    intro y hy hs
    refine call_ro (dep := 1000) (E := (E160 L N m)) (rs := (.one .str)) (v := (.tv .str y)) (sound_of hΦ) okP (callI_sound (sound_of hΦ) okP 1 2000) (f := Try.f160) rfl hs ha ?_ rfl site
    refine (f160.b_eq L N m some d.1).trans ?_
    refine ((f160.b_nat (fun y => (some (.tv .str y) : Option AV)) L N (f160 L N m) some d.1)).trans ?_
    rw [show f160.b L N (f160 L N m) some d.1 = some y from hy]
    rfl
  · intro y hy
    cases hy
theorem Φ160s_ok (L N : Nat) : ∀ m, TellsOk Try.prog (Φ160s L N m) := by
  intro m
  induction m with
  | zero => exact (addT_ok (Φ123_ok L N) (fun args vw site h => by unfold f160.ent; split <;> (intro y hy; cases hy)))
  | succ m ih => exact (addT_ok (Φ123_ok L N) (f160.ok L N m ih))
def Φ160 (L N : Nat) : Tells := (addT (Φ123 L N) 160 (f160.ent L N N))
theorem Φ160_ok (L N : Nat) : TellsOk Try.prog (Φ160 L N) := Φ160s_ok L N N
def f161.b' {R : Type} (L N : Nat) (k : LY → Option R) : Option R :=
  k ([(ByteArray.mk #[]), (ByteArray.mk #[97, 99, 116]), (ByteArray.mk #[115, 117, 109]), (ByteArray.mk #[112, 97, 114]), (ByteArray.mk #[104, 105, 100, 101])] : LY)
def f161.b {R : Type} (L N : Nat) (k : LY → Option R) : Option R :=
  f161.b' L N k
def f161 (L N : Nat) : Option (LY) := f161.b L N some
def f161.ent (L N : Nat) (args : List AV) (vw : View) (site : Nat) : Ans := match coeD [] vw args with
  | some (d, u) => ⟨LY, f161 L N, fun y => ((.tv (.sl .str) y), u, [])⟩
  | none => Ans.no
noncomputable def E161 (L N : Nat) : Env := { P := Try.prog, ty := tyOf, Φ := (Φ160 L N), inl := inlT, live := lives, liveX := livesX, L := L, dp := none, prom := promT, heal := healT, ren := renT }
theorem f161.b_pre {R : Type} (L N : Nat) (κ : AV → Option R) :
    evBody (E161 L N) (evCallI (E161 L N) 1 2000) 1000 161 Try.f161 [] [] [] (finC (.one (.sl .str)) κ)
    = f161.b' L N (fun a0 => κ (.tv (.sl .str) a0)) := by kernel_rfl
theorem f161.b_eq {R : Type} (L N : Nat) (κ : AV → Option R) :
    evBody (E161 L N) (evCallI (E161 L N) 1 2000) 1000 161 Try.f161 [] [] [] (finC (.one (.sl .str)) κ)
    = f161.b L N (fun a0 => κ (.tv (.sl .str) a0)) := by
  rw [f161.b_pre]
  unfold f161.b
  rfl
theorem f161.b'_nat {R R' : Type} (j : R → Option R') (L N : Nat) (k : LY → Option R) :
    f161.b' L N (fun a0 => (k a0).bind j) = (f161.b' L N k).bind j := by
  unfold f161.b'
  repeat' (first | (with_reducible refine cond_nat ?_ ?_) | (with_reducible refine bind_nat fun _ => ?_) | rfl)
theorem f161.b_nat {R R' : Type} (j : R → Option R') (L N : Nat) (k : LY → Option R) :
    f161.b L N (fun a0 => (k a0).bind j) = (f161.b L N k).bind j := by
  unfold f161.b
  exact f161.b'_nat ..
theorem f161.ok (L N : Nat) (hΦ : TellsOk Try.prog ((Φ160 L N))) : EntOk Try.prog 161 (f161.ent L N) := by
  intro args vw site h
  unfold f161.ent
  split
  · rename_i d u ha
    intro y hy hs
    refine call_data (dep := 1000) (E := (E161 L N)) (rs := (.one (.sl .str))) (v' := (.tv (.sl .str) y)) (sound_of hΦ) okP (callI_sound (sound_of hΦ) okP 1 2000) (f := Try.f161) rfl hs ha ?_ site
    refine (f161.b_eq L N some).trans ?_
    refine ((f161.b_nat (fun y => (some (.tv (.sl .str) y) : Option AV)) L N some)).trans ?_
    rw [show f161.b L N some = some y from hy]
    rfl
  · intro y hy
    cases hy
def Φ161 (L N : Nat) : Tells := (addT (Φ160 L N) 161 (f161.ent L N))
theorem Φ161_ok (L N : Nat) : TellsOk Try.prog (Φ161 L N) := addT_ok (Φ160_ok L N) (f161.ok L N (Φ160_ok L N))
def f163.b' {R : Type} (L N : Nat) (k : Int → Option R) (x0 : Int) : Option R :=
  k (wi ((bif decide ((wi (0 - x0)) > x0) then (wi (0 - x0)) else x0) - (1 : Int)))
def f163.b {R : Type} (L N : Nat) (k : Int → Option R) (x0 : Int) : Option R :=
  f163.b' L N k x0
def f163 (L N : Nat) (x0 : Int) : Option (Int) := f163.b L N some x0
def f163.ent (L N : Nat) (args : List AV) (vw : View) (site : Nat) : Ans := match roD [i64] vw args with
  | some d => ⟨Int, f163 L N d.1, fun y => ((.tv i64 y), [], [])⟩
  | none => Ans.no
noncomputable def E163 (L N : Nat) : Env := { P := Try.prog, ty := tyOf, Φ := (Φ161 L N), inl := inlT, live := lives, liveX := livesX, L := L, dp := none, prom := promT, heal := healT, ren := renT }
theorem f163.b_pre {R : Type} (L N : Nat) (κ : AV → Option R) (x0 : Int) :
    evBody (E163 L N) (evCallI (E163 L N) 1 2000) 1000 163 Try.f163 [(.tv i64 x0)] [] [] (finC (.one i64) κ)
    = f163.b' L N (fun a0 => κ (.tv i64 a0)) x0 := by kernel_rfl
theorem f163.b_eq {R : Type} (L N : Nat) (κ : AV → Option R) (x0 : Int) :
    evBody (E163 L N) (evCallI (E163 L N) 1 2000) 1000 163 Try.f163 [(.tv i64 x0)] [] [] (finC (.one i64) κ)
    = f163.b L N (fun a0 => κ (.tv i64 a0)) x0 := by
  rw [f163.b_pre]
  unfold f163.b
  rfl
theorem f163.b'_nat {R R' : Type} (j : R → Option R') (L N : Nat) (k : Int → Option R) (x0 : Int) :
    f163.b' L N (fun a0 => (k a0).bind j) x0 = (f163.b' L N k x0).bind j := by
  unfold f163.b'
  repeat' (first | (with_reducible refine cond_nat ?_ ?_) | (with_reducible refine bind_nat fun _ => ?_) | rfl)
theorem f163.b_nat {R R' : Type} (j : R → Option R') (L N : Nat) (k : Int → Option R) (x0 : Int) :
    f163.b L N (fun a0 => (k a0).bind j) x0 = (f163.b L N k x0).bind j := by
  unfold f163.b
  exact f163.b'_nat ..
theorem f163.ok (L N : Nat) (hΦ : TellsOk Try.prog ((Φ161 L N))) : EntOk Try.prog 163 (f163.ent L N) := by
  intro args vw site h
  unfold f163.ent
  split
  · rename_i d ha
    intro y hy hs
    refine call_ro (dep := 1000) (E := (E163 L N)) (rs := (.one i64)) (v := (.tv i64 y)) (sound_of hΦ) okP (callI_sound (sound_of hΦ) okP 1 2000) (f := Try.f163) rfl hs ha ?_ rfl site
    refine (f163.b_eq L N some d.1).trans ?_
    refine ((f163.b_nat (fun y => (some (.tv i64 y) : Option AV)) L N some d.1)).trans ?_
    rw [show f163.b L N some d.1 = some y from hy]
    rfl
  · intro y hy
    cases hy
def Φ163 (L N : Nat) : Tells := (addT (Φ161 L N) 163 (f163.ent L N))
theorem Φ163_ok (L N : Nat) : TellsOk Try.prog (Φ163 L N) := addT_ok (Φ161_ok L N) (f163.ok L N (Φ161_ok L N))
def f162.b' {R : Type} (L N : Nat) (k : ByteArray → Option R) (x0 : Int) : Option R :=
  bif (x0 == (0 : Int)) then
    k (ByteArray.mk #[116, 97, 117])
  else bif (decide (x0 < (0 : Int))) then
    (f163 L N x0).bind fun y0 =>
    (f163 L N x0).bind fun y1 =>
    bif (slB y0 (wi (y1 + (1 : Int))) (ByteArray.mk #[97, 98, 99, 100]).size) then
      bif (decide ((ByteArray.mk #[33]).size + ((ByteArray.mk #[97, 98, 99, 100]).extract y0.toNat (wi (y1 + (1 : Int))).toNat).size ≤ 4611686018427387904)) then
        k ((ByteArray.mk #[33]) ++ ((ByteArray.mk #[97, 98, 99, 100]).extract y0.toNat (wi (y1 + (1 : Int))).toNat))
      else none
    else none
  else (f163 L N x0).bind fun y2 =>
  (f163 L N x0).bind fun y3 =>
  bif (slB y2 (wi (y3 + (1 : Int))) (ByteArray.mk #[97, 98, 99, 100]).size) then
    k ((ByteArray.mk #[97, 98, 99, 100]).extract y2.toNat (wi (y3 + (1 : Int))).toNat)
  else none
def f162.b {R : Type} (L N : Nat) (k : ByteArray → Option R) (x0 : Int) : Option R :=
  f162.b' L N k x0
def f162 (L N : Nat) (x0 : Int) : Option (ByteArray) := f162.b L N some x0
def f162.ent (L N : Nat) (args : List AV) (vw : View) (site : Nat) : Ans := match roD [i64] vw args with
  | some d => ⟨ByteArray, f162 L N d.1, fun y => ((.tv .str y), [], [])⟩
  | none => Ans.no
noncomputable def E162 (L N : Nat) : Env := { P := Try.prog, ty := tyOf, Φ := (Φ163 L N), inl := inlT, live := lives, liveX := livesX, L := L, dp := none, prom := promT, heal := healT, ren := renT }
theorem f162.b_pre {R : Type} (L N : Nat) (κ : AV → Option R) (x0 : Int) :
    evBody (E162 L N) (evCallI (E162 L N) 1 2000) 1000 162 Try.f162 [(.tv i64 x0)] [] [] (finC (.one .str) κ)
    = f162.b' L N (fun a0 => κ (.tv .str a0)) x0 := by kernel_rfl
theorem f162.b_eq {R : Type} (L N : Nat) (κ : AV → Option R) (x0 : Int) :
    evBody (E162 L N) (evCallI (E162 L N) 1 2000) 1000 162 Try.f162 [(.tv i64 x0)] [] [] (finC (.one .str) κ)
    = f162.b L N (fun a0 => κ (.tv .str a0)) x0 := by
  rw [f162.b_pre]
  unfold f162.b
  rfl
theorem f162.b'_nat {R R' : Type} (j : R → Option R') (L N : Nat) (k : ByteArray → Option R) (x0 : Int) :
    f162.b' L N (fun a0 => (k a0).bind j) x0 = (f162.b' L N k x0).bind j := by
  unfold f162.b'
  repeat' (first | (with_reducible refine cond_nat ?_ ?_) | (with_reducible refine bind_nat fun _ => ?_) | rfl)
theorem f162.b_nat {R R' : Type} (j : R → Option R') (L N : Nat) (k : ByteArray → Option R) (x0 : Int) :
    f162.b L N (fun a0 => (k a0).bind j) x0 = (f162.b L N k x0).bind j := by
  unfold f162.b
  exact f162.b'_nat ..
theorem f162.ok (L N : Nat) (hΦ : TellsOk Try.prog ((Φ163 L N))) : EntOk Try.prog 162 (f162.ent L N) := by
  intro args vw site h
  unfold f162.ent
  split
  · rename_i d ha
    intro y hy hs
    refine call_ro (dep := 1000) (E := (E162 L N)) (rs := (.one .str)) (v := (.tv .str y)) (sound_of hΦ) okP (callI_sound (sound_of hΦ) okP 1 2000) (f := Try.f162) rfl hs ha ?_ rfl site
    refine (f162.b_eq L N some d.1).trans ?_
    refine ((f162.b_nat (fun y => (some (.tv .str y) : Option AV)) L N some d.1)).trans ?_
    rw [show f162.b L N some d.1 = some y from hy]
    rfl
  · intro y hy
    cases hy
def Φ162 (L N : Nat) : Tells := (addT (Φ163 L N) 162 (f162.ent L N))
theorem Φ162_ok (L N : Nat) : TellsOk Try.prog (Φ162 L N) := addT_ok (Φ163_ok L N) (f162.ok L N (Φ163_ok L N))
def f150.s0' {R : Type} (L N : Nat) (self150 : Tree → Option (ByteArray)) (k0_e1 : ByteArray → Option R) (rec0 : ByteArray → Int → Int → Int → LT → Option R) (s12 : ByteArray) (s13 : Int) (s14 : Int) (s15 : Int) (s16 : LT) : Option R :=
  bif (decide (s13 < (s16.length : Int))) then
    bif (decide (s12.size + (ByteArray.mk #[32]).size ≤ 4611686018427387904)) then
      bif (decide (0 ≤ s13) && decide (s13 < (s16.length : Int))) then
        (self150 (listAt s16 (Ty.dflt (.st 1)) s13.toNat)).bind fun y18 =>
        bif (decide ((s12 ++ (ByteArray.mk #[32])).size + y18.size ≤ 4611686018427387904)) then
          rec0 ((s12 ++ (ByteArray.mk #[32])) ++ y18) (wi (s13 + (1 : Int))) s14 s15 s16
        else none
      else none
    else none
  else k0_e1 s12
def f150.s0 {R : Type} (L N : Nat) (self150 : Tree → Option (ByteArray)) (k0_e1 : ByteArray → Option R) (rec0 : ByteArray → Int → Int → Int → LT → Option R) (s12 : ByteArray) (s13 : Int) (s14 : Int) (s15 : Int) (s16 : LT) : Option R :=
  f150.s0' L N self150 k0_e1 rec0 s12 s13 s14 s15 s16
def f150.l0 {R : Type} (L N : Nat) (self150 : Tree → Option (ByteArray)) (k0_e1 : ByteArray → Option R) : Nat → ByteArray → Int → Int → Int → LT → Option R
  | 0, _, _, _, _, _ => none
  | n + 1, s12, s13, s14, s15, s16 => f150.s0 L N self150 k0_e1 (f150.l0 L N self150 k0_e1 n) s12 s13 s14 s15 s16
def f150.T0 (s12 : ByteArray) (s13 : Int) (s14 : Int) (s15 : Int) (s16 : LT) : T := mkT 58 [(1, (.ptr 1001 0)), (3, (.tv .str s12)), (4, (.tv i64 s13))]
def f150.H0 (s12 : ByteArray) (s13 : Int) (s14 : Int) (s15 : Int) (s16 : LT) : H := [(1001, (.box [(.tv i64 s14), (.tv i64 s15), (.tv (.sl (.st 1)) s16)]))]
def f150.T0_e1 (z17 : ByteArray) : T := mkT 58 [(3, (.tv .str z17))]
def f150.H0_e1 (z17 : ByteArray) : H := []
def f150.p0_e1' {R : Type} (L N : Nat) (self150 : Tree → Option (ByteArray)) (k : ByteArray → Option R) (z17 : ByteArray) : Option R :=
  bif (decide (z17.size + (ByteArray.mk #[41]).size ≤ 4611686018427387904)) then
    k (z17 ++ (ByteArray.mk #[41]))
  else none
def f150.p0_e1 {R : Type} (L N : Nat) (self150 : Tree → Option (ByteArray)) (k : ByteArray → Option R) (z17 : ByteArray) : Option R :=
  f150.p0_e1' L N self150 k z17
def f150.j0' {R : Type} (L N : Nat) (self150 : Tree → Option (ByteArray)) (k : ByteArray → Option R) (w0 : ByteArray → Int → Int → Int → LT → Option R) (v8 : ByteArray) (v9 : Int) (v10 : Int) (v11 : LT) : Option R :=
  w0 v8 (0 : Int) v9 v10 v11
def f150.j1' {R : Type} (L N : Nat) (self150 : Tree → Option (ByteArray)) (k : ByteArray → Option R) (w0 : ByteArray → Int → Int → Int → LT → Option R) (v3 : ByteArray) (v4 : Int) (v5 : Int) (v6 : LT) : Option R :=
  bif (v4 == (4 : Int)) then
    bif (decide (v3.size + (ByteArray.mk #[32]).size ≤ 4611686018427387904)) then
      (f162 L N (wi (v5 + (1 : Int)))).bind fun y7 =>
      bif (decide ((v3 ++ (ByteArray.mk #[32])).size + y7.size ≤ 4611686018427387904)) then
        f150.j0' L N self150 k w0 ((v3 ++ (ByteArray.mk #[32])) ++ y7) v4 v5 v6
      else none
    else none
  else f150.j0' L N self150 k w0 v3 v4 v5 v6
def f150.b' {R : Type} (L N : Nat) (self150 : Tree → Option (ByteArray)) (k : ByteArray → Option R) (w0 : ByteArray → Int → Int → Int → LT → Option R) (x0 : Tree) : Option R :=
  bif (x0.op == (0 : Int)) then
    k (ByteArray.mk #[48])
  else bif (x0.op == (5 : Int)) then
    (f160 L N N x0.n).bind fun y0 =>
    bif (decide ((ByteArray.mk #[88]).size + y0.size ≤ 4611686018427387904)) then
      k ((ByteArray.mk #[88]) ++ y0)
    else none
  else (f161 L N).bind fun y1 =>
  bif (decide (0 ≤ x0.op) && decide (x0.op < (y1.length : Int))) then
    bif (decide ((ByteArray.mk #[40]).size + (listAt y1 ByteArray.empty x0.op.toNat).size ≤ 4611686018427387904)) then
      bif (x0.op == (1 : Int)) then
        bif (decide (((ByteArray.mk #[40]) ++ (listAt y1 ByteArray.empty x0.op.toNat)).size + (ByteArray.mk #[32]).size ≤ 4611686018427387904)) then
          (f162 L N x0.n).bind fun y2 =>
          bif (decide ((((ByteArray.mk #[40]) ++ (listAt y1 ByteArray.empty x0.op.toNat)) ++ (ByteArray.mk #[32])).size + y2.size ≤ 4611686018427387904)) then
            f150.j1' L N self150 k w0 ((((ByteArray.mk #[40]) ++ (listAt y1 ByteArray.empty x0.op.toNat)) ++ (ByteArray.mk #[32])) ++ y2) x0.op x0.n x0.parts
          else none
        else none
      else f150.j1' L N self150 k w0 ((ByteArray.mk #[40]) ++ (listAt y1 ByteArray.empty x0.op.toNat)) x0.op x0.n x0.parts
    else none
  else none
def f150.b {R : Type} (L N : Nat) (self150 : Tree → Option (ByteArray)) (k : ByteArray → Option R) (x0 : Tree) : Option R :=
  f150.b' L N self150 k (fun s12 s13 s14 s15 s16 => f150.l0 L N self150 (fun z17 => f150.p0_e1 L N self150 k z17) L s12 s13 s14 s15 s16) x0
def f150 (L N : Nat) : Nat → Tree → Option (ByteArray)
  | 0, _ => none
  | n + 1, x0 => f150.b L N (f150 L N n) some x0
def f150.ent (L N m : Nat) (args : List AV) (vw : View) (site : Nat) : Ans := match roD [(.st 1)] vw args with
  | some d => ⟨ByteArray, f150 L N m d.1, fun y => ((.tv .str y), [], [])⟩
  | none => Ans.no
def Φ150s (L N m : Nat) : Tells := (addT (Φ162 L N) 150 (f150.ent L N m))
noncomputable def E150 (L N m : Nat) : Env := { P := Try.prog, ty := tyOf, Φ := Φ150s L N m, inl := inlT, live := lives, liveX := livesX, L := L, dp := none, prom := promT, heal := healT, ren := renT }
noncomputable def f150.c0 : Code := loopAt 1 (codeOf Try.f150)
theorem f150.s0_pre {R : Type} (L N m : Nat) (κ : Ex → T → H → Option R) (rec : T → H → Option R) (s12 : ByteArray) (s13 : Int) (s14 : Int) (s15 : Int) (s16 : LT) :
    evRd (E150 L N m) (evCallI (E150 L N m) 1 2000) 1000 150 58 1 f150.c0 κ rec (f150.T0 s12 s13 s14 s15 s16) (f150.H0 s12 s13 s14 s15 s16)
    = f150.s0' L N (f150 L N m) (fun z17 => κ (.exit 1) (f150.T0_e1 z17) (f150.H0_e1 z17)) (fun s12 s13 s14 s15 s16 => rec (f150.T0 s12 s13 s14 s15 s16) (f150.H0 s12 s13 s14 s15 s16)) s12 s13 s14 s15 s16 := by kernel_rfl
theorem f150.s0_eq {R : Type} (L N m : Nat) (κ : Ex → T → H → Option R) (rec : T → H → Option R) (s12 : ByteArray) (s13 : Int) (s14 : Int) (s15 : Int) (s16 : LT) :
    evRd (E150 L N m) (evCallI (E150 L N m) 1 2000) 1000 150 58 1 f150.c0 κ rec (f150.T0 s12 s13 s14 s15 s16) (f150.H0 s12 s13 s14 s15 s16)
    = f150.s0 L N (f150 L N m) (fun z17 => κ (.exit 1) (f150.T0_e1 z17) (f150.H0_e1 z17)) (fun s12 s13 s14 s15 s16 => rec (f150.T0 s12 s13 s14 s15 s16) (f150.H0 s12 s13 s14 s15 s16)) s12 s13 s14 s15 s16 := by
  rw [f150.s0_pre]
  unfold f150.s0
  rfl
theorem f150.l0_eq {R : Type} (L N m : Nat) (κ : Ex → T → H → Option R) : ∀ (n : Nat) (s12 : ByteArray) (s13 : Int) (s14 : Int) (s15 : Int) (s16 : LT),
    evLp (E150 L N m) (evCallI (E150 L N m) 1 2000) 1000 150 58 1 f150.c0 κ n (f150.T0 s12 s13 s14 s15 s16) (f150.H0 s12 s13 s14 s15 s16)
    = f150.l0 L N (f150 L N m) (fun z17 => κ (.exit 1) (f150.T0_e1 z17) (f150.H0_e1 z17)) n s12 s13 s14 s15 s16 := by
  intro n
  induction n with
  | zero => intros; rfl
  | succ n ih =>
    intro s12 s13 s14 s15 s16
    rw [evLp_succ, f150.s0_eq]
    simp only [ih]
    rfl
theorem f150.p0_e1_pre {R : Type} (L N m : Nat) (κ : AV → Option R) (z17 : ByteArray) :
    (contAt (E150 L N m) (evCallI (E150 L N m) 1 2000) 1000 150 58 1 (codeOf Try.f150) (finK (E150 L N m) 1000 Try.f150 (finC (.one .str) κ))) (.exit 1) (f150.T0_e1 z17) (f150.H0_e1 z17)
    = f150.p0_e1' L N (f150 L N m) (fun a0 => κ (.tv .str a0)) z17 := by kernel_rfl
theorem f150.p0_e1_eq {R : Type} (L N m : Nat) (κ : AV → Option R) (z17 : ByteArray) :
    (contAt (E150 L N m) (evCallI (E150 L N m) 1 2000) 1000 150 58 1 (codeOf Try.f150) (finK (E150 L N m) 1000 Try.f150 (finC (.one .str) κ))) (.exit 1) (f150.T0_e1 z17) (f150.H0_e1 z17)
    = f150.p0_e1 L N (f150 L N m) (fun a0 => κ (.tv .str a0)) z17 := by
  rw [f150.p0_e1_pre]
  unfold f150.p0_e1
  rfl
theorem f150.b_pre {R : Type} (L N m : Nat) (κ : AV → Option R) (x0 : Tree) :
    evBody (E150 L N m) (evCallI (E150 L N m) 1 2000) 1000 150 Try.f150 [(.tv (.st 1) x0)] [] [] (finC (.one .str) κ)
    = f150.b' L N (f150 L N m) (fun a0 => κ (.tv .str a0)) (fun s12 s13 s14 s15 s16 => evLp (E150 L N m) (evCallI (E150 L N m) 1 2000) 1000 150 58 1 f150.c0 (contAt (E150 L N m) (evCallI (E150 L N m) 1 2000) 1000 150 58 1 (codeOf Try.f150) (finK (E150 L N m) 1000 Try.f150 (finC (.one .str) κ))) L (f150.T0 s12 s13 s14 s15 s16) (f150.H0 s12 s13 s14 s15 s16)) x0 := by kernel_rfl
theorem f150.b_eq {R : Type} (L N m : Nat) (κ : AV → Option R) (x0 : Tree) :
    evBody (E150 L N m) (evCallI (E150 L N m) 1 2000) 1000 150 Try.f150 [(.tv (.st 1) x0)] [] [] (finC (.one .str) κ)
    = f150.b L N (f150 L N m) (fun a0 => κ (.tv .str a0)) x0 := by
  rw [f150.b_pre]
  unfold f150.b
  simp only [f150.l0_eq, f150.p0_e1_eq]
theorem f150.s0'_nat {R R' : Type} (j : R → Option R') (L N : Nat) (self150 : Tree → Option (ByteArray)) (k0_e1 : ByteArray → Option R) (rec0 : ByteArray → Int → Int → Int → LT → Option R) (s12 : ByteArray) (s13 : Int) (s14 : Int) (s15 : Int) (s16 : LT) :
    f150.s0' L N self150 (fun a0 => (k0_e1 a0).bind j) (fun a0 a1 a2 a3 a4 => (rec0 a0 a1 a2 a3 a4).bind j) s12 s13 s14 s15 s16 = (f150.s0' L N self150 k0_e1 rec0 s12 s13 s14 s15 s16).bind j := by
  unfold f150.s0'
  repeat' (first | (with_reducible refine cond_nat ?_ ?_) | (with_reducible refine bind_nat fun _ => ?_) | rfl)
theorem f150.s0_nat {R R' : Type} (j : R → Option R') (L N : Nat) (self150 : Tree → Option (ByteArray)) (k0_e1 : ByteArray → Option R) (rec0 : ByteArray → Int → Int → Int → LT → Option R) (s12 : ByteArray) (s13 : Int) (s14 : Int) (s15 : Int) (s16 : LT) :
    f150.s0 L N self150 (fun a0 => (k0_e1 a0).bind j) (fun a0 a1 a2 a3 a4 => (rec0 a0 a1 a2 a3 a4).bind j) s12 s13 s14 s15 s16 = (f150.s0 L N self150 k0_e1 rec0 s12 s13 s14 s15 s16).bind j := by
  unfold f150.s0
  exact f150.s0'_nat ..
theorem f150.l0_nat {R R' : Type} (j : R → Option R') (L N : Nat) (self150 : Tree → Option (ByteArray)) (k0_e1 : ByteArray → Option R) : ∀ (n : Nat) (s12 : ByteArray) (s13 : Int) (s14 : Int) (s15 : Int) (s16 : LT),
    f150.l0 L N self150 (fun a0 => (k0_e1 a0).bind j) n s12 s13 s14 s15 s16 = (f150.l0 L N self150 k0_e1 n s12 s13 s14 s15 s16).bind j := by
  intro n
  induction n with
  | zero => intros; rfl
  | succ n ih =>
    intro s12 s13 s14 s15 s16
    show f150.s0 L N self150 (fun a0 => (k0_e1 a0).bind j) (f150.l0 L N self150 (fun a0 => (k0_e1 a0).bind j) n) s12 s13 s14 s15 s16 = _
    rw [show f150.l0 L N self150 (fun a0 => (k0_e1 a0).bind j) n = (fun s12 s13 s14 s15 s16 => (f150.l0 L N self150 k0_e1 n s12 s13 s14 s15 s16).bind j) from funext fun s12 => funext fun s13 => funext fun s14 => funext fun s15 => funext fun s16 => ih s12 s13 s14 s15 s16]
    exact f150.s0_nat ..
theorem f150.p0_e1'_nat {R R' : Type} (j : R → Option R') (L N : Nat) (self150 : Tree → Option (ByteArray)) (k : ByteArray → Option R) (z17 : ByteArray) :
    f150.p0_e1' L N self150 (fun a0 => (k a0).bind j) z17 = (f150.p0_e1' L N self150 k z17).bind j := by
  unfold f150.p0_e1'
  repeat' (first | (with_reducible refine cond_nat ?_ ?_) | (with_reducible refine bind_nat fun _ => ?_) | rfl)
theorem f150.p0_e1_nat {R R' : Type} (j : R → Option R') (L N : Nat) (self150 : Tree → Option (ByteArray)) (k : ByteArray → Option R) (z17 : ByteArray) :
    f150.p0_e1 L N self150 (fun a0 => (k a0).bind j) z17 = (f150.p0_e1 L N self150 k z17).bind j := by
  unfold f150.p0_e1
  exact f150.p0_e1'_nat ..
theorem f150.j0'_nat {R R' : Type} (j : R → Option R') (L N : Nat) (self150 : Tree → Option (ByteArray)) (k : ByteArray → Option R) (w0 : ByteArray → Int → Int → Int → LT → Option R) (v8 : ByteArray) (v9 : Int) (v10 : Int) (v11 : LT) :
    f150.j0' L N self150 (fun a0 => (k a0).bind j) (fun a0 a1 a2 a3 a4 => (w0 a0 a1 a2 a3 a4).bind j) v8 v9 v10 v11 = (f150.j0' L N self150 k w0 v8 v9 v10 v11).bind j := by
  unfold f150.j0'
  repeat' (first | (with_reducible refine cond_nat ?_ ?_) | (with_reducible refine bind_nat fun _ => ?_) | rfl)
theorem f150.j1'_nat {R R' : Type} (j : R → Option R') (L N : Nat) (self150 : Tree → Option (ByteArray)) (k : ByteArray → Option R) (w0 : ByteArray → Int → Int → Int → LT → Option R) (v3 : ByteArray) (v4 : Int) (v5 : Int) (v6 : LT) :
    f150.j1' L N self150 (fun a0 => (k a0).bind j) (fun a0 a1 a2 a3 a4 => (w0 a0 a1 a2 a3 a4).bind j) v3 v4 v5 v6 = (f150.j1' L N self150 k w0 v3 v4 v5 v6).bind j := by
  unfold f150.j1'
  repeat' (first | (with_reducible refine cond_nat ?_ ?_) | (with_reducible refine bind_nat fun _ => ?_) | exact f150.j0'_nat .. | rfl)
theorem f150.b'_nat {R R' : Type} (j : R → Option R') (L N : Nat) (self150 : Tree → Option (ByteArray)) (k : ByteArray → Option R) (w0 : ByteArray → Int → Int → Int → LT → Option R) (x0 : Tree) :
    f150.b' L N self150 (fun a0 => (k a0).bind j) (fun a0 a1 a2 a3 a4 => (w0 a0 a1 a2 a3 a4).bind j) x0 = (f150.b' L N self150 k w0 x0).bind j := by
  unfold f150.b'
  repeat' (first | (with_reducible refine cond_nat ?_ ?_) | (with_reducible refine bind_nat fun _ => ?_) | exact f150.j0'_nat .. | exact f150.j1'_nat .. | rfl)
theorem f150.b_nat {R R' : Type} (j : R → Option R') (L N : Nat) (self150 : Tree → Option (ByteArray)) (k : ByteArray → Option R) (x0 : Tree) :
    f150.b L N self150 (fun a0 => (k a0).bind j) x0 = (f150.b L N self150 k x0).bind j := by
  unfold f150.b
  simp only [f150.l0_nat, f150.p0_e1_nat]
  exact f150.b'_nat ..
theorem f150.ok (L N m : Nat) (hΦ : TellsOk Try.prog (Φ150s L N m)) : EntOk Try.prog 150 (f150.ent L N (m + 1)) := by
  intro args vw site h
  unfold f150.ent
  split
  · rename_i d ha
    intro y hy hs
    refine call_ro (dep := 1000) (E := (E150 L N m)) (rs := (.one .str)) (v := (.tv .str y)) (sound_of hΦ) okP (callI_sound (sound_of hΦ) okP 1 2000) (f := Try.f150) rfl hs ha ?_ rfl site
    refine (f150.b_eq L N m some d.1).trans ?_
    refine ((f150.b_nat (fun y => (some (.tv .str y) : Option AV)) L N (f150 L N m) some d.1)).trans ?_
    rw [show f150.b L N (f150 L N m) some d.1 = some y from hy]
    rfl
  · intro y hy
    cases hy
theorem Φ150s_ok (L N : Nat) : ∀ m, TellsOk Try.prog (Φ150s L N m) := by
  intro m
  induction m with
  | zero => exact (addT_ok (Φ162_ok L N) (fun args vw site h => by unfold f150.ent; split <;> (intro y hy; cases hy)))
  | succ m ih => exact (addT_ok (Φ162_ok L N) (f150.ok L N m ih))
def Φ150 (L N : Nat) : Tells := (addT (Φ162 L N) 150 (f150.ent L N N))
theorem Φ150_ok (L N : Nat) : TellsOk Try.prog (Φ150 L N) := Φ150s_ok L N N
def f151.s0' {R : Type} (L N : Nat) (self151 : Tree → LT → Option (LS)) (k0_e1 : Int → Int → LT → LS → LS → LS → Option R) (rec0 : Int → Int → Int → LT → LS → LS → LS → Option R) (s4 : Int) (s5 : Int) (s6 : Int) (s7 : LT) (s8 : LS) (s9 : LS) (s10 : LS) : Option R :=
  bif (decide (s4 < (s9.length : Int))) then
    bif (decide (0 ≤ s4) && decide (s4 < (s9.length : Int))) then
      bif (decide (0 ≤ s4) && decide (s4 < (s9.length : Int))) then
        bif (decide (0 ≤ (1 : Int)) && decide ((1 : Int) < (s7.length : Int))) then
          bif (decide (s8.length + ([(Step.mk ((listAt s9 (Ty.dflt (.st 3)) s4.toNat).act) (Tree.mk (3 : Int) (0 : Int) ([(Tree.mk ((listAt s9 (Ty.dflt (.st 3)) s4.toNat).thn.op) ((listAt s9 (Ty.dflt (.st 3)) s4.toNat).thn.n) ((listAt s9 (Ty.dflt (.st 3)) s4.toNat).thn.parts)), (listAt s7 (Ty.dflt (.st 1)) (1 : Int).toNat)] : LT)))] : LS).length ≤ lim)) then
            rec0 (wi (s4 + (1 : Int))) s5 s6 s7 (s8 ++ ([(Step.mk ((listAt s9 (Ty.dflt (.st 3)) s4.toNat).act) (Tree.mk (3 : Int) (0 : Int) ([(Tree.mk ((listAt s9 (Ty.dflt (.st 3)) s4.toNat).thn.op) ((listAt s9 (Ty.dflt (.st 3)) s4.toNat).thn.n) ((listAt s9 (Ty.dflt (.st 3)) s4.toNat).thn.parts)), (listAt s7 (Ty.dflt (.st 1)) (1 : Int).toNat)] : LT)))] : LS)) s9 s10
          else none
        else none
      else none
    else none
  else k0_e1 s5 s6 s7 s8 s9 s10
def f151.s0 {R : Type} (L N : Nat) (self151 : Tree → LT → Option (LS)) (k0_e1 : Int → Int → LT → LS → LS → LS → Option R) (rec0 : Int → Int → Int → LT → LS → LS → LS → Option R) (s4 : Int) (s5 : Int) (s6 : Int) (s7 : LT) (s8 : LS) (s9 : LS) (s10 : LS) : Option R :=
  f151.s0' L N self151 k0_e1 rec0 s4 s5 s6 s7 s8 s9 s10
def f151.l0 {R : Type} (L N : Nat) (self151 : Tree → LT → Option (LS)) (k0_e1 : Int → Int → LT → LS → LS → LS → Option R) : Nat → Int → Int → Int → LT → LS → LS → LS → Option R
  | 0, _, _, _, _, _, _, _ => none
  | n + 1, s4, s5, s6, s7, s8, s9, s10 => f151.s0 L N self151 k0_e1 (f151.l0 L N self151 k0_e1 n) s4 s5 s6 s7 s8 s9 s10
def f151.T0 (s4 : Int) (s5 : Int) (s6 : Int) (s7 : LT) (s8 : LS) (s9 : LS) (s10 : LS) : T := mkT 217 [(2, (.ptr 1002 0)), (5, (.row 1014)), (6, (.row 1051)), (7, (.row 1057)), (8, (.tv i64 s4))]
def f151.H0 (s4 : Int) (s5 : Int) (s6 : Int) (s7 : LT) (s8 : LS) (s9 : LS) (s10 : LS) : H := [(1002, (.box [(.tv i64 s5), (.tv i64 s6), (.tv (.sl (.st 1)) s7)])), (1014, (.row 146 (.st 3) s8)), (1051, (.row 146 (.st 3) s9)), (1057, (.row 146 (.st 3) s10))]
def f151.T0_e1 (z11 : Int) (z12 : Int) (z13 : LT) (z14 : LS) (z15 : LS) (z16 : LS) : T := mkT 217 [(2, (.ptr 1002 0)), (5, (.row 1014)), (6, (.row 1051)), (7, (.row 1057))]
def f151.H0_e1 (z11 : Int) (z12 : Int) (z13 : LT) (z14 : LS) (z15 : LS) (z16 : LS) : H := [(1002, (.box [(.tv i64 z11), (.tv i64 z12), (.tv (.sl (.st 1)) z13)])), (1014, (.row 146 (.st 3) z14)), (1051, (.row 146 (.st 3) z15)), (1057, (.row 146 (.st 3) z16))]
def f151.s1' {R : Type} (L N : Nat) (self151 : Tree → LT → Option (LS)) (k1_e3 : LS → LS → LS → Option R) (rec1 : Int → Int → Int → LT → LS → LS → LS → Option R) (s17 : Int) (s18 : Int) (s19 : Int) (s20 : LT) (s21 : LS) (s22 : LS) (s23 : LS) : Option R :=
  bif (decide (s17 < (s23.length : Int))) then
    bif (decide (0 ≤ s17) && decide (s17 < (s23.length : Int))) then
      bif (decide (0 ≤ (0 : Int)) && decide ((0 : Int) < (s20.length : Int))) then
        bif (decide (0 ≤ s17) && decide (s17 < (s23.length : Int))) then
          bif (decide (s21.length + ([(Step.mk ((listAt s23 (Ty.dflt (.st 3)) s17.toNat).act) (Tree.mk (3 : Int) (0 : Int) ([(listAt s20 (Ty.dflt (.st 1)) (0 : Int).toNat), (Tree.mk ((listAt s23 (Ty.dflt (.st 3)) s17.toNat).thn.op) ((listAt s23 (Ty.dflt (.st 3)) s17.toNat).thn.n) ((listAt s23 (Ty.dflt (.st 3)) s17.toNat).thn.parts))] : LT)))] : LS).length ≤ lim)) then
            rec1 (wi (s17 + (1 : Int))) s18 s19 s20 (s21 ++ ([(Step.mk ((listAt s23 (Ty.dflt (.st 3)) s17.toNat).act) (Tree.mk (3 : Int) (0 : Int) ([(listAt s20 (Ty.dflt (.st 1)) (0 : Int).toNat), (Tree.mk ((listAt s23 (Ty.dflt (.st 3)) s17.toNat).thn.op) ((listAt s23 (Ty.dflt (.st 3)) s17.toNat).thn.n) ((listAt s23 (Ty.dflt (.st 3)) s17.toNat).thn.parts))] : LT)))] : LS)) s22 s23
          else none
        else none
      else none
    else none
  else k1_e3 s21 s22 s23
def f151.s1 {R : Type} (L N : Nat) (self151 : Tree → LT → Option (LS)) (k1_e3 : LS → LS → LS → Option R) (rec1 : Int → Int → Int → LT → LS → LS → LS → Option R) (s17 : Int) (s18 : Int) (s19 : Int) (s20 : LT) (s21 : LS) (s22 : LS) (s23 : LS) : Option R :=
  f151.s1' L N self151 k1_e3 rec1 s17 s18 s19 s20 s21 s22 s23
def f151.l1 {R : Type} (L N : Nat) (self151 : Tree → LT → Option (LS)) (k1_e3 : LS → LS → LS → Option R) : Nat → Int → Int → Int → LT → LS → LS → LS → Option R
  | 0, _, _, _, _, _, _, _ => none
  | n + 1, s17, s18, s19, s20, s21, s22, s23 => f151.s1 L N self151 k1_e3 (f151.l1 L N self151 k1_e3 n) s17 s18 s19 s20 s21 s22 s23
def f151.T1 (s17 : Int) (s18 : Int) (s19 : Int) (s20 : LT) (s21 : LS) (s22 : LS) (s23 : LS) : T := mkT 217 [(2, (.ptr 1002 0)), (5, (.row 1014)), (6, (.row 1051)), (7, (.row 1057)), (9, (.tv i64 s17))]
def f151.H1 (s17 : Int) (s18 : Int) (s19 : Int) (s20 : LT) (s21 : LS) (s22 : LS) (s23 : LS) : H := [(1002, (.box [(.tv i64 s18), (.tv i64 s19), (.tv (.sl (.st 1)) s20)])), (1014, (.row 146 (.st 3) s21)), (1051, (.row 146 (.st 3) s22)), (1057, (.row 146 (.st 3) s23))]
def f151.T1_e3 (z24 : LS) (z25 : LS) (z26 : LS) : T := mkT 217 [(5, (.row 1014)), (6, (.row 1051)), (7, (.row 1057))]
def f151.H1_e3 (z24 : LS) (z25 : LS) (z26 : LS) : H := [(1014, (.row 146 (.st 3) z24)), (1051, (.row 146 (.st 3) z25)), (1057, (.row 146 (.st 3) z26))]
def f151.j0' {R : Type} (L N : Nat) (self151 : Tree → LT → Option (LS)) (k3_e7 : Int → LS → LS → LS → Option R) (rec3 : Int → Int → LS → LS → LS → Option R) (v41 : Int) (v42 : Int) (v43 : Bool) (v44 : LS) (v45 : LS) (v46 : LS) : Option R :=
  bif v43 then
    bif (decide (0 ≤ v41) && decide (v41 < (v45.length : Int))) then
      bif (decide (0 ≤ v42) && decide (v42 < (v46.length : Int))) then
        bif (decide (v44.length + ([(Step.mk (0 : Int) (Tree.mk (3 : Int) (0 : Int) ([(Tree.mk ((listAt v45 (Ty.dflt (.st 3)) v41.toNat).thn.op) ((listAt v45 (Ty.dflt (.st 3)) v41.toNat).thn.n) ((listAt v45 (Ty.dflt (.st 3)) v41.toNat).thn.parts)), (Tree.mk ((listAt v46 (Ty.dflt (.st 3)) v42.toNat).thn.op) ((listAt v46 (Ty.dflt (.st 3)) v42.toNat).thn.n) ((listAt v46 (Ty.dflt (.st 3)) v42.toNat).thn.parts))] : LT)))] : LS).length ≤ lim)) then
          rec3 v41 (wi (v42 + (1 : Int))) (v44 ++ ([(Step.mk (0 : Int) (Tree.mk (3 : Int) (0 : Int) ([(Tree.mk ((listAt v45 (Ty.dflt (.st 3)) v41.toNat).thn.op) ((listAt v45 (Ty.dflt (.st 3)) v41.toNat).thn.n) ((listAt v45 (Ty.dflt (.st 3)) v41.toNat).thn.parts)), (Tree.mk ((listAt v46 (Ty.dflt (.st 3)) v42.toNat).thn.op) ((listAt v46 (Ty.dflt (.st 3)) v42.toNat).thn.n) ((listAt v46 (Ty.dflt (.st 3)) v42.toNat).thn.parts))] : LT)))] : LS)) v45 v46
        else none
      else none
    else none
  else rec3 v41 (wi (v42 + (1 : Int))) v44 v45 v46
def f151.s3' {R : Type} (L N : Nat) (self151 : Tree → LT → Option (LS)) (k3_e7 : Int → LS → LS → LS → Option R) (rec3 : Int → Int → LS → LS → LS → Option R) (s32 : Int) (s33 : Int) (s34 : LS) (s35 : LS) (s36 : LS) : Option R :=
  bif (decide (s33 < (s36.length : Int))) then
    bif (decide (0 ≤ s32) && decide (s32 < (s35.length : Int))) then
      bif ((listAt s35 (Ty.dflt (.st 3)) s32.toNat).act != (0 : Int)) then
        bif (decide (0 ≤ s32) && decide (s32 < (s35.length : Int))) then
          bif (decide (0 ≤ s33) && decide (s33 < (s36.length : Int))) then
            f151.j0' L N self151 k3_e7 rec3 s32 s33 ((listAt s35 (Ty.dflt (.st 3)) s32.toNat).act == (wi (0 - (listAt s36 (Ty.dflt (.st 3)) s33.toNat).act))) s34 s35 s36
          else none
        else none
      else f151.j0' L N self151 k3_e7 rec3 s32 s33 false s34 s35 s36
    else none
  else k3_e7 s32 s34 s35 s36
def f151.s3 {R : Type} (L N : Nat) (self151 : Tree → LT → Option (LS)) (k3_e7 : Int → LS → LS → LS → Option R) (rec3 : Int → Int → LS → LS → LS → Option R) (s32 : Int) (s33 : Int) (s34 : LS) (s35 : LS) (s36 : LS) : Option R :=
  f151.s3' L N self151 k3_e7 rec3 s32 s33 s34 s35 s36
def f151.l3 {R : Type} (L N : Nat) (self151 : Tree → LT → Option (LS)) (k3_e7 : Int → LS → LS → LS → Option R) : Nat → Int → Int → LS → LS → LS → Option R
  | 0, _, _, _, _, _ => none
  | n + 1, s32, s33, s34, s35, s36 => f151.s3 L N self151 k3_e7 (f151.l3 L N self151 k3_e7 n) s32 s33 s34 s35 s36
def f151.T3 (s32 : Int) (s33 : Int) (s34 : LS) (s35 : LS) (s36 : LS) : T := mkT 217 [(5, (.row 1014)), (6, (.row 1051)), (7, (.row 1057)), (10, (.tv i64 s32)), (11, (.tv i64 s33))]
def f151.H3 (s32 : Int) (s33 : Int) (s34 : LS) (s35 : LS) (s36 : LS) : H := [(1014, (.row 146 (.st 3) s34)), (1051, (.row 146 (.st 3) s35)), (1057, (.row 146 (.st 3) s36))]
def f151.T3_e7 (z37 : Int) (z38 : LS) (z39 : LS) (z40 : LS) : T := mkT 217 [(5, (.row 1014)), (6, (.row 1051)), (7, (.row 1057)), (10, (.tv i64 z37))]
def f151.H3_e7 (z37 : Int) (z38 : LS) (z39 : LS) (z40 : LS) : H := [(1014, (.row 146 (.st 3) z38)), (1051, (.row 146 (.st 3) z39)), (1057, (.row 146 (.st 3) z40))]
def f151.p3_e7' {R : Type} (L N : Nat) (self151 : Tree → LT → Option (LS)) (k2_e5 : LS → Option R) (rec2 : Int → LS → LS → LS → Option R) (z37 : Int) (z38 : LS) (z39 : LS) (z40 : LS) : Option R :=
  rec2 (wi (z37 + (1 : Int))) z38 z39 z40
def f151.p3_e7 {R : Type} (L N : Nat) (self151 : Tree → LT → Option (LS)) (k2_e5 : LS → Option R) (rec2 : Int → LS → LS → LS → Option R) (z37 : Int) (z38 : LS) (z39 : LS) (z40 : LS) : Option R :=
  f151.p3_e7' L N self151 k2_e5 rec2 z37 z38 z39 z40
def f151.s2' {R : Type} (L N : Nat) (self151 : Tree → LT → Option (LS)) (k2_e5 : LS → Option R) (rec2 : Int → LS → LS → LS → Option R) (w3 : Int → Int → LS → LS → LS → Option R) (s27 : Int) (s28 : LS) (s29 : LS) (s30 : LS) : Option R :=
  bif (decide (s27 < (s29.length : Int))) then
    w3 s27 (0 : Int) s28 s29 s30
  else k2_e5 s28
def f151.s2 {R : Type} (L N : Nat) (self151 : Tree → LT → Option (LS)) (k2_e5 : LS → Option R) (rec2 : Int → LS → LS → LS → Option R) (s27 : Int) (s28 : LS) (s29 : LS) (s30 : LS) : Option R :=
  f151.s2' L N self151 k2_e5 rec2 (fun s32 s33 s34 s35 s36 => f151.l3 L N self151 (fun z37 z38 z39 z40 => f151.p3_e7 L N self151 k2_e5 rec2 z37 z38 z39 z40) L s32 s33 s34 s35 s36) s27 s28 s29 s30
def f151.l2 {R : Type} (L N : Nat) (self151 : Tree → LT → Option (LS)) (k2_e5 : LS → Option R) : Nat → Int → LS → LS → LS → Option R
  | 0, _, _, _, _ => none
  | n + 1, s27, s28, s29, s30 => f151.s2 L N self151 k2_e5 (f151.l2 L N self151 k2_e5 n) s27 s28 s29 s30
def f151.T2 (s27 : Int) (s28 : LS) (s29 : LS) (s30 : LS) : T := mkT 217 [(5, (.row 1014)), (6, (.row 1051)), (7, (.row 1057)), (10, (.tv i64 s27))]
def f151.H2 (s27 : Int) (s28 : LS) (s29 : LS) (s30 : LS) : H := [(1014, (.row 146 (.st 3) s28)), (1051, (.row 146 (.st 3) s29)), (1057, (.row 146 (.st 3) s30))]
def f151.T2_e5 (z31 : LS) : T := mkT 217 [(5, (.row 1014))]
def f151.H2_e5 (z31 : LS) : H := [(1014, (.row 146 (.st 3) z31))]
def f151.p2_e5' {R : Type} (L N : Nat) (self151 : Tree → LT → Option (LS)) (k : LS → Option R) (z31 : LS) : Option R :=
  k z31
def f151.p2_e5 {R : Type} (L N : Nat) (self151 : Tree → LT → Option (LS)) (k : LS → Option R) (z31 : LS) : Option R :=
  f151.p2_e5' L N self151 k z31
def f151.p1_e3' {R : Type} (L N : Nat) (self151 : Tree → LT → Option (LS)) (k : LS → Option R) (w2 : Int → LS → LS → LS → Option R) (z24 : LS) (z25 : LS) (z26 : LS) : Option R :=
  w2 (0 : Int) z24 z25 z26
def f151.p1_e3 {R : Type} (L N : Nat) (self151 : Tree → LT → Option (LS)) (k : LS → Option R) (z24 : LS) (z25 : LS) (z26 : LS) : Option R :=
  f151.p1_e3' L N self151 k (fun s27 s28 s29 s30 => f151.l2 L N self151 (fun z31 => f151.p2_e5 L N self151 k z31) L s27 s28 s29 s30) z24 z25 z26
def f151.p0_e1' {R : Type} (L N : Nat) (self151 : Tree → LT → Option (LS)) (k : LS → Option R) (w1 : Int → Int → Int → LT → LS → LS → LS → Option R) (z11 : Int) (z12 : Int) (z13 : LT) (z14 : LS) (z15 : LS) (z16 : LS) : Option R :=
  w1 (0 : Int) z11 z12 z13 z14 z15 z16
def f151.p0_e1 {R : Type} (L N : Nat) (self151 : Tree → LT → Option (LS)) (k : LS → Option R) (z11 : Int) (z12 : Int) (z13 : LT) (z14 : LS) (z15 : LS) (z16 : LS) : Option R :=
  f151.p0_e1' L N self151 k (fun s17 s18 s19 s20 s21 s22 s23 => f151.l1 L N self151 (fun z24 z25 z26 => f151.p1_e3 L N self151 k z24 z25 z26) L s17 s18 s19 s20 s21 s22 s23) z11 z12 z13 z14 z15 z16
def f151.j1' {R : Type} (L N : Nat) (self151 : Tree → LT → Option (LS)) (k4_e9 : LS → Option R) (rec4 : Int → Int → Int → LT → LS → LS → Option R) (v61 : Int) (v62 : Bool) (v63 : Int) (v64 : Int) (v65 : LT) (v66 : LS) (v67 : LS) : Option R :=
  bif v62 then
    bif (decide (0 ≤ v61) && decide (v61 < (v67.length : Int))) then
      bif (decide (0 ≤ v61) && decide (v61 < (v67.length : Int))) then
        bif (decide (v66.length + ([(Step.mk ((listAt v67 (Ty.dflt (.st 3)) v61.toNat).act) (Tree.mk (4 : Int) v64 ([(Tree.mk ((listAt v67 (Ty.dflt (.st 3)) v61.toNat).thn.op) ((listAt v67 (Ty.dflt (.st 3)) v61.toNat).thn.n) ((listAt v67 (Ty.dflt (.st 3)) v61.toNat).thn.parts))] : LT)))] : LS).length ≤ lim)) then
          rec4 (wi (v61 + (1 : Int))) v63 v64 v65 (v66 ++ ([(Step.mk ((listAt v67 (Ty.dflt (.st 3)) v61.toNat).act) (Tree.mk (4 : Int) v64 ([(Tree.mk ((listAt v67 (Ty.dflt (.st 3)) v61.toNat).thn.op) ((listAt v67 (Ty.dflt (.st 3)) v61.toNat).thn.n) ((listAt v67 (Ty.dflt (.st 3)) v61.toNat).thn.parts))] : LT)))] : LS)) v67
        else none
      else none
    else none
  else rec4 (wi (v61 + (1 : Int))) v63 v64 v65 v66 v67
def f151.s4' {R : Type} (L N : Nat) (self151 : Tree → LT → Option (LS)) (k4_e9 : LS → Option R) (rec4 : Int → Int → Int → LT → LS → LS → Option R) (s53 : Int) (s54 : Int) (s55 : Int) (s56 : LT) (s57 : LS) (s58 : LS) : Option R :=
  bif (decide (s53 < (s58.length : Int))) then
    bif (decide (0 ≤ s53) && decide (s53 < (s58.length : Int))) then
      bif ((listAt s58 (Ty.dflt (.st 3)) s53.toNat).act == (0 : Int)) then
        f151.j1' L N self151 k4_e9 rec4 s53 true s54 s55 s56 s57 s58
      else bif (decide (0 ≤ s53) && decide (s53 < (s58.length : Int))) then
        (f163 L N ((listAt s58 (Ty.dflt (.st 3)) s53.toNat).act)).bind fun y60 =>
        f151.j1' L N self151 k4_e9 rec4 s53 (y60 != s55) s54 s55 s56 s57 s58
      else none
    else none
  else k4_e9 s57
def f151.s4 {R : Type} (L N : Nat) (self151 : Tree → LT → Option (LS)) (k4_e9 : LS → Option R) (rec4 : Int → Int → Int → LT → LS → LS → Option R) (s53 : Int) (s54 : Int) (s55 : Int) (s56 : LT) (s57 : LS) (s58 : LS) : Option R :=
  f151.s4' L N self151 k4_e9 rec4 s53 s54 s55 s56 s57 s58
def f151.l4 {R : Type} (L N : Nat) (self151 : Tree → LT → Option (LS)) (k4_e9 : LS → Option R) : Nat → Int → Int → Int → LT → LS → LS → Option R
  | 0, _, _, _, _, _, _ => none
  | n + 1, s53, s54, s55, s56, s57, s58 => f151.s4 L N self151 k4_e9 (f151.l4 L N self151 k4_e9 n) s53 s54 s55 s56 s57 s58
def f151.T4 (s53 : Int) (s54 : Int) (s55 : Int) (s56 : LT) (s57 : LS) (s58 : LS) : T := mkT 217 [(2, (.ptr 1002 0)), (5, (.row 1014)), (12, (.row 1165)), (13, (.tv i64 s53))]
def f151.H4 (s53 : Int) (s54 : Int) (s55 : Int) (s56 : LT) (s57 : LS) (s58 : LS) : H := [(1002, (.box [(.tv i64 s54), (.tv i64 s55), (.tv (.sl (.st 1)) s56)])), (1014, (.row 146 (.st 3) s57)), (1165, (.row 146 (.st 3) s58))]
def f151.T4_e9 (z59 : LS) : T := mkT 217 [(5, (.row 1014))]
def f151.H4_e9 (z59 : LS) : H := [(1014, (.row 146 (.st 3) z59))]
def f151.p4_e9' {R : Type} (L N : Nat) (self151 : Tree → LT → Option (LS)) (k : LS → Option R) (z59 : LS) : Option R :=
  k z59
def f151.p4_e9 {R : Type} (L N : Nat) (self151 : Tree → LT → Option (LS)) (k : LS → Option R) (z59 : LS) : Option R :=
  f151.p4_e9' L N self151 k z59
def f151.b' {R : Type} (L N : Nat) (self151 : Tree → LT → Option (LS)) (k : LS → Option R) (w0 : Int → Int → Int → LT → LS → LS → LS → Option R) (w4 : Int → Int → Int → LT → LS → LS → Option R) (x0 : Tree) (x1 : LT) : Option R :=
  bif (x0.op == (1 : Int)) then
    bif (decide (0 ≤ (0 : Int)) && decide ((0 : Int) < (x0.parts.length : Int))) then
      bif (decide (([] : LS).length + ([(Step.mk x0.n (Tree.mk ((listAt x0.parts (Ty.dflt (.st 1)) (0 : Int).toNat).op) ((listAt x0.parts (Ty.dflt (.st 1)) (0 : Int).toNat).n) ((listAt x0.parts (Ty.dflt (.st 1)) (0 : Int).toNat).parts)))] : LS).length ≤ lim)) then
        k (([] : LS) ++ ([(Step.mk x0.n (Tree.mk ((listAt x0.parts (Ty.dflt (.st 1)) (0 : Int).toNat).op) ((listAt x0.parts (Ty.dflt (.st 1)) (0 : Int).toNat).n) ((listAt x0.parts (Ty.dflt (.st 1)) (0 : Int).toNat).parts)))] : LS))
      else none
    else none
  else bif (x0.op == (2 : Int)) then
    bif (decide (0 ≤ (0 : Int)) && decide ((0 : Int) < (x0.parts.length : Int))) then
      (self151 (listAt x0.parts (Ty.dflt (.st 1)) (0 : Int).toNat) x1).bind fun y0 =>
      bif (decide (0 ≤ (1 : Int)) && decide ((1 : Int) < (x0.parts.length : Int))) then
        (self151 (listAt x0.parts (Ty.dflt (.st 1)) (1 : Int).toNat) x1).bind fun y1 =>
        bif (decide (y0.length + y1.length ≤ lim)) then
          k (y0 ++ y1)
        else none
      else none
    else none
  else bif (x0.op == (3 : Int)) then
    bif (decide (0 ≤ (0 : Int)) && decide ((0 : Int) < (x0.parts.length : Int))) then
      (self151 (listAt x0.parts (Ty.dflt (.st 1)) (0 : Int).toNat) x1).bind fun y2 =>
      bif (decide (0 ≤ (1 : Int)) && decide ((1 : Int) < (x0.parts.length : Int))) then
        (self151 (listAt x0.parts (Ty.dflt (.st 1)) (1 : Int).toNat) x1).bind fun y3 =>
        w0 (0 : Int) x0.op x0.n x0.parts ([] : LS) y2 y3
      else none
    else none
  else bif (x0.op == (4 : Int)) then
    bif (decide (0 ≤ (0 : Int)) && decide ((0 : Int) < (x0.parts.length : Int))) then
      (self151 (listAt x0.parts (Ty.dflt (.st 1)) (0 : Int).toNat) x1).bind fun y52 =>
      w4 (0 : Int) x0.op x0.n x0.parts ([] : LS) y52
    else none
  else bif (x0.op == (5 : Int)) then
    bif (decide (0 ≤ x0.n) && decide (x0.n < (x1.length : Int))) then
      (self151 (listAt x1 (Ty.dflt (.st 1)) x0.n.toNat) x1).bind fun y74 =>
      k y74
    else none
  else k ([] : LS)
def f151.b {R : Type} (L N : Nat) (self151 : Tree → LT → Option (LS)) (k : LS → Option R) (x0 : Tree) (x1 : LT) : Option R :=
  f151.b' L N self151 k (fun s4 s5 s6 s7 s8 s9 s10 => f151.l0 L N self151 (fun z11 z12 z13 z14 z15 z16 => f151.p0_e1 L N self151 k z11 z12 z13 z14 z15 z16) L s4 s5 s6 s7 s8 s9 s10) (fun s53 s54 s55 s56 s57 s58 => f151.l4 L N self151 (fun z59 => f151.p4_e9 L N self151 k z59) L s53 s54 s55 s56 s57 s58) x0 x1
def f151 (L N : Nat) : Nat → Tree → LT → Option (LS)
  | 0, _, _ => none
  | n + 1, x0, x1 => f151.b L N (f151 L N n) some x0 x1
def f151.ent (L N m : Nat) (args : List AV) (vw : View) (site : Nat) : Ans := match coeD [(.st 1), (.sl (.st 1))] vw args with
  | some (d, u) => ⟨LS, f151 L N m d.1 d.2.1, fun y => (.row site, u ++ [(site, some (.row 146 (.st 3) y))], [])⟩
  | none => Ans.no
def Φ151s (L N m : Nat) : Tells := (addT (Φ150 L N) 151 (f151.ent L N m))
noncomputable def E151 (L N m : Nat) : Env := { P := Try.prog, ty := tyOf, Φ := Φ151s L N m, inl := inlT, live := lives, liveX := livesX, L := L, dp := none, prom := promT, heal := healT, ren := renT }
noncomputable def f151.c0 : Code := loopAt 1 (codeOf Try.f151)
theorem f151.s0_pre {R : Type} (L N m : Nat) (κ : Ex → T → H → Option R) (rec : T → H → Option R) (s4 : Int) (s5 : Int) (s6 : Int) (s7 : LT) (s8 : LS) (s9 : LS) (s10 : LS) :
    evRd (E151 L N m) (evCallI (E151 L N m) 1 2000) 1000 151 217 1 f151.c0 κ rec (f151.T0 s4 s5 s6 s7 s8 s9 s10) (f151.H0 s4 s5 s6 s7 s8 s9 s10)
    = f151.s0' L N (f151 L N m) (fun z11 z12 z13 z14 z15 z16 => κ (.exit 1) (f151.T0_e1 z11 z12 z13 z14 z15 z16) (f151.H0_e1 z11 z12 z13 z14 z15 z16)) (fun s4 s5 s6 s7 s8 s9 s10 => rec (f151.T0 s4 s5 s6 s7 s8 s9 s10) (f151.H0 s4 s5 s6 s7 s8 s9 s10)) s4 s5 s6 s7 s8 s9 s10 := by kernel_rfl
theorem f151.s0_eq {R : Type} (L N m : Nat) (κ : Ex → T → H → Option R) (rec : T → H → Option R) (s4 : Int) (s5 : Int) (s6 : Int) (s7 : LT) (s8 : LS) (s9 : LS) (s10 : LS) :
    evRd (E151 L N m) (evCallI (E151 L N m) 1 2000) 1000 151 217 1 f151.c0 κ rec (f151.T0 s4 s5 s6 s7 s8 s9 s10) (f151.H0 s4 s5 s6 s7 s8 s9 s10)
    = f151.s0 L N (f151 L N m) (fun z11 z12 z13 z14 z15 z16 => κ (.exit 1) (f151.T0_e1 z11 z12 z13 z14 z15 z16) (f151.H0_e1 z11 z12 z13 z14 z15 z16)) (fun s4 s5 s6 s7 s8 s9 s10 => rec (f151.T0 s4 s5 s6 s7 s8 s9 s10) (f151.H0 s4 s5 s6 s7 s8 s9 s10)) s4 s5 s6 s7 s8 s9 s10 := by
  rw [f151.s0_pre]
  unfold f151.s0
  rfl
theorem f151.l0_eq {R : Type} (L N m : Nat) (κ : Ex → T → H → Option R) : ∀ (n : Nat) (s4 : Int) (s5 : Int) (s6 : Int) (s7 : LT) (s8 : LS) (s9 : LS) (s10 : LS),
    evLp (E151 L N m) (evCallI (E151 L N m) 1 2000) 1000 151 217 1 f151.c0 κ n (f151.T0 s4 s5 s6 s7 s8 s9 s10) (f151.H0 s4 s5 s6 s7 s8 s9 s10)
    = f151.l0 L N (f151 L N m) (fun z11 z12 z13 z14 z15 z16 => κ (.exit 1) (f151.T0_e1 z11 z12 z13 z14 z15 z16) (f151.H0_e1 z11 z12 z13 z14 z15 z16)) n s4 s5 s6 s7 s8 s9 s10 := by
  intro n
  induction n with
  | zero => intros; rfl
  | succ n ih =>
    intro s4 s5 s6 s7 s8 s9 s10
    rw [evLp_succ, f151.s0_eq]
    simp only [ih]
    rfl
noncomputable def f151.c1 : Code := loopAt 3 (codeOf Try.f151)
theorem f151.s1_pre {R : Type} (L N m : Nat) (κ : Ex → T → H → Option R) (rec : T → H → Option R) (s17 : Int) (s18 : Int) (s19 : Int) (s20 : LT) (s21 : LS) (s22 : LS) (s23 : LS) :
    evRd (E151 L N m) (evCallI (E151 L N m) 1 2000) 1000 151 217 3 f151.c1 κ rec (f151.T1 s17 s18 s19 s20 s21 s22 s23) (f151.H1 s17 s18 s19 s20 s21 s22 s23)
    = f151.s1' L N (f151 L N m) (fun z24 z25 z26 => κ (.exit 3) (f151.T1_e3 z24 z25 z26) (f151.H1_e3 z24 z25 z26)) (fun s17 s18 s19 s20 s21 s22 s23 => rec (f151.T1 s17 s18 s19 s20 s21 s22 s23) (f151.H1 s17 s18 s19 s20 s21 s22 s23)) s17 s18 s19 s20 s21 s22 s23 := by kernel_rfl
theorem f151.s1_eq {R : Type} (L N m : Nat) (κ : Ex → T → H → Option R) (rec : T → H → Option R) (s17 : Int) (s18 : Int) (s19 : Int) (s20 : LT) (s21 : LS) (s22 : LS) (s23 : LS) :
    evRd (E151 L N m) (evCallI (E151 L N m) 1 2000) 1000 151 217 3 f151.c1 κ rec (f151.T1 s17 s18 s19 s20 s21 s22 s23) (f151.H1 s17 s18 s19 s20 s21 s22 s23)
    = f151.s1 L N (f151 L N m) (fun z24 z25 z26 => κ (.exit 3) (f151.T1_e3 z24 z25 z26) (f151.H1_e3 z24 z25 z26)) (fun s17 s18 s19 s20 s21 s22 s23 => rec (f151.T1 s17 s18 s19 s20 s21 s22 s23) (f151.H1 s17 s18 s19 s20 s21 s22 s23)) s17 s18 s19 s20 s21 s22 s23 := by
  rw [f151.s1_pre]
  unfold f151.s1
  rfl
theorem f151.l1_eq {R : Type} (L N m : Nat) (κ : Ex → T → H → Option R) : ∀ (n : Nat) (s17 : Int) (s18 : Int) (s19 : Int) (s20 : LT) (s21 : LS) (s22 : LS) (s23 : LS),
    evLp (E151 L N m) (evCallI (E151 L N m) 1 2000) 1000 151 217 3 f151.c1 κ n (f151.T1 s17 s18 s19 s20 s21 s22 s23) (f151.H1 s17 s18 s19 s20 s21 s22 s23)
    = f151.l1 L N (f151 L N m) (fun z24 z25 z26 => κ (.exit 3) (f151.T1_e3 z24 z25 z26) (f151.H1_e3 z24 z25 z26)) n s17 s18 s19 s20 s21 s22 s23 := by
  intro n
  induction n with
  | zero => intros; rfl
  | succ n ih =>
    intro s17 s18 s19 s20 s21 s22 s23
    rw [evLp_succ, f151.s1_eq]
    simp only [ih]
    rfl
noncomputable def f151.c2 : Code := loopAt 5 (codeOf Try.f151)
noncomputable def f151.c3 : Code := loopAt 7 f151.c2
theorem f151.s3_pre {R : Type} (L N m : Nat) (κ : Ex → T → H → Option R) (rec : T → H → Option R) (s32 : Int) (s33 : Int) (s34 : LS) (s35 : LS) (s36 : LS) :
    evRd (E151 L N m) (evCallI (E151 L N m) 1 2000) 1000 151 217 7 f151.c3 κ rec (f151.T3 s32 s33 s34 s35 s36) (f151.H3 s32 s33 s34 s35 s36)
    = f151.s3' L N (f151 L N m) (fun z37 z38 z39 z40 => κ (.exit 7) (f151.T3_e7 z37 z38 z39 z40) (f151.H3_e7 z37 z38 z39 z40)) (fun s32 s33 s34 s35 s36 => rec (f151.T3 s32 s33 s34 s35 s36) (f151.H3 s32 s33 s34 s35 s36)) s32 s33 s34 s35 s36 := by kernel_rfl
theorem f151.s3_eq {R : Type} (L N m : Nat) (κ : Ex → T → H → Option R) (rec : T → H → Option R) (s32 : Int) (s33 : Int) (s34 : LS) (s35 : LS) (s36 : LS) :
    evRd (E151 L N m) (evCallI (E151 L N m) 1 2000) 1000 151 217 7 f151.c3 κ rec (f151.T3 s32 s33 s34 s35 s36) (f151.H3 s32 s33 s34 s35 s36)
    = f151.s3 L N (f151 L N m) (fun z37 z38 z39 z40 => κ (.exit 7) (f151.T3_e7 z37 z38 z39 z40) (f151.H3_e7 z37 z38 z39 z40)) (fun s32 s33 s34 s35 s36 => rec (f151.T3 s32 s33 s34 s35 s36) (f151.H3 s32 s33 s34 s35 s36)) s32 s33 s34 s35 s36 := by
  rw [f151.s3_pre]
  unfold f151.s3
  rfl
theorem f151.l3_eq {R : Type} (L N m : Nat) (κ : Ex → T → H → Option R) : ∀ (n : Nat) (s32 : Int) (s33 : Int) (s34 : LS) (s35 : LS) (s36 : LS),
    evLp (E151 L N m) (evCallI (E151 L N m) 1 2000) 1000 151 217 7 f151.c3 κ n (f151.T3 s32 s33 s34 s35 s36) (f151.H3 s32 s33 s34 s35 s36)
    = f151.l3 L N (f151 L N m) (fun z37 z38 z39 z40 => κ (.exit 7) (f151.T3_e7 z37 z38 z39 z40) (f151.H3_e7 z37 z38 z39 z40)) n s32 s33 s34 s35 s36 := by
  intro n
  induction n with
  | zero => intros; rfl
  | succ n ih =>
    intro s32 s33 s34 s35 s36
    rw [evLp_succ, f151.s3_eq]
    simp only [ih]
    rfl
theorem f151.p3_e7_pre {R : Type} (L N m : Nat) (κ : Ex → T → H → Option R) (rec : T → H → Option R) (z37 : Int) (z38 : LS) (z39 : LS) (z40 : LS) :
    (contAt (E151 L N m) (evCallI (E151 L N m) 1 2000) 1000 151 217 7 f151.c2 (stepK (outK (keepT 217 ((E151 L N m).liveX 151 5).1) (keepH 1000 ((E151 L N m).liveX 151 5).2) κ) fun t h => rec (backK 1000 217 ((E151 L N m).live 151 5).1 ((E151 L N m).live 151 5).2 ((E151 L N m).heal 151 5) ((E151 L N m).ren 151 5) t h).1 (backK 1000 217 ((E151 L N m).live 151 5).1 ((E151 L N m).live 151 5).2 ((E151 L N m).heal 151 5) ((E151 L N m).ren 151 5) t h).2)) (.exit 7) (f151.T3_e7 z37 z38 z39 z40) (f151.H3_e7 z37 z38 z39 z40)
    = f151.p3_e7' L N (f151 L N m) (fun z31 => κ (.exit 5) (f151.T2_e5 z31) (f151.H2_e5 z31)) (fun s27 s28 s29 s30 => rec (f151.T2 s27 s28 s29 s30) (f151.H2 s27 s28 s29 s30)) z37 z38 z39 z40 := by kernel_rfl
theorem f151.p3_e7_eq {R : Type} (L N m : Nat) (κ : Ex → T → H → Option R) (rec : T → H → Option R) (z37 : Int) (z38 : LS) (z39 : LS) (z40 : LS) :
    (contAt (E151 L N m) (evCallI (E151 L N m) 1 2000) 1000 151 217 7 f151.c2 (stepK (outK (keepT 217 ((E151 L N m).liveX 151 5).1) (keepH 1000 ((E151 L N m).liveX 151 5).2) κ) fun t h => rec (backK 1000 217 ((E151 L N m).live 151 5).1 ((E151 L N m).live 151 5).2 ((E151 L N m).heal 151 5) ((E151 L N m).ren 151 5) t h).1 (backK 1000 217 ((E151 L N m).live 151 5).1 ((E151 L N m).live 151 5).2 ((E151 L N m).heal 151 5) ((E151 L N m).ren 151 5) t h).2)) (.exit 7) (f151.T3_e7 z37 z38 z39 z40) (f151.H3_e7 z37 z38 z39 z40)
    = f151.p3_e7 L N (f151 L N m) (fun z31 => κ (.exit 5) (f151.T2_e5 z31) (f151.H2_e5 z31)) (fun s27 s28 s29 s30 => rec (f151.T2 s27 s28 s29 s30) (f151.H2 s27 s28 s29 s30)) z37 z38 z39 z40 := by
  rw [f151.p3_e7_pre]
  unfold f151.p3_e7
  rfl
theorem f151.s2_pre {R : Type} (L N m : Nat) (κ : Ex → T → H → Option R) (rec : T → H → Option R) (s27 : Int) (s28 : LS) (s29 : LS) (s30 : LS) :
    evRd (E151 L N m) (evCallI (E151 L N m) 1 2000) 1000 151 217 5 f151.c2 κ rec (f151.T2 s27 s28 s29 s30) (f151.H2 s27 s28 s29 s30)
    = f151.s2' L N (f151 L N m) (fun z31 => κ (.exit 5) (f151.T2_e5 z31) (f151.H2_e5 z31)) (fun s27 s28 s29 s30 => rec (f151.T2 s27 s28 s29 s30) (f151.H2 s27 s28 s29 s30)) (fun s32 s33 s34 s35 s36 => evLp (E151 L N m) (evCallI (E151 L N m) 1 2000) 1000 151 217 7 f151.c3 (contAt (E151 L N m) (evCallI (E151 L N m) 1 2000) 1000 151 217 7 f151.c2 (stepK (outK (keepT 217 ((E151 L N m).liveX 151 5).1) (keepH 1000 ((E151 L N m).liveX 151 5).2) κ) fun t h => rec (backK 1000 217 ((E151 L N m).live 151 5).1 ((E151 L N m).live 151 5).2 ((E151 L N m).heal 151 5) ((E151 L N m).ren 151 5) t h).1 (backK 1000 217 ((E151 L N m).live 151 5).1 ((E151 L N m).live 151 5).2 ((E151 L N m).heal 151 5) ((E151 L N m).ren 151 5) t h).2)) L (f151.T3 s32 s33 s34 s35 s36) (f151.H3 s32 s33 s34 s35 s36)) s27 s28 s29 s30 := by kernel_rfl
theorem f151.s2_eq {R : Type} (L N m : Nat) (κ : Ex → T → H → Option R) (rec : T → H → Option R) (s27 : Int) (s28 : LS) (s29 : LS) (s30 : LS) :
    evRd (E151 L N m) (evCallI (E151 L N m) 1 2000) 1000 151 217 5 f151.c2 κ rec (f151.T2 s27 s28 s29 s30) (f151.H2 s27 s28 s29 s30)
    = f151.s2 L N (f151 L N m) (fun z31 => κ (.exit 5) (f151.T2_e5 z31) (f151.H2_e5 z31)) (fun s27 s28 s29 s30 => rec (f151.T2 s27 s28 s29 s30) (f151.H2 s27 s28 s29 s30)) s27 s28 s29 s30 := by
  rw [f151.s2_pre]
  unfold f151.s2
  simp only [f151.l3_eq, f151.p3_e7_eq]
theorem f151.l2_eq {R : Type} (L N m : Nat) (κ : Ex → T → H → Option R) : ∀ (n : Nat) (s27 : Int) (s28 : LS) (s29 : LS) (s30 : LS),
    evLp (E151 L N m) (evCallI (E151 L N m) 1 2000) 1000 151 217 5 f151.c2 κ n (f151.T2 s27 s28 s29 s30) (f151.H2 s27 s28 s29 s30)
    = f151.l2 L N (f151 L N m) (fun z31 => κ (.exit 5) (f151.T2_e5 z31) (f151.H2_e5 z31)) n s27 s28 s29 s30 := by
  intro n
  induction n with
  | zero => intros; rfl
  | succ n ih =>
    intro s27 s28 s29 s30
    rw [evLp_succ, f151.s2_eq]
    simp only [ih]
    rfl
theorem f151.p2_e5_pre {R : Type} (L N m : Nat) (κ : List Step → Option R) (z31 : LS) :
    (contAt (E151 L N m) (evCallI (E151 L N m) 1 2000) 1000 151 217 5 (codeOf Try.f151) (finK (E151 L N m) 1000 Try.f151 (finRow 146 (.st 3) κ))) (.exit 5) (f151.T2_e5 z31) (f151.H2_e5 z31)
    = f151.p2_e5' L N (f151 L N m) κ z31 := by kernel_rfl
theorem f151.p2_e5_eq {R : Type} (L N m : Nat) (κ : List Step → Option R) (z31 : LS) :
    (contAt (E151 L N m) (evCallI (E151 L N m) 1 2000) 1000 151 217 5 (codeOf Try.f151) (finK (E151 L N m) 1000 Try.f151 (finRow 146 (.st 3) κ))) (.exit 5) (f151.T2_e5 z31) (f151.H2_e5 z31)
    = f151.p2_e5 L N (f151 L N m) κ z31 := by
  rw [f151.p2_e5_pre]
  unfold f151.p2_e5
  rfl
theorem f151.p1_e3_pre {R : Type} (L N m : Nat) (κ : List Step → Option R) (z24 : LS) (z25 : LS) (z26 : LS) :
    (contAt (E151 L N m) (evCallI (E151 L N m) 1 2000) 1000 151 217 3 (codeOf Try.f151) (finK (E151 L N m) 1000 Try.f151 (finRow 146 (.st 3) κ))) (.exit 3) (f151.T1_e3 z24 z25 z26) (f151.H1_e3 z24 z25 z26)
    = f151.p1_e3' L N (f151 L N m) κ (fun s27 s28 s29 s30 => evLp (E151 L N m) (evCallI (E151 L N m) 1 2000) 1000 151 217 5 f151.c2 (contAt (E151 L N m) (evCallI (E151 L N m) 1 2000) 1000 151 217 5 (codeOf Try.f151) (finK (E151 L N m) 1000 Try.f151 (finRow 146 (.st 3) κ))) L (f151.T2 s27 s28 s29 s30) (f151.H2 s27 s28 s29 s30)) z24 z25 z26 := by kernel_rfl
theorem f151.p1_e3_eq {R : Type} (L N m : Nat) (κ : List Step → Option R) (z24 : LS) (z25 : LS) (z26 : LS) :
    (contAt (E151 L N m) (evCallI (E151 L N m) 1 2000) 1000 151 217 3 (codeOf Try.f151) (finK (E151 L N m) 1000 Try.f151 (finRow 146 (.st 3) κ))) (.exit 3) (f151.T1_e3 z24 z25 z26) (f151.H1_e3 z24 z25 z26)
    = f151.p1_e3 L N (f151 L N m) κ z24 z25 z26 := by
  rw [f151.p1_e3_pre]
  unfold f151.p1_e3
  simp only [f151.l2_eq, f151.p2_e5_eq]
theorem f151.p0_e1_pre {R : Type} (L N m : Nat) (κ : List Step → Option R) (z11 : Int) (z12 : Int) (z13 : LT) (z14 : LS) (z15 : LS) (z16 : LS) :
    (contAt (E151 L N m) (evCallI (E151 L N m) 1 2000) 1000 151 217 1 (codeOf Try.f151) (finK (E151 L N m) 1000 Try.f151 (finRow 146 (.st 3) κ))) (.exit 1) (f151.T0_e1 z11 z12 z13 z14 z15 z16) (f151.H0_e1 z11 z12 z13 z14 z15 z16)
    = f151.p0_e1' L N (f151 L N m) κ (fun s17 s18 s19 s20 s21 s22 s23 => evLp (E151 L N m) (evCallI (E151 L N m) 1 2000) 1000 151 217 3 f151.c1 (contAt (E151 L N m) (evCallI (E151 L N m) 1 2000) 1000 151 217 3 (codeOf Try.f151) (finK (E151 L N m) 1000 Try.f151 (finRow 146 (.st 3) κ))) L (f151.T1 s17 s18 s19 s20 s21 s22 s23) (f151.H1 s17 s18 s19 s20 s21 s22 s23)) z11 z12 z13 z14 z15 z16 := by kernel_rfl
theorem f151.p0_e1_eq {R : Type} (L N m : Nat) (κ : List Step → Option R) (z11 : Int) (z12 : Int) (z13 : LT) (z14 : LS) (z15 : LS) (z16 : LS) :
    (contAt (E151 L N m) (evCallI (E151 L N m) 1 2000) 1000 151 217 1 (codeOf Try.f151) (finK (E151 L N m) 1000 Try.f151 (finRow 146 (.st 3) κ))) (.exit 1) (f151.T0_e1 z11 z12 z13 z14 z15 z16) (f151.H0_e1 z11 z12 z13 z14 z15 z16)
    = f151.p0_e1 L N (f151 L N m) κ z11 z12 z13 z14 z15 z16 := by
  rw [f151.p0_e1_pre]
  unfold f151.p0_e1
  simp only [f151.l1_eq, f151.p1_e3_eq]
noncomputable def f151.c4 : Code := loopAt 9 (codeOf Try.f151)
theorem f151.s4_pre {R : Type} (L N m : Nat) (κ : Ex → T → H → Option R) (rec : T → H → Option R) (s53 : Int) (s54 : Int) (s55 : Int) (s56 : LT) (s57 : LS) (s58 : LS) :
    evRd (E151 L N m) (evCallI (E151 L N m) 1 2000) 1000 151 217 9 f151.c4 κ rec (f151.T4 s53 s54 s55 s56 s57 s58) (f151.H4 s53 s54 s55 s56 s57 s58)
    = f151.s4' L N (f151 L N m) (fun z59 => κ (.exit 9) (f151.T4_e9 z59) (f151.H4_e9 z59)) (fun s53 s54 s55 s56 s57 s58 => rec (f151.T4 s53 s54 s55 s56 s57 s58) (f151.H4 s53 s54 s55 s56 s57 s58)) s53 s54 s55 s56 s57 s58 := by kernel_rfl
theorem f151.s4_eq {R : Type} (L N m : Nat) (κ : Ex → T → H → Option R) (rec : T → H → Option R) (s53 : Int) (s54 : Int) (s55 : Int) (s56 : LT) (s57 : LS) (s58 : LS) :
    evRd (E151 L N m) (evCallI (E151 L N m) 1 2000) 1000 151 217 9 f151.c4 κ rec (f151.T4 s53 s54 s55 s56 s57 s58) (f151.H4 s53 s54 s55 s56 s57 s58)
    = f151.s4 L N (f151 L N m) (fun z59 => κ (.exit 9) (f151.T4_e9 z59) (f151.H4_e9 z59)) (fun s53 s54 s55 s56 s57 s58 => rec (f151.T4 s53 s54 s55 s56 s57 s58) (f151.H4 s53 s54 s55 s56 s57 s58)) s53 s54 s55 s56 s57 s58 := by
  rw [f151.s4_pre]
  unfold f151.s4
  rfl
theorem f151.l4_eq {R : Type} (L N m : Nat) (κ : Ex → T → H → Option R) : ∀ (n : Nat) (s53 : Int) (s54 : Int) (s55 : Int) (s56 : LT) (s57 : LS) (s58 : LS),
    evLp (E151 L N m) (evCallI (E151 L N m) 1 2000) 1000 151 217 9 f151.c4 κ n (f151.T4 s53 s54 s55 s56 s57 s58) (f151.H4 s53 s54 s55 s56 s57 s58)
    = f151.l4 L N (f151 L N m) (fun z59 => κ (.exit 9) (f151.T4_e9 z59) (f151.H4_e9 z59)) n s53 s54 s55 s56 s57 s58 := by
  intro n
  induction n with
  | zero => intros; rfl
  | succ n ih =>
    intro s53 s54 s55 s56 s57 s58
    rw [evLp_succ, f151.s4_eq]
    simp only [ih]
    rfl
theorem f151.p4_e9_pre {R : Type} (L N m : Nat) (κ : List Step → Option R) (z59 : LS) :
    (contAt (E151 L N m) (evCallI (E151 L N m) 1 2000) 1000 151 217 9 (codeOf Try.f151) (finK (E151 L N m) 1000 Try.f151 (finRow 146 (.st 3) κ))) (.exit 9) (f151.T4_e9 z59) (f151.H4_e9 z59)
    = f151.p4_e9' L N (f151 L N m) κ z59 := by kernel_rfl
theorem f151.p4_e9_eq {R : Type} (L N m : Nat) (κ : List Step → Option R) (z59 : LS) :
    (contAt (E151 L N m) (evCallI (E151 L N m) 1 2000) 1000 151 217 9 (codeOf Try.f151) (finK (E151 L N m) 1000 Try.f151 (finRow 146 (.st 3) κ))) (.exit 9) (f151.T4_e9 z59) (f151.H4_e9 z59)
    = f151.p4_e9 L N (f151 L N m) κ z59 := by
  rw [f151.p4_e9_pre]
  unfold f151.p4_e9
  rfl
theorem f151.b_pre {R : Type} (L N m : Nat) (κ : List Step → Option R) (x0 : Tree) (x1 : LT) :
    evBody (E151 L N m) (evCallI (E151 L N m) 1 2000) 1000 151 Try.f151 [(.tv (.st 1) x0), (.tv (.sl (.st 1)) x1)] [] [] (finRow 146 (.st 3) κ)
    = f151.b' L N (f151 L N m) κ (fun s4 s5 s6 s7 s8 s9 s10 => evLp (E151 L N m) (evCallI (E151 L N m) 1 2000) 1000 151 217 1 f151.c0 (contAt (E151 L N m) (evCallI (E151 L N m) 1 2000) 1000 151 217 1 (codeOf Try.f151) (finK (E151 L N m) 1000 Try.f151 (finRow 146 (.st 3) κ))) L (f151.T0 s4 s5 s6 s7 s8 s9 s10) (f151.H0 s4 s5 s6 s7 s8 s9 s10)) (fun s53 s54 s55 s56 s57 s58 => evLp (E151 L N m) (evCallI (E151 L N m) 1 2000) 1000 151 217 9 f151.c4 (contAt (E151 L N m) (evCallI (E151 L N m) 1 2000) 1000 151 217 9 (codeOf Try.f151) (finK (E151 L N m) 1000 Try.f151 (finRow 146 (.st 3) κ))) L (f151.T4 s53 s54 s55 s56 s57 s58) (f151.H4 s53 s54 s55 s56 s57 s58)) x0 x1 := by kernel_rfl
theorem f151.b_eq {R : Type} (L N m : Nat) (κ : List Step → Option R) (x0 : Tree) (x1 : LT) :
    evBody (E151 L N m) (evCallI (E151 L N m) 1 2000) 1000 151 Try.f151 [(.tv (.st 1) x0), (.tv (.sl (.st 1)) x1)] [] [] (finRow 146 (.st 3) κ)
    = f151.b L N (f151 L N m) κ x0 x1 := by
  rw [f151.b_pre]
  unfold f151.b
  simp only [f151.l0_eq, f151.l4_eq, f151.p0_e1_eq, f151.p4_e9_eq]
theorem f151.s0'_nat {R R' : Type} (j : R → Option R') (L N : Nat) (self151 : Tree → LT → Option (LS)) (k0_e1 : Int → Int → LT → LS → LS → LS → Option R) (rec0 : Int → Int → Int → LT → LS → LS → LS → Option R) (s4 : Int) (s5 : Int) (s6 : Int) (s7 : LT) (s8 : LS) (s9 : LS) (s10 : LS) :
    f151.s0' L N self151 (fun a0 a1 a2 a3 a4 a5 => (k0_e1 a0 a1 a2 a3 a4 a5).bind j) (fun a0 a1 a2 a3 a4 a5 a6 => (rec0 a0 a1 a2 a3 a4 a5 a6).bind j) s4 s5 s6 s7 s8 s9 s10 = (f151.s0' L N self151 k0_e1 rec0 s4 s5 s6 s7 s8 s9 s10).bind j := by
  unfold f151.s0'
  repeat' (first | (with_reducible refine cond_nat ?_ ?_) | (with_reducible refine bind_nat fun _ => ?_) | rfl)
theorem f151.s0_nat {R R' : Type} (j : R → Option R') (L N : Nat) (self151 : Tree → LT → Option (LS)) (k0_e1 : Int → Int → LT → LS → LS → LS → Option R) (rec0 : Int → Int → Int → LT → LS → LS → LS → Option R) (s4 : Int) (s5 : Int) (s6 : Int) (s7 : LT) (s8 : LS) (s9 : LS) (s10 : LS) :
    f151.s0 L N self151 (fun a0 a1 a2 a3 a4 a5 => (k0_e1 a0 a1 a2 a3 a4 a5).bind j) (fun a0 a1 a2 a3 a4 a5 a6 => (rec0 a0 a1 a2 a3 a4 a5 a6).bind j) s4 s5 s6 s7 s8 s9 s10 = (f151.s0 L N self151 k0_e1 rec0 s4 s5 s6 s7 s8 s9 s10).bind j := by
  unfold f151.s0
  exact f151.s0'_nat ..
theorem f151.l0_nat {R R' : Type} (j : R → Option R') (L N : Nat) (self151 : Tree → LT → Option (LS)) (k0_e1 : Int → Int → LT → LS → LS → LS → Option R) : ∀ (n : Nat) (s4 : Int) (s5 : Int) (s6 : Int) (s7 : LT) (s8 : LS) (s9 : LS) (s10 : LS),
    f151.l0 L N self151 (fun a0 a1 a2 a3 a4 a5 => (k0_e1 a0 a1 a2 a3 a4 a5).bind j) n s4 s5 s6 s7 s8 s9 s10 = (f151.l0 L N self151 k0_e1 n s4 s5 s6 s7 s8 s9 s10).bind j := by
  intro n
  induction n with
  | zero => intros; rfl
  | succ n ih =>
    intro s4 s5 s6 s7 s8 s9 s10
    show f151.s0 L N self151 (fun a0 a1 a2 a3 a4 a5 => (k0_e1 a0 a1 a2 a3 a4 a5).bind j) (f151.l0 L N self151 (fun a0 a1 a2 a3 a4 a5 => (k0_e1 a0 a1 a2 a3 a4 a5).bind j) n) s4 s5 s6 s7 s8 s9 s10 = _
    rw [show f151.l0 L N self151 (fun a0 a1 a2 a3 a4 a5 => (k0_e1 a0 a1 a2 a3 a4 a5).bind j) n = (fun s4 s5 s6 s7 s8 s9 s10 => (f151.l0 L N self151 k0_e1 n s4 s5 s6 s7 s8 s9 s10).bind j) from funext fun s4 => funext fun s5 => funext fun s6 => funext fun s7 => funext fun s8 => funext fun s9 => funext fun s10 => ih s4 s5 s6 s7 s8 s9 s10]
    exact f151.s0_nat ..
theorem f151.s1'_nat {R R' : Type} (j : R → Option R') (L N : Nat) (self151 : Tree → LT → Option (LS)) (k1_e3 : LS → LS → LS → Option R) (rec1 : Int → Int → Int → LT → LS → LS → LS → Option R) (s17 : Int) (s18 : Int) (s19 : Int) (s20 : LT) (s21 : LS) (s22 : LS) (s23 : LS) :
    f151.s1' L N self151 (fun a0 a1 a2 => (k1_e3 a0 a1 a2).bind j) (fun a0 a1 a2 a3 a4 a5 a6 => (rec1 a0 a1 a2 a3 a4 a5 a6).bind j) s17 s18 s19 s20 s21 s22 s23 = (f151.s1' L N self151 k1_e3 rec1 s17 s18 s19 s20 s21 s22 s23).bind j := by
  unfold f151.s1'
  repeat' (first | (with_reducible refine cond_nat ?_ ?_) | (with_reducible refine bind_nat fun _ => ?_) | rfl)
theorem f151.s1_nat {R R' : Type} (j : R → Option R') (L N : Nat) (self151 : Tree → LT → Option (LS)) (k1_e3 : LS → LS → LS → Option R) (rec1 : Int → Int → Int → LT → LS → LS → LS → Option R) (s17 : Int) (s18 : Int) (s19 : Int) (s20 : LT) (s21 : LS) (s22 : LS) (s23 : LS) :
    f151.s1 L N self151 (fun a0 a1 a2 => (k1_e3 a0 a1 a2).bind j) (fun a0 a1 a2 a3 a4 a5 a6 => (rec1 a0 a1 a2 a3 a4 a5 a6).bind j) s17 s18 s19 s20 s21 s22 s23 = (f151.s1 L N self151 k1_e3 rec1 s17 s18 s19 s20 s21 s22 s23).bind j := by
  unfold f151.s1
  exact f151.s1'_nat ..
theorem f151.l1_nat {R R' : Type} (j : R → Option R') (L N : Nat) (self151 : Tree → LT → Option (LS)) (k1_e3 : LS → LS → LS → Option R) : ∀ (n : Nat) (s17 : Int) (s18 : Int) (s19 : Int) (s20 : LT) (s21 : LS) (s22 : LS) (s23 : LS),
    f151.l1 L N self151 (fun a0 a1 a2 => (k1_e3 a0 a1 a2).bind j) n s17 s18 s19 s20 s21 s22 s23 = (f151.l1 L N self151 k1_e3 n s17 s18 s19 s20 s21 s22 s23).bind j := by
  intro n
  induction n with
  | zero => intros; rfl
  | succ n ih =>
    intro s17 s18 s19 s20 s21 s22 s23
    show f151.s1 L N self151 (fun a0 a1 a2 => (k1_e3 a0 a1 a2).bind j) (f151.l1 L N self151 (fun a0 a1 a2 => (k1_e3 a0 a1 a2).bind j) n) s17 s18 s19 s20 s21 s22 s23 = _
    rw [show f151.l1 L N self151 (fun a0 a1 a2 => (k1_e3 a0 a1 a2).bind j) n = (fun s17 s18 s19 s20 s21 s22 s23 => (f151.l1 L N self151 k1_e3 n s17 s18 s19 s20 s21 s22 s23).bind j) from funext fun s17 => funext fun s18 => funext fun s19 => funext fun s20 => funext fun s21 => funext fun s22 => funext fun s23 => ih s17 s18 s19 s20 s21 s22 s23]
    exact f151.s1_nat ..
theorem f151.j0'_nat {R R' : Type} (j : R → Option R') (L N : Nat) (self151 : Tree → LT → Option (LS)) (k3_e7 : Int → LS → LS → LS → Option R) (rec3 : Int → Int → LS → LS → LS → Option R) (v41 : Int) (v42 : Int) (v43 : Bool) (v44 : LS) (v45 : LS) (v46 : LS) :
    f151.j0' L N self151 (fun a0 a1 a2 a3 => (k3_e7 a0 a1 a2 a3).bind j) (fun a0 a1 a2 a3 a4 => (rec3 a0 a1 a2 a3 a4).bind j) v41 v42 v43 v44 v45 v46 = (f151.j0' L N self151 k3_e7 rec3 v41 v42 v43 v44 v45 v46).bind j := by
  unfold f151.j0'
  repeat' (first | (with_reducible refine cond_nat ?_ ?_) | (with_reducible refine bind_nat fun _ => ?_) | rfl)
theorem f151.s3'_nat {R R' : Type} (j : R → Option R') (L N : Nat) (self151 : Tree → LT → Option (LS)) (k3_e7 : Int → LS → LS → LS → Option R) (rec3 : Int → Int → LS → LS → LS → Option R) (s32 : Int) (s33 : Int) (s34 : LS) (s35 : LS) (s36 : LS) :
    f151.s3' L N self151 (fun a0 a1 a2 a3 => (k3_e7 a0 a1 a2 a3).bind j) (fun a0 a1 a2 a3 a4 => (rec3 a0 a1 a2 a3 a4).bind j) s32 s33 s34 s35 s36 = (f151.s3' L N self151 k3_e7 rec3 s32 s33 s34 s35 s36).bind j := by
  unfold f151.s3'
  repeat' (first | (with_reducible refine cond_nat ?_ ?_) | (with_reducible refine bind_nat fun _ => ?_) | exact f151.j0'_nat .. | rfl)
theorem f151.s3_nat {R R' : Type} (j : R → Option R') (L N : Nat) (self151 : Tree → LT → Option (LS)) (k3_e7 : Int → LS → LS → LS → Option R) (rec3 : Int → Int → LS → LS → LS → Option R) (s32 : Int) (s33 : Int) (s34 : LS) (s35 : LS) (s36 : LS) :
    f151.s3 L N self151 (fun a0 a1 a2 a3 => (k3_e7 a0 a1 a2 a3).bind j) (fun a0 a1 a2 a3 a4 => (rec3 a0 a1 a2 a3 a4).bind j) s32 s33 s34 s35 s36 = (f151.s3 L N self151 k3_e7 rec3 s32 s33 s34 s35 s36).bind j := by
  unfold f151.s3
  exact f151.s3'_nat ..
theorem f151.l3_nat {R R' : Type} (j : R → Option R') (L N : Nat) (self151 : Tree → LT → Option (LS)) (k3_e7 : Int → LS → LS → LS → Option R) : ∀ (n : Nat) (s32 : Int) (s33 : Int) (s34 : LS) (s35 : LS) (s36 : LS),
    f151.l3 L N self151 (fun a0 a1 a2 a3 => (k3_e7 a0 a1 a2 a3).bind j) n s32 s33 s34 s35 s36 = (f151.l3 L N self151 k3_e7 n s32 s33 s34 s35 s36).bind j := by
  intro n
  induction n with
  | zero => intros; rfl
  | succ n ih =>
    intro s32 s33 s34 s35 s36
    show f151.s3 L N self151 (fun a0 a1 a2 a3 => (k3_e7 a0 a1 a2 a3).bind j) (f151.l3 L N self151 (fun a0 a1 a2 a3 => (k3_e7 a0 a1 a2 a3).bind j) n) s32 s33 s34 s35 s36 = _
    rw [show f151.l3 L N self151 (fun a0 a1 a2 a3 => (k3_e7 a0 a1 a2 a3).bind j) n = (fun s32 s33 s34 s35 s36 => (f151.l3 L N self151 k3_e7 n s32 s33 s34 s35 s36).bind j) from funext fun s32 => funext fun s33 => funext fun s34 => funext fun s35 => funext fun s36 => ih s32 s33 s34 s35 s36]
    exact f151.s3_nat ..
theorem f151.p3_e7'_nat {R R' : Type} (j : R → Option R') (L N : Nat) (self151 : Tree → LT → Option (LS)) (k2_e5 : LS → Option R) (rec2 : Int → LS → LS → LS → Option R) (z37 : Int) (z38 : LS) (z39 : LS) (z40 : LS) :
    f151.p3_e7' L N self151 (fun a0 => (k2_e5 a0).bind j) (fun a0 a1 a2 a3 => (rec2 a0 a1 a2 a3).bind j) z37 z38 z39 z40 = (f151.p3_e7' L N self151 k2_e5 rec2 z37 z38 z39 z40).bind j := by
  unfold f151.p3_e7'
  repeat' (first | (with_reducible refine cond_nat ?_ ?_) | (with_reducible refine bind_nat fun _ => ?_) | rfl)
theorem f151.p3_e7_nat {R R' : Type} (j : R → Option R') (L N : Nat) (self151 : Tree → LT → Option (LS)) (k2_e5 : LS → Option R) (rec2 : Int → LS → LS → LS → Option R) (z37 : Int) (z38 : LS) (z39 : LS) (z40 : LS) :
    f151.p3_e7 L N self151 (fun a0 => (k2_e5 a0).bind j) (fun a0 a1 a2 a3 => (rec2 a0 a1 a2 a3).bind j) z37 z38 z39 z40 = (f151.p3_e7 L N self151 k2_e5 rec2 z37 z38 z39 z40).bind j := by
  unfold f151.p3_e7
  exact f151.p3_e7'_nat ..
theorem f151.s2'_nat {R R' : Type} (j : R → Option R') (L N : Nat) (self151 : Tree → LT → Option (LS)) (k2_e5 : LS → Option R) (rec2 : Int → LS → LS → LS → Option R) (w3 : Int → Int → LS → LS → LS → Option R) (s27 : Int) (s28 : LS) (s29 : LS) (s30 : LS) :
    f151.s2' L N self151 (fun a0 => (k2_e5 a0).bind j) (fun a0 a1 a2 a3 => (rec2 a0 a1 a2 a3).bind j) (fun a0 a1 a2 a3 a4 => (w3 a0 a1 a2 a3 a4).bind j) s27 s28 s29 s30 = (f151.s2' L N self151 k2_e5 rec2 w3 s27 s28 s29 s30).bind j := by
  unfold f151.s2'
  repeat' (first | (with_reducible refine cond_nat ?_ ?_) | (with_reducible refine bind_nat fun _ => ?_) | rfl)
theorem f151.s2_nat {R R' : Type} (j : R → Option R') (L N : Nat) (self151 : Tree → LT → Option (LS)) (k2_e5 : LS → Option R) (rec2 : Int → LS → LS → LS → Option R) (s27 : Int) (s28 : LS) (s29 : LS) (s30 : LS) :
    f151.s2 L N self151 (fun a0 => (k2_e5 a0).bind j) (fun a0 a1 a2 a3 => (rec2 a0 a1 a2 a3).bind j) s27 s28 s29 s30 = (f151.s2 L N self151 k2_e5 rec2 s27 s28 s29 s30).bind j := by
  unfold f151.s2
  simp only [f151.l3_nat, f151.p3_e7_nat]
  exact f151.s2'_nat ..
theorem f151.l2_nat {R R' : Type} (j : R → Option R') (L N : Nat) (self151 : Tree → LT → Option (LS)) (k2_e5 : LS → Option R) : ∀ (n : Nat) (s27 : Int) (s28 : LS) (s29 : LS) (s30 : LS),
    f151.l2 L N self151 (fun a0 => (k2_e5 a0).bind j) n s27 s28 s29 s30 = (f151.l2 L N self151 k2_e5 n s27 s28 s29 s30).bind j := by
  intro n
  induction n with
  | zero => intros; rfl
  | succ n ih =>
    intro s27 s28 s29 s30
    show f151.s2 L N self151 (fun a0 => (k2_e5 a0).bind j) (f151.l2 L N self151 (fun a0 => (k2_e5 a0).bind j) n) s27 s28 s29 s30 = _
    rw [show f151.l2 L N self151 (fun a0 => (k2_e5 a0).bind j) n = (fun s27 s28 s29 s30 => (f151.l2 L N self151 k2_e5 n s27 s28 s29 s30).bind j) from funext fun s27 => funext fun s28 => funext fun s29 => funext fun s30 => ih s27 s28 s29 s30]
    exact f151.s2_nat ..
theorem f151.p2_e5'_nat {R R' : Type} (j : R → Option R') (L N : Nat) (self151 : Tree → LT → Option (LS)) (k : LS → Option R) (z31 : LS) :
    f151.p2_e5' L N self151 (fun a0 => (k a0).bind j) z31 = (f151.p2_e5' L N self151 k z31).bind j := by
  unfold f151.p2_e5'
  repeat' (first | (with_reducible refine cond_nat ?_ ?_) | (with_reducible refine bind_nat fun _ => ?_) | rfl)
theorem f151.p2_e5_nat {R R' : Type} (j : R → Option R') (L N : Nat) (self151 : Tree → LT → Option (LS)) (k : LS → Option R) (z31 : LS) :
    f151.p2_e5 L N self151 (fun a0 => (k a0).bind j) z31 = (f151.p2_e5 L N self151 k z31).bind j := by
  unfold f151.p2_e5
  exact f151.p2_e5'_nat ..
theorem f151.p1_e3'_nat {R R' : Type} (j : R → Option R') (L N : Nat) (self151 : Tree → LT → Option (LS)) (k : LS → Option R) (w2 : Int → LS → LS → LS → Option R) (z24 : LS) (z25 : LS) (z26 : LS) :
    f151.p1_e3' L N self151 (fun a0 => (k a0).bind j) (fun a0 a1 a2 a3 => (w2 a0 a1 a2 a3).bind j) z24 z25 z26 = (f151.p1_e3' L N self151 k w2 z24 z25 z26).bind j := by
  unfold f151.p1_e3'
  repeat' (first | (with_reducible refine cond_nat ?_ ?_) | (with_reducible refine bind_nat fun _ => ?_) | rfl)
theorem f151.p1_e3_nat {R R' : Type} (j : R → Option R') (L N : Nat) (self151 : Tree → LT → Option (LS)) (k : LS → Option R) (z24 : LS) (z25 : LS) (z26 : LS) :
    f151.p1_e3 L N self151 (fun a0 => (k a0).bind j) z24 z25 z26 = (f151.p1_e3 L N self151 k z24 z25 z26).bind j := by
  unfold f151.p1_e3
  simp only [f151.l2_nat, f151.p2_e5_nat]
  exact f151.p1_e3'_nat ..
theorem f151.p0_e1'_nat {R R' : Type} (j : R → Option R') (L N : Nat) (self151 : Tree → LT → Option (LS)) (k : LS → Option R) (w1 : Int → Int → Int → LT → LS → LS → LS → Option R) (z11 : Int) (z12 : Int) (z13 : LT) (z14 : LS) (z15 : LS) (z16 : LS) :
    f151.p0_e1' L N self151 (fun a0 => (k a0).bind j) (fun a0 a1 a2 a3 a4 a5 a6 => (w1 a0 a1 a2 a3 a4 a5 a6).bind j) z11 z12 z13 z14 z15 z16 = (f151.p0_e1' L N self151 k w1 z11 z12 z13 z14 z15 z16).bind j := by
  unfold f151.p0_e1'
  repeat' (first | (with_reducible refine cond_nat ?_ ?_) | (with_reducible refine bind_nat fun _ => ?_) | rfl)
theorem f151.p0_e1_nat {R R' : Type} (j : R → Option R') (L N : Nat) (self151 : Tree → LT → Option (LS)) (k : LS → Option R) (z11 : Int) (z12 : Int) (z13 : LT) (z14 : LS) (z15 : LS) (z16 : LS) :
    f151.p0_e1 L N self151 (fun a0 => (k a0).bind j) z11 z12 z13 z14 z15 z16 = (f151.p0_e1 L N self151 k z11 z12 z13 z14 z15 z16).bind j := by
  unfold f151.p0_e1
  simp only [f151.l1_nat, f151.p1_e3_nat]
  exact f151.p0_e1'_nat ..
theorem f151.j1'_nat {R R' : Type} (j : R → Option R') (L N : Nat) (self151 : Tree → LT → Option (LS)) (k4_e9 : LS → Option R) (rec4 : Int → Int → Int → LT → LS → LS → Option R) (v61 : Int) (v62 : Bool) (v63 : Int) (v64 : Int) (v65 : LT) (v66 : LS) (v67 : LS) :
    f151.j1' L N self151 (fun a0 => (k4_e9 a0).bind j) (fun a0 a1 a2 a3 a4 a5 => (rec4 a0 a1 a2 a3 a4 a5).bind j) v61 v62 v63 v64 v65 v66 v67 = (f151.j1' L N self151 k4_e9 rec4 v61 v62 v63 v64 v65 v66 v67).bind j := by
  unfold f151.j1'
  repeat' (first | (with_reducible refine cond_nat ?_ ?_) | (with_reducible refine bind_nat fun _ => ?_) | rfl)
theorem f151.s4'_nat {R R' : Type} (j : R → Option R') (L N : Nat) (self151 : Tree → LT → Option (LS)) (k4_e9 : LS → Option R) (rec4 : Int → Int → Int → LT → LS → LS → Option R) (s53 : Int) (s54 : Int) (s55 : Int) (s56 : LT) (s57 : LS) (s58 : LS) :
    f151.s4' L N self151 (fun a0 => (k4_e9 a0).bind j) (fun a0 a1 a2 a3 a4 a5 => (rec4 a0 a1 a2 a3 a4 a5).bind j) s53 s54 s55 s56 s57 s58 = (f151.s4' L N self151 k4_e9 rec4 s53 s54 s55 s56 s57 s58).bind j := by
  unfold f151.s4'
  repeat' (first | (with_reducible refine cond_nat ?_ ?_) | (with_reducible refine bind_nat fun _ => ?_) | exact f151.j1'_nat .. | rfl)
theorem f151.s4_nat {R R' : Type} (j : R → Option R') (L N : Nat) (self151 : Tree → LT → Option (LS)) (k4_e9 : LS → Option R) (rec4 : Int → Int → Int → LT → LS → LS → Option R) (s53 : Int) (s54 : Int) (s55 : Int) (s56 : LT) (s57 : LS) (s58 : LS) :
    f151.s4 L N self151 (fun a0 => (k4_e9 a0).bind j) (fun a0 a1 a2 a3 a4 a5 => (rec4 a0 a1 a2 a3 a4 a5).bind j) s53 s54 s55 s56 s57 s58 = (f151.s4 L N self151 k4_e9 rec4 s53 s54 s55 s56 s57 s58).bind j := by
  unfold f151.s4
  exact f151.s4'_nat ..
theorem f151.l4_nat {R R' : Type} (j : R → Option R') (L N : Nat) (self151 : Tree → LT → Option (LS)) (k4_e9 : LS → Option R) : ∀ (n : Nat) (s53 : Int) (s54 : Int) (s55 : Int) (s56 : LT) (s57 : LS) (s58 : LS),
    f151.l4 L N self151 (fun a0 => (k4_e9 a0).bind j) n s53 s54 s55 s56 s57 s58 = (f151.l4 L N self151 k4_e9 n s53 s54 s55 s56 s57 s58).bind j := by
  intro n
  induction n with
  | zero => intros; rfl
  | succ n ih =>
    intro s53 s54 s55 s56 s57 s58
    show f151.s4 L N self151 (fun a0 => (k4_e9 a0).bind j) (f151.l4 L N self151 (fun a0 => (k4_e9 a0).bind j) n) s53 s54 s55 s56 s57 s58 = _
    rw [show f151.l4 L N self151 (fun a0 => (k4_e9 a0).bind j) n = (fun s53 s54 s55 s56 s57 s58 => (f151.l4 L N self151 k4_e9 n s53 s54 s55 s56 s57 s58).bind j) from funext fun s53 => funext fun s54 => funext fun s55 => funext fun s56 => funext fun s57 => funext fun s58 => ih s53 s54 s55 s56 s57 s58]
    exact f151.s4_nat ..
theorem f151.p4_e9'_nat {R R' : Type} (j : R → Option R') (L N : Nat) (self151 : Tree → LT → Option (LS)) (k : LS → Option R) (z59 : LS) :
    f151.p4_e9' L N self151 (fun a0 => (k a0).bind j) z59 = (f151.p4_e9' L N self151 k z59).bind j := by
  unfold f151.p4_e9'
  repeat' (first | (with_reducible refine cond_nat ?_ ?_) | (with_reducible refine bind_nat fun _ => ?_) | rfl)
theorem f151.p4_e9_nat {R R' : Type} (j : R → Option R') (L N : Nat) (self151 : Tree → LT → Option (LS)) (k : LS → Option R) (z59 : LS) :
    f151.p4_e9 L N self151 (fun a0 => (k a0).bind j) z59 = (f151.p4_e9 L N self151 k z59).bind j := by
  unfold f151.p4_e9
  exact f151.p4_e9'_nat ..
theorem f151.b'_nat {R R' : Type} (j : R → Option R') (L N : Nat) (self151 : Tree → LT → Option (LS)) (k : LS → Option R) (w0 : Int → Int → Int → LT → LS → LS → LS → Option R) (w4 : Int → Int → Int → LT → LS → LS → Option R) (x0 : Tree) (x1 : LT) :
    f151.b' L N self151 (fun a0 => (k a0).bind j) (fun a0 a1 a2 a3 a4 a5 a6 => (w0 a0 a1 a2 a3 a4 a5 a6).bind j) (fun a0 a1 a2 a3 a4 a5 => (w4 a0 a1 a2 a3 a4 a5).bind j) x0 x1 = (f151.b' L N self151 k w0 w4 x0 x1).bind j := by
  unfold f151.b'
  repeat' (first | (with_reducible refine cond_nat ?_ ?_) | (with_reducible refine bind_nat fun _ => ?_) | rfl)
theorem f151.b_nat {R R' : Type} (j : R → Option R') (L N : Nat) (self151 : Tree → LT → Option (LS)) (k : LS → Option R) (x0 : Tree) (x1 : LT) :
    f151.b L N self151 (fun a0 => (k a0).bind j) x0 x1 = (f151.b L N self151 k x0 x1).bind j := by
  unfold f151.b
  simp only [f151.l0_nat, f151.l4_nat, f151.p0_e1_nat, f151.p4_e9_nat]
  exact f151.b'_nat ..
theorem f151.ok (L N m : Nat) (hΦ : TellsOk Try.prog (Φ151s L N m)) : EntOk Try.prog 151 (f151.ent L N (m + 1)) := by
  intro args vw site h
  unfold f151.ent
  split
  · rename_i d u ha
    intro y hy hs
    refine call_row (dep := 1000) (E := (E151 L N m)) (sound_of hΦ) okP (callI_sound (sound_of hΦ) okP 1 2000) (f := Try.f151) rfl hs ha ?_ site
    refine (f151.b_eq L N m some d.1 d.2.1).trans ?_
    refine ((f151.b_nat some L N (f151 L N m) some d.1 d.2.1)).trans ?_
    rw [show f151.b L N (f151 L N m) some d.1 d.2.1 = some y from hy]
    rfl
  · intro y hy
    cases hy
theorem Φ151s_ok (L N : Nat) : ∀ m, TellsOk Try.prog (Φ151s L N m) := by
  intro m
  induction m with
  | zero => exact (addT_ok (Φ150_ok L N) (fun args vw site h => by unfold f151.ent; split <;> (intro y hy; cases hy)))
  | succ m ih => exact (addT_ok (Φ150_ok L N) (f151.ok L N m ih))
def Φ151 (L N : Nat) : Tells := (addT (Φ150 L N) 151 (f151.ent L N N))
theorem Φ151_ok (L N : Nat) : TellsOk Try.prog (Φ151 L N) := Φ151s_ok L N N
def f133.s2' {R : Type} (L N : Nat) (k2_e4 : LT → Int → Int → ByteArray → Int → LT → LY → LS → LM → LLM → Option R) (rec2 : LT → Int → Int → ByteArray → Int → LT → LY → LS → LM → LLM → Option R) (s23 : LT) (s24 : Int) (s25 : Int) (s26 : ByteArray) (s27 : Int) (s28 : LT) (s29 : LY) (s30 : LS) (s31 : LM) (s32 : LLM) : Option R :=
  bif (decide (s27 < (s29.length : Int))) then
    bif (decide (0 ≤ s27) && decide (s27 < (s29.length : Int))) then
      bif (!((listAt s29 ByteArray.empty s27.toNat).toList == s26.toList)) then
        rec2 s23 s24 s25 s26 (wi (s27 + (1 : Int))) s28 s29 s30 s31 s32
      else k2_e4 s23 s24 s25 s26 s27 s28 s29 s30 s31 s32
    else none
  else k2_e4 s23 s24 s25 s26 s27 s28 s29 s30 s31 s32
def f133.s2 {R : Type} (L N : Nat) (k2_e4 : LT → Int → Int → ByteArray → Int → LT → LY → LS → LM → LLM → Option R) (rec2 : LT → Int → Int → ByteArray → Int → LT → LY → LS → LM → LLM → Option R) (s23 : LT) (s24 : Int) (s25 : Int) (s26 : ByteArray) (s27 : Int) (s28 : LT) (s29 : LY) (s30 : LS) (s31 : LM) (s32 : LLM) : Option R :=
  f133.s2' L N k2_e4 rec2 s23 s24 s25 s26 s27 s28 s29 s30 s31 s32
def f133.l2 {R : Type} (L N : Nat) (k2_e4 : LT → Int → Int → ByteArray → Int → LT → LY → LS → LM → LLM → Option R) : Nat → LT → Int → Int → ByteArray → Int → LT → LY → LS → LM → LLM → Option R
  | 0, _, _, _, _, _, _, _, _, _, _ => none
  | n + 1, s23, s24, s25, s26, s27, s28, s29, s30, s31, s32 => f133.s2 L N k2_e4 (f133.l2 L N k2_e4 n) s23 s24 s25 s26 s27 s28 s29 s30 s31 s32
def f133.T2 (s23 : LT) (s24 : Int) (s25 : Int) (s26 : ByteArray) (s27 : Int) (s28 : LT) (s29 : LY) (s30 : LS) (s31 : LM) (s32 : LLM) : T := mkT 106 [(1, (.tv (.sl (.st 1)) s23)), (4, (.ptr 1004 0)), (6, (.row 1016)), (7, (.row 1019)), (8, (.ptr 1008 0)), (9, (.tv i64 s24)), (10, (.row 1032)), (11, (.row 1033)), (12, (.tv i64 s25)), (13, (.tv .str s26)), (14, (.tv i64 s27))]
def f133.H2 (s23 : LT) (s24 : Int) (s25 : Int) (s26 : ByteArray) (s27 : Int) (s28 : LT) (s29 : LY) (s30 : LS) (s31 : LM) (s32 : LLM) : H := [(1004, (.box [.nil])), (1008, (.box [(.row 1900)])), (1016, (.row 110 (.st 1) s28)), (1019, (.row 9 .str s29)), (1032, (.row 146 (.st 3) s30)), (1033, (.row 53 (.st 0) s31)), (1900, (.row 51 (.sl (.st 0)) s32))]
def f133.T2_e4 (z44 : LT) (z45 : Int) (z46 : Int) (z47 : ByteArray) (z48 : Int) (z49 : LT) (z50 : LY) (z51 : LS) (z52 : LM) (z53 : LLM) : T := mkT 106 [(1, (.tv (.sl (.st 1)) z44)), (4, (.ptr 1004 0)), (6, (.row 1016)), (7, (.row 1019)), (8, (.ptr 1008 0)), (9, (.tv i64 z45)), (10, (.row 1032)), (11, (.row 1033)), (12, (.tv i64 z46)), (13, (.tv .str z47)), (14, (.tv i64 z48))]
def f133.H2_e4 (z44 : LT) (z45 : Int) (z46 : Int) (z47 : ByteArray) (z48 : Int) (z49 : LT) (z50 : LY) (z51 : LS) (z52 : LM) (z53 : LLM) : H := [(1004, (.box [.nil])), (1008, (.box [(.row 1900)])), (1016, (.row 110 (.st 1) z49)), (1019, (.row 9 .str z50)), (1032, (.row 146 (.st 3) z51)), (1033, (.row 53 (.st 0) z52)), (1900, (.row 51 (.sl (.st 0)) z53))]
def f133.j1' {R : Type} (L N : Nat) (k1_e2 : LT → Int → LT → LY → LM → LLM → Option R) (k1_r : LT → Bool → Int → LT → LY → LM → LLM → Option R) (rec1 : LT → Int → Int → LT → LY → LS → LM → LLM → Option R) (v93 : LT) (v94 : Int) (v95 : Int) (v96 : Int) (v97 : LT) (v98 : LY) (v99 : LS) (v100 : LM) (v101 : LLM) : Option R :=
  bif (decide (0 ≤ v95) && decide (v95 < (v99.length : Int))) then
    bif (decide (v100.length + ([(Move.mk ((listAt v99 (Ty.dflt (.st 3)) v95.toNat).act) v96)] : LM).length ≤ lim)) then
      rec1 v93 v94 (wi (v95 + (1 : Int))) v97 v98 v99 (v100 ++ ([(Move.mk ((listAt v99 (Ty.dflt (.st 3)) v95.toNat).act) v96)] : LM)) v101
    else none
  else none
def f133.j0' {R : Type} (L N : Nat) (k1_e2 : LT → Int → LT → LY → LM → LLM → Option R) (k1_r : LT → Bool → Int → LT → LY → LM → LLM → Option R) (rec1 : LT → Int → Int → LT → LY → LS → LM → LLM → Option R) (v83 : LT) (v84 : Int) (v85 : Int) (v86 : ByteArray) (v87 : Int) (v88 : LT) (v89 : LY) (v90 : LS) (v91 : LM) (v92 : LLM) : Option R :=
  bif (decide (0 ≤ v85) && decide (v85 < (v90.length : Int))) then
    bif (decide (v88.length + ([(Tree.mk ((listAt v90 (Ty.dflt (.st 3)) v85.toNat).thn.op) ((listAt v90 (Ty.dflt (.st 3)) v85.toNat).thn.n) ((listAt v90 (Ty.dflt (.st 3)) v85.toNat).thn.parts))] : LT).length ≤ lim)) then
      bif (decide (v89.length + ([v86] : LY).length ≤ lim)) then
        f133.j1' L N k1_e2 k1_r rec1 v83 v84 v85 v87 (v88 ++ ([(Tree.mk ((listAt v90 (Ty.dflt (.st 3)) v85.toNat).thn.op) ((listAt v90 (Ty.dflt (.st 3)) v85.toNat).thn.n) ((listAt v90 (Ty.dflt (.st 3)) v85.toNat).thn.parts))] : LT)) (v89 ++ ([v86] : LY)) v90 v91 v92
      else none
    else none
  else none
def f133.p2_e4' {R : Type} (L N : Nat) (k1_e2 : LT → Int → LT → LY → LM → LLM → Option R) (k1_r : LT → Bool → Int → LT → LY → LM → LLM → Option R) (rec1 : LT → Int → Int → LT → LY → LS → LM → LLM → Option R) (z44 : LT) (z45 : Int) (z46 : Int) (z47 : ByteArray) (z48 : Int) (z49 : LT) (z50 : LY) (z51 : LS) (z52 : LM) (z53 : LLM) : Option R :=
  bif (z48 == (z50.length : Int)) then
    bif (z48 == (60 : Int)) then
      k1_r z44 false z45 z49 z50 z52 z53
    else bif (decide (0 ≤ z46) && decide (z46 < (z51.length : Int))) then
      (f152 L N N (Tree.mk ((listAt z51 (Ty.dflt (.st 3)) z46.toNat).thn.op) ((listAt z51 (Ty.dflt (.st 3)) z46.toNat).thn.n) ((listAt z51 (Ty.dflt (.st 3)) z46.toNat).thn.parts))).bind fun y64 =>
      bif (decide (y64 > (24 : Int))) then
        k1_r z44 false z45 z49 z50 z52 z53
      else f133.j0' L N k1_e2 k1_r rec1 z44 z45 z46 z47 z48 z49 z50 z51 z52 z53
    else none
  else f133.j1' L N k1_e2 k1_r rec1 z44 z45 z46 z48 z49 z50 z51 z52 z53
def f133.p2_e4 {R : Type} (L N : Nat) (k1_e2 : LT → Int → LT → LY → LM → LLM → Option R) (k1_r : LT → Bool → Int → LT → LY → LM → LLM → Option R) (rec1 : LT → Int → Int → LT → LY → LS → LM → LLM → Option R) (z44 : LT) (z45 : Int) (z46 : Int) (z47 : ByteArray) (z48 : Int) (z49 : LT) (z50 : LY) (z51 : LS) (z52 : LM) (z53 : LLM) : Option R :=
  f133.p2_e4' L N k1_e2 k1_r rec1 z44 z45 z46 z47 z48 z49 z50 z51 z52 z53
def f133.s1' {R : Type} (L N : Nat) (k1_e2 : LT → Int → LT → LY → LM → LLM → Option R) (k1_r : LT → Bool → Int → LT → LY → LM → LLM → Option R) (rec1 : LT → Int → Int → LT → LY → LS → LM → LLM → Option R) (w2 : LT → Int → Int → ByteArray → Int → LT → LY → LS → LM → LLM → Option R) (s8 : LT) (s9 : Int) (s10 : Int) (s11 : LT) (s12 : LY) (s13 : LS) (s14 : LM) (s15 : LLM) : Option R :=
  bif (decide (s10 < (s13.length : Int))) then
    bif (decide (0 ≤ s10) && decide (s10 < (s13.length : Int))) then
      (f150 L N N (Tree.mk ((listAt s13 (Ty.dflt (.st 3)) s10.toNat).thn.op) ((listAt s13 (Ty.dflt (.st 3)) s10.toNat).thn.n) ((listAt s13 (Ty.dflt (.st 3)) s10.toNat).thn.parts))).bind fun y22 =>
      w2 s8 s9 s10 y22 (0 : Int) s11 s12 s13 s14 s15
    else none
  else k1_e2 s8 s9 s11 s12 s14 s15
end Go.Proofs.Ytdfjdbpklbehoaa.Ev
