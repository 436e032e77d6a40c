/- The seat's functions as plain functions: made by program (wip/gen/gen.py). -/
import Derived.Test.YthidlhjjnaldhaaDoorEvYa
import Derived.Test.YthidlhjjnaldhaaDoorShelf
import Derived.Test.YthidlhjjnaldhaaDoorEvMut
import Derived.Test.YthidlhjjnaldhaaDoorEvMutM
namespace Go.Proofs.YthidlhjjnaldhaaDoor.Ev
open Go
set_option linter.unusedVariables false
set_option maxRecDepth 20000
def tyTab : List (Nat × Ty) := [(2, i64), (3, i64), (4, .bool), (5, (.int .u8)), (6, (.int .u8)), (9, .str), (10, .str), (11, .str), (12, (.int .u64)), (21, (.int .i32)), (22, (.sl (.st 1))), (23, (.st 1)), (24, (.st 1)), (25, (.sl i64)), (27, (.sl (.st 1))), (28, (.st 1)), (29, (.st 1)), (60, (.sl .str)), (63, (.sl (.st 3))), (66, (.st 3)), (77, (.sl (.int .u8))), (82, (.int .u64)), (87, i64), (96, (.int .u32)), (98, (.int .u64)), (103, (.int .u64)), (125, (.int .u8)), (126, (.int .u8)), (129, (.int .i32)), (130, (.int .i32))]
def tyOf (t : Nat) : Option Ty := tyFind t tyTab
def lives (f i : Nat) : List Nat × List Nat :=
  bif Nat.beq f 20 && Nat.beq i 0 then ([0, 1, 5], []) else
  bif Nat.beq f 25 && Nat.beq i 0 then ([0, 3, 4], [7]) else
  bif Nat.beq f 28 && Nat.beq i 0 then ([2, 3, 12, 13, 14], [2, 3, 900]) else
  bif Nat.beq f 29 && Nat.beq i 0 then ([0, 1, 5], []) else
  bif Nat.beq f 32 && Nat.beq i 1 then ([1, 3, 4], [1]) else
  bif Nat.beq f 35 && Nat.beq i 0 then ([2, 4, 5, 6], [2, 13]) else
  bif Nat.beq f 35 && Nat.beq i 2 then ([2, 4, 5, 6, 9, 10], [2, 9, 13, 39]) else
  bif Nat.beq f 37 && Nat.beq i 0 then ([1, 4, 6, 9, 10, 35, 36, 37], [4, 32, 33, 35]) else
  bif Nat.beq f 37 && Nat.beq i 2 then ([1, 4, 6, 9, 18, 76, 77, 78], [4, 32, 33, 75]) else
  bif Nat.beq f 38 && Nat.beq i 1 then ([1, 3, 5, 6], [1]) else
  bif Nat.beq f 40 && Nat.beq i 1 then ([1, 2, 4, 5, 6], [2, 4, 5, 910]) else
  bif Nat.beq f 41 && Nat.beq i 0 then ([0, 1, 5, 6], [7]) else
  bif Nat.beq f 42 && Nat.beq i 0 then ([1, 5, 9, 10, 11], []) else
  bif Nat.beq f 52 && Nat.beq i 0 then ([1, 2, 5, 6], [2]) else
  bif Nat.beq f 53 && Nat.beq i 1 then ([2, 5, 6, 7, 8], [2, 14, 51, 57]) else
  bif Nat.beq f 53 && Nat.beq i 3 then ([2, 5, 6, 7, 9], [2, 14, 51, 57]) else
  bif Nat.beq f 53 && Nat.beq i 5 then ([5, 6, 7, 10], [14, 51, 57]) else
  bif Nat.beq f 53 && Nat.beq i 7 then ([5, 6, 7, 10, 11], [14, 51, 57]) else
  bif Nat.beq f 53 && Nat.beq i 9 then ([2, 5, 12, 13], [2, 14, 165]) else
  bif Nat.beq f 54 && Nat.beq i 0 then ([0, 2, 3, 4], [2, 3]) else
  bif Nat.beq f 57 && Nat.beq i 1 then ([2, 5, 6, 7, 61, 62, 63], [2, 53, 59, 60]) else
  bif Nat.beq f 57 && Nat.beq i 3 then ([2, 5, 6, 7, 81, 82, 83], [2, 53, 59, 60]) else
  bif Nat.beq f 57 && Nat.beq i 5 then ([6, 7, 101, 102, 103], [53, 59, 60]) else
  bif Nat.beq f 57 && Nat.beq i 7 then ([6, 7, 13, 101, 102, 103, 107, 108, 109], [13, 53, 59, 60]) else
  bif Nat.beq f 57 && Nat.beq i 9 then ([2, 16, 144, 145, 146], [2, 138, 144]) else
  bif Nat.beq f 60 && Nat.beq i 0 then ([0, 2, 3, 4], [2, 3]) else
  bif Nat.beq f 74 && Nat.beq i 0 then ([0, 1, 7, 8], []) else
  ([], [])
def livesX (f i : Nat) : List Nat × List Nat :=
  bif Nat.beq f 20 && Nat.beq i 0 then ([1, 4], []) else
  bif Nat.beq f 25 && Nat.beq i 0 then ([3], [7]) else
  bif Nat.beq f 28 && Nat.beq i 0 then ([2, 3], [2, 3, 900]) else
  bif Nat.beq f 29 && Nat.beq i 0 then ([4], []) else
  bif Nat.beq f 32 && Nat.beq i 1 then ([3], []) else
  bif Nat.beq f 35 && Nat.beq i 0 then ([2, 3, 5], [2]) else
  bif Nat.beq f 35 && Nat.beq i 2 then ([2, 4, 5, 6, 9, 10], [2, 9, 13, 39]) else
  bif Nat.beq f 37 && Nat.beq i 0 then ([1, 4, 5, 6, 9, 10], [4, 32, 33]) else
  bif Nat.beq f 37 && Nat.beq i 2 then ([1, 4, 6, 18], [4, 75]) else
  bif Nat.beq f 38 && Nat.beq i 1 then ([2, 5], []) else
  bif Nat.beq f 40 && Nat.beq i 1 then ([4, 5], [4, 5, 910]) else
  bif Nat.beq f 41 && Nat.beq i 0 then ([0, 1, 5], [7]) else
  bif Nat.beq f 42 && Nat.beq i 0 then ([4, 5], []) else
  bif Nat.beq f 52 && Nat.beq i 0 then ([5], []) else
  bif Nat.beq f 53 && Nat.beq i 1 then ([2, 5, 6, 7], [2, 14, 51, 57]) else
  bif Nat.beq f 53 && Nat.beq i 3 then ([5, 6, 7], [14, 51, 57]) else
  bif Nat.beq f 53 && Nat.beq i 5 then ([5], [14]) else
  bif Nat.beq f 53 && Nat.beq i 7 then ([5, 6, 7, 10], [14, 51, 57]) else
  bif Nat.beq f 53 && Nat.beq i 9 then ([5], [14]) else
  bif Nat.beq f 54 && Nat.beq i 0 then ([2, 3], [2, 3]) else
  bif Nat.beq f 57 && Nat.beq i 1 then ([2, 5, 6, 7], [2, 53, 59, 60]) else
  bif Nat.beq f 57 && Nat.beq i 3 then ([5, 6, 7], [53, 59, 60]) else
  bif Nat.beq f 57 && Nat.beq i 5 then ([7], [60]) else
  bif Nat.beq f 57 && Nat.beq i 7 then ([6, 7, 101, 102, 103], [53, 59, 60]) else
  bif Nat.beq f 57 && Nat.beq i 9 then ([16], [138]) else
  bif Nat.beq f 60 && Nat.beq i 0 then ([2, 3], [2, 3]) else
  bif Nat.beq f 74 && Nat.beq i 0 then ([4], []) else
  ([], [])
def promT (f i : Nat) : List (Nat × Nat × Nat × Option Nat × Nat × Ty) :=
  bif Nat.beq f 28 && Nat.beq i 0 then [(3, 2, 900, none, 29, (.st 1))] else
  bif Nat.beq f 40 && Nat.beq i 1 then [(5, 2, 910, none, 29, (.st 1))] else
  []
def healT (f i : Nat) : List Nat :=
  []
def renT (f i : Nat) : List (Nat × Nat) :=
  []
def inlT (f : Nat) : Bool := memN f [13]
theorem okP : OkP Tryd.prog := OkP.mk' (by kernel_rfl) (by kernel_rfl)
def Φx (L N : Nat) : Tells := addT (addT (noTells) 59 sortSEnt) 51 itoaEnt
theorem Φx_ok (L N : Nat) : TellsOk Tryd.prog (Φx L N) := addT_ok (addT_ok (no_ok _) (sortS_ok ⟨Tryd.f59, rfl, by kernel_rfl, by kernel_rfl⟩ sortSC sortSNone)) (itoa_ok ⟨Tryd.f51, rfl, by kernel_rfl, by kernel_rfl⟩ itoaC)
def f6.b' {R : Type} (L N : Nat) (self6 : Tree → Int → Option (Int)) (self20 : LT → Int → Option (Int)) (k : Int → Option R) (x0 : Tree) (x1 : Int) : Option R :=
  (self20 x0.parts x1).bind fun y0 =>
  bif (decide (y0 < (0 : Int))) then
    k (-1 : Int)
  else k y0
def f6.b {R : Type} (L N : Nat) (self6 : Tree → Int → Option (Int)) (self20 : LT → Int → Option (Int)) (k : Int → Option R) (x0 : Tree) (x1 : Int) : Option R :=
  f6.b' L N self6 self20 k x0 x1
def f20.s0' {R : Type} (L N : Nat) (self6 : Tree → Int → Option (Int)) (self20 : LT → Int → Option (Int)) (k0_e0 : Int → Option R) (k0_r : Int → Int → Option R) (rec0 : LT → Int → Int → Option R) (s0 : LT) (s1 : Int) (s2 : Int) : Option R :=
  bif (decide (s2 < (s0.length : Int))) then
    bif (decide (0 ≤ s2) && decide (s2 < (s0.length : Int))) then
      (self6 (listAt s0 (Ty.dflt (.st 1)) s2.toNat) s1).bind fun y4 =>
      bif (decide (y4 < (0 : Int))) then
        k0_r y4 (-1 : Int)
      else rec0 s0 y4 (wi (s2 + (1 : Int)))
    else none
  else k0_e0 s1
def f20.s0 {R : Type} (L N : Nat) (self6 : Tree → Int → Option (Int)) (self20 : LT → Int → Option (Int)) (k0_e0 : Int → Option R) (k0_r : Int → Int → Option R) (rec0 : LT → Int → Int → Option R) (s0 : LT) (s1 : Int) (s2 : Int) : Option R :=
  f20.s0' L N self6 self20 k0_e0 k0_r rec0 s0 s1 s2
def f20.l0 {R : Type} (L N : Nat) (self6 : Tree → Int → Option (Int)) (self20 : LT → Int → Option (Int)) (k0_e0 : Int → Option R) (k0_r : Int → Int → Option R) : Nat → LT → Int → Int → Option R
  | 0, _, _, _ => none
  | n + 1, s0, s1, s2 => f20.s0 L N self6 self20 k0_e0 k0_r (f20.l0 L N self6 self20 k0_e0 k0_r n) s0 s1 s2
def f20.T0 (s0 : LT) (s1 : Int) (s2 : Int) : T := mkT 27 [(0, (.tv (.sl (.st 1)) s0)), (1, (.tv i64 s1)), (5, (.tv i64 s2))]
def f20.H0 (s0 : LT) (s1 : Int) (s2 : Int) : H := []
def f20.T0_e0 (z3 : Int) : T := mkT 27 [(1, (.tv i64 z3))]
def f20.H0_e0 (z3 : Int) : H := []
def f20.T0_r (z5 : Int) (z6 : Int) : T := mkT 27 [(1, (.tv i64 z5)), (4, (.tv i64 z6))]
def f20.H0_r (z5 : Int) (z6 : Int) : H := []
def f20.p0_e0' {R : Type} (L N : Nat) (self6 : Tree → Int → Option (Int)) (self20 : LT → Int → Option (Int)) (k : Int → Option R) (z3 : Int) : Option R :=
  k z3
def f20.p0_e0 {R : Type} (L N : Nat) (self6 : Tree → Int → Option (Int)) (self20 : LT → Int → Option (Int)) (k : Int → Option R) (z3 : Int) : Option R :=
  f20.p0_e0' L N self6 self20 k z3
def f20.p0_r' {R : Type} (L N : Nat) (self6 : Tree → Int → Option (Int)) (self20 : LT → Int → Option (Int)) (k : Int → Option R) (z5 : Int) (z6 : Int) : Option R :=
  k z6
def f20.p0_r {R : Type} (L N : Nat) (self6 : Tree → Int → Option (Int)) (self20 : LT → Int → Option (Int)) (k : Int → Option R) (z5 : Int) (z6 : Int) : Option R :=
  f20.p0_r' L N self6 self20 k z5 z6
def f20.b' {R : Type} (L N : Nat) (self6 : Tree → Int → Option (Int)) (self20 : LT → Int → Option (Int)) (k : Int → Option R) (w0 : LT → Int → Int → Option R) (x0 : LT) (x1 : Int) : Option R :=
  bif (decide ((wi (x1 - (x0.length : Int))) < (0 : Int))) then
    k (-1 : Int)
  else w0 x0 (wi (x1 - (x0.length : Int))) (0 : Int)
def f20.b {R : Type} (L N : Nat) (self6 : Tree → Int → Option (Int)) (self20 : LT → Int → Option (Int)) (k : Int → Option R) (x0 : LT) (x1 : Int) : Option R :=
  f20.b' L N self6 self20 k (fun s0 s1 s2 => f20.l0 L N self6 self20 (fun z3 => f20.p0_e0 L N self6 self20 k z3) (fun z5 z6 => f20.p0_r L N self6 self20 k z5 z6) L s0 s1 s2) x0 x1
mutual
def f6 (L N : Nat) : Nat → Tree → Int → Option (Int)
  | 0, _, _ => none
  | n + 1, x0, x1 => f6.b L N (f6 L N n) (f20 L N n) some x0 x1
def f20 (L N : Nat) : Nat → LT → Int → Option (Int)
  | 0, _, _ => none
  | n + 1, x0, x1 => f20.b L N (f6 L N n) (f20 L N n) some x0 x1
end
def f6.ent (L N m : Nat) := entRo [(.st 1), i64] (.one i64) fun d => f6 L N m d.1 d.2.1
def f20.ent (L N m : Nat) := entRo [(.sl (.st 1)), i64] (.one i64) fun d => f20 L N m d.1 d.2.1
def Φ6s (L N m : Nat) : Tells := (addT (addT (Φx L N) 6 (f6.ent L N m)) 20 (f20.ent L N m))
noncomputable def E6 (L N m : Nat) : Env := { P := Tryd.prog, ty := tyOf, Φ := Φ6s L N m, inl := inlT, live := lives, liveX := livesX, L := L, dp := none, prom := promT, heal := healT, ren := renT }
theorem f6.b_eq {R : Type} (L N m : Nat) (κ : AV → Option R) (x0 : Tree) (x1 : Int) :
    evBody (E6 L N m) (evCallI (E6 L N m) 1 2000) 1000 6 Tryd.f6 [(.tv (.st 1) x0), (.tv i64 x1)] [] [] (finC (.one i64) κ)
    = f6.b L N (f6 L N m) (f20 L N m) (fun a0 => κ (.tv i64 a0)) x0 x1 := by kernel_rfl
noncomputable def f20.c0 : Code := loopAt 0 (codeOf Tryd.f20)
def f20.X0_e0 {R : Type} (κ : KX R) := fun z3 => κ (.exit 0) (f20.T0_e0 z3) (f20.H0_e0 z3)
def f20.X0_r {R : Type} (κ : KX R) := fun z5 z6 => κ .ret (f20.T0_r z5 z6) (f20.H0_r z5 z6)
def f20.R0 {R : Type} (rec : KT R) := fun s0 s1 s2 => rec (f20.T0 s0 s1 s2) (f20.H0 s0 s1 s2)
theorem f20.s0_eq {R : Type} (L N m : Nat) (κ : KX R) (rec : KT R) (s0 : LT) (s1 : Int) (s2 : Int) :
    evRd (E6 L N m) (evCallI (E6 L N m) 1 2000) 1000 20 27 0 f20.c0 κ rec (f20.T0 s0 s1 s2) (f20.H0 s0 s1 s2)
    = f20.s0 L N (f6 L N m) (f20 L N m) (f20.X0_e0 κ) (f20.X0_r κ) (f20.R0 rec) s0 s1 s2 := by kernel_rfl
theorem f20.l0_eq {R : Type} (L N m : Nat) (κ : KX R) : ∀ (n : Nat) (s0 : LT) (s1 : Int) (s2 : Int),
    evLp (E6 L N m) (evCallI (E6 L N m) 1 2000) 1000 20 27 0 f20.c0 κ n (f20.T0 s0 s1 s2) (f20.H0 s0 s1 s2)
    = f20.l0 L N (f6 L N m) (f20 L N m) (f20.X0_e0 κ) (f20.X0_r κ) n s0 s1 s2 := by
  intro n
  induction n with
  | zero => intros; rfl
  | succ n ih =>
    intro s0 s1 s2
    rw [evLp_succ, f20.s0_eq]
    delta f20.R0
    simp only [ih]
    rfl
theorem f20.p0_e0_eq {R : Type} (L N m : Nat) (κ : AV → Option R) (z3 : Int) :
    (contAt (E6 L N m) (evCallI (E6 L N m) 1 2000) 1000 20 27 0 (codeOf Tryd.f20) (finK (E6 L N m) 1000 Tryd.f20 (finC (.one i64) κ))) (.exit 0) (f20.T0_e0 z3) (f20.H0_e0 z3)
    = f20.p0_e0 L N (f6 L N m) (f20 L N m) (fun a0 => κ (.tv i64 a0)) z3 := by kernel_rfl
theorem f20.p0_r_eq {R : Type} (L N m : Nat) (κ : AV → Option R) (z5 : Int) (z6 : Int) :
    (contAt (E6 L N m) (evCallI (E6 L N m) 1 2000) 1000 20 27 0 (codeOf Tryd.f20) (finK (E6 L N m) 1000 Tryd.f20 (finC (.one i64) κ))) .ret (f20.T0_r z5 z6) (f20.H0_r z5 z6)
    = f20.p0_r L N (f6 L N m) (f20 L N m) (fun a0 => κ (.tv i64 a0)) z5 z6 := by kernel_rfl
theorem f20.b_eq {R : Type} (L N m : Nat) (κ : AV → Option R) (x0 : LT) (x1 : Int) :
    evBody (E6 L N m) (evCallI (E6 L N m) 1 2000) 1000 20 Tryd.f20 [(.tv (.sl (.st 1)) x0), (.tv i64 x1)] [] [] (finC (.one i64) κ)
    = f20.b L N (f6 L N m) (f20 L N m) (fun a0 => κ (.tv i64 a0)) x0 x1 := by
  refine Eq.trans (b := f20.b' L N (f6 L N m) (f20 L N m) (fun a0 => κ (.tv i64 a0)) (fun s0 s1 s2 => evLp (E6 L N m) (evCallI (E6 L N m) 1 2000) 1000 20 27 0 f20.c0 (contAt (E6 L N m) (evCallI (E6 L N m) 1 2000) 1000 20 27 0 (codeOf Tryd.f20) (finK (E6 L N m) 1000 Tryd.f20 (finC (.one i64) κ))) L (f20.T0 s0 s1 s2) (f20.H0 s0 s1 s2)) x0 x1) (by kernel_rfl) ?_
  unfold f20.b
  simp only [f20.l0_eq]
  delta f20.X0_e0 f20.X0_r
  simp only [f20.p0_e0_eq, f20.p0_r_eq]
theorem f6.ok (L N m : Nat) (hΦ : TellsOk Tryd.prog (Φ6s L N m)) : EntOk Tryd.prog 6 (f6.ent L N (m + 1)) := entRo_ok (E := (E6 L N m)) (dep := 1000) (f := Tryd.f6) (sound_of hΦ) okP (callI_sound (sound_of hΦ) okP 1 2000) rfl rfl fun d _ hy => (f6.b_eq L N m (unR (.one i64)) d.1 d.2.1).trans (Eq.trans (b := f6.b L N (f6 L N m) (f20 L N m) some d.1 d.2.1) (by kernel_rfl) hy)
theorem f20.ok (L N m : Nat) (hΦ : TellsOk Tryd.prog (Φ6s L N m)) : EntOk Tryd.prog 20 (f20.ent L N (m + 1)) := entRo_ok (E := (E6 L N m)) (dep := 1000) (f := Tryd.f20) (sound_of hΦ) okP (callI_sound (sound_of hΦ) okP 1 2000) rfl rfl fun d _ hy => (f20.b_eq L N m (unR (.one i64)) d.1 d.2.1).trans (Eq.trans (b := f20.b L N (f6 L N m) (f20 L N m) some d.1 d.2.1) (by kernel_rfl) hy)
theorem Φ6s_ok (L N : Nat) : ∀ m, TellsOk Tryd.prog (Φ6s L N m) := by
  intro m
  induction m with
  | zero => exact (addT_ok (addT_ok (Φx_ok L N) (entRo_no fun _ => rfl)) (entRo_no fun _ => rfl))
  | succ m ih => exact (addT_ok (addT_ok (Φx_ok L N) (f6.ok L N m ih)) (f20.ok L N m ih))
def Φ6 (L N : Nat) : Tells := (addT (addT (Φx L N) 6 (f6.ent L N N)) 20 (f20.ent L N N))
theorem Φ6_ok (L N : Nat) : TellsOk Tryd.prog (Φ6 L N) := Φ6s_ok L N N
def f8.b' {R : Type} (L N : Nat) (self8 : Tree → Option (Int × Int × LT)) (self25 : LT → Option (LT)) (k : Int → Int → LT → Option R) (x0 : Tree) : Option R :=
  (self25 x0.parts).bind fun y0 =>
  k x0.op x0.n y0
def f8.b {R : Type} (L N : Nat) (self8 : Tree → Option (Int × Int × LT)) (self25 : LT → Option (LT)) (k : Int → Int → LT → Option R) (x0 : Tree) : Option R :=
  f8.b' L N self8 self25 k x0
def f25.s0' {R : Type} (L N : Nat) (self8 : Tree → Option (Int × Int × LT)) (self25 : LT → Option (LT)) (k0_e0 : LT → Option R) (rec0 : LT → Int → LT → Option R) (s0 : LT) (s1 : Int) (s2 : LT) : Option R :=
  bif (decide (s1 < (s0.length : Int))) then
    bif (decide (0 ≤ s1) && decide (s1 < (s0.length : Int))) then
      (self8 (listAt s0 (Ty.dflt (.st 1)) s1.toNat)).bind fun y4 =>
      bif (decide (0 ≤ s1) && decide (s1 < (s2.length : Int))) then
        rec0 s0 (wi (s1 + (1 : Int))) (s2.set s1.toNat (Tree.mk y4.1 y4.2.1 y4.2.2))
      else none
    else none
  else k0_e0 s2
def f25.s0 {R : Type} (L N : Nat) (self8 : Tree → Option (Int × Int × LT)) (self25 : LT → Option (LT)) (k0_e0 : LT → Option R) (rec0 : LT → Int → LT → Option R) (s0 : LT) (s1 : Int) (s2 : LT) : Option R :=
  f25.s0' L N self8 self25 k0_e0 rec0 s0 s1 s2
def f25.l0 {R : Type} (L N : Nat) (self8 : Tree → Option (Int × Int × LT)) (self25 : LT → Option (LT)) (k0_e0 : LT → Option R) : Nat → LT → Int → LT → Option R
  | 0, _, _, _ => none
  | n + 1, s0, s1, s2 => f25.s0 L N self8 self25 k0_e0 (f25.l0 L N self8 self25 k0_e0 n) s0 s1 s2
def f25.T0 (s0 : LT) (s1 : Int) (s2 : LT) : T := mkT 23 [(0, (.tv (.sl (.st 1)) s0)), (3, (.row 1007)), (4, (.tv i64 s1))]
def f25.H0 (s0 : LT) (s1 : Int) (s2 : LT) : H := [(1007, (.deep 0 (.st 1) s2 none))]
def f25.T0_e0 (z3 : LT) : T := mkT 23 [(3, (.row 1007))]
def f25.H0_e0 (z3 : LT) : H := [(1007, (.deep 0 (.st 1) z3 none))]
def f25.p0_e0' {R : Type} (L N : Nat) (self8 : Tree → Option (Int × Int × LT)) (self25 : LT → Option (LT)) (k : LT → Option R) (z3 : LT) : Option R :=
  k z3
def f25.p0_e0 {R : Type} (L N : Nat) (self8 : Tree → Option (Int × Int × LT)) (self25 : LT → Option (LT)) (k : LT → Option R) (z3 : LT) : Option R :=
  f25.p0_e0' L N self8 self25 k z3
def f25.b' {R : Type} (L N : Nat) (self8 : Tree → Option (Int × Int × LT)) (self25 : LT → Option (LT)) (k : LT → Option R) (w0 : LT → Int → LT → Option R) (x0 : LT) : Option R :=
  bif (decide (0 ≤ (x0.length : Int)) && decide ((x0.length : Int) ≤ (lim : Int))) then
    w0 x0 (0 : Int) (List.replicate (x0.length : Int).toNat (Ty.dflt (.st 1)))
  else none
def f25.b {R : Type} (L N : Nat) (self8 : Tree → Option (Int × Int × LT)) (self25 : LT → Option (LT)) (k : LT → Option R) (x0 : LT) : Option R :=
  f25.b' L N self8 self25 k (fun s0 s1 s2 => f25.l0 L N self8 self25 (fun z3 => f25.p0_e0 L N self8 self25 k z3) L s0 s1 s2) x0
mutual
def f8 (L N : Nat) : Nat → Tree → Option (Int × Int × LT)
  | 0, _ => none
  | n + 1, x0 => f8.b L N (f8 L N n) (f25 L N n) (fun a0 a1 a2 => some (a0, a1, a2)) x0
def f25 (L N : Nat) : Nat → LT → Option (LT)
  | 0, _ => none
  | n + 1, x0 => f25.b L N (f8 L N n) (f25 L N n) some x0
end
def f8.ent (L N m : Nat) (args : List AV) (vw : View) (site : Nat) : Ans := match roD [(.st 1)] vw args with
  | some d => ⟨Int × Int × LT, f8 L N m d.1, fun y => (RN.av site (.agg [i64, i64]) (y.1, y.2.1, ()), [(site, some (mkO (some 0) 29 (.st 1) y.2.2))], [])⟩
  | none => Ans.no
def f25.ent (L N m : Nat) (args : List AV) (vw : View) (site : Nat) : Ans := match roD [(.sl (.st 1))] vw args with
  | some d => ⟨LT, f25 L N m d.1, fun y => (RN.av site .row (), [(site, some (mkO (some 0) 29 (.st 1) y))], [])⟩
  | none => Ans.no
def Φ8s (L N m : Nat) : Tells := (addT (addT (Φ6 L N) 8 (f8.ent L N m)) 25 (f25.ent L N m))
noncomputable def E8 (L N m : Nat) : Env := { P := Tryd.prog, ty := tyOf, Φ := Φ8s L N m, inl := inlT, live := lives, liveX := livesX, L := L, dp := (some 0), prom := promT, heal := healT, ren := renT }
theorem f8.b_eq {R : Type} (L N m : Nat) (κ : RN.Den (.agg [i64, i64]) → List Tree → Option R) (x0 : Tree) :
    evBody (E8 L N m) (evCallI (E8 L N m) 1 2000) 1000 8 Tryd.f8 [(.tv (.st 1) x0)] [] [] (finN (.agg [i64, i64]) (some 0) 29 (.st 1) κ)
    = f8.b L N (f8 L N m) (f25 L N m) (fun a0 a1 a2 => κ (a0, a1, ()) a2) x0 := by kernel_rfl
noncomputable def f25.c0 : Code := loopAt 0 (codeOf Tryd.f25)
def f25.X0_e0 {R : Type} (κ : KX R) := fun z3 => κ (.exit 0) (f25.T0_e0 z3) (f25.H0_e0 z3)
def f25.R0 {R : Type} (rec : KT R) := fun s0 s1 s2 => rec (f25.T0 s0 s1 s2) (f25.H0 s0 s1 s2)
theorem f25.s0_eq {R : Type} (L N m : Nat) (κ : KX R) (rec : KT R) (s0 : LT) (s1 : Int) (s2 : LT) :
    evRd (E8 L N m) (evCallI (E8 L N m) 1 2000) 1000 25 23 0 f25.c0 κ rec (f25.T0 s0 s1 s2) (f25.H0 s0 s1 s2)
    = f25.s0 L N (f8 L N m) (f25 L N m) (f25.X0_e0 κ) (f25.R0 rec) s0 s1 s2 := by kernel_rfl
theorem f25.l0_eq {R : Type} (L N m : Nat) (κ : KX R) : ∀ (n : Nat) (s0 : LT) (s1 : Int) (s2 : LT),
    evLp (E8 L N m) (evCallI (E8 L N m) 1 2000) 1000 25 23 0 f25.c0 κ n (f25.T0 s0 s1 s2) (f25.H0 s0 s1 s2)
    = f25.l0 L N (f8 L N m) (f25 L N m) (f25.X0_e0 κ) n s0 s1 s2 := by
  intro n
  induction n with
  | zero => intros; rfl
  | succ n ih =>
    intro s0 s1 s2
    rw [evLp_succ, f25.s0_eq]
    delta f25.R0
    simp only [ih]
    rfl
theorem f25.p0_e0_eq {R : Type} (L N m : Nat) (κ : RN.Den .row → List Tree → Option R) (z3 : LT) :
    (contAt (E8 L N m) (evCallI (E8 L N m) 1 2000) 1000 25 23 0 (codeOf Tryd.f25) (finK (E8 L N m) 1000 Tryd.f25 (finN .row (some 0) 29 (.st 1) κ))) (.exit 0) (f25.T0_e0 z3) (f25.H0_e0 z3)
    = f25.p0_e0 L N (f8 L N m) (f25 L N m) (fun a0 => κ () a0) z3 := by kernel_rfl
theorem f25.b_eq {R : Type} (L N m : Nat) (κ : RN.Den .row → List Tree → Option R) (x0 : LT) :
    evBody (E8 L N m) (evCallI (E8 L N m) 1 2000) 1000 25 Tryd.f25 [(.tv (.sl (.st 1)) x0)] [] [] (finN .row (some 0) 29 (.st 1) κ)
    = f25.b L N (f8 L N m) (f25 L N m) (fun a0 => κ () a0) x0 := by
  refine Eq.trans (b := f25.b' L N (f8 L N m) (f25 L N m) (fun a0 => κ () a0) (fun s0 s1 s2 => evLp (E8 L N m) (evCallI (E8 L N m) 1 2000) 1000 25 23 0 f25.c0 (contAt (E8 L N m) (evCallI (E8 L N m) 1 2000) 1000 25 23 0 (codeOf Tryd.f25) (finK (E8 L N m) 1000 Tryd.f25 (finN .row (some 0) 29 (.st 1) κ))) L (f25.T0 s0 s1 s2) (f25.H0 s0 s1 s2)) x0) (by kernel_rfl) ?_
  unfold f25.b
  simp only [f25.l0_eq]
  delta f25.X0_e0
  simp only [f25.p0_e0_eq]
theorem f8.ok (L N m : Nat) (hΦ : TellsOk Tryd.prog (Φ8s L N m)) : EntOk Tryd.prog 8 (f8.ent L N (m + 1)) := by
  intro args vw site h
  unfold f8.ent
  split
  · rename_i d ha
    intro y hy hs
    refine call_ron (y := y) (dep := 1000) (E := (E8 L N m)) (ts := [(.st 1)]) (rn := (.agg [i64, i64])) (q := (some 0)) (el := 29) (ty := (.st 1)) (d1 := (y.1, y.2.1, ())) (xs := y.2.2) (κ := (fun d xs => some (d.1, d.2.1, xs))) (sound_of hΦ) okP (callI_sound (sound_of hΦ) okP 1 2000) (f := Tryd.f8) rfl hs ha ?_ (fun _ _ h => by obtain rfl := Option.some.inj h; exact ⟨rfl, rfl⟩) rfl site
    exact (f8.b_eq L N m (fun d xs => some (d.1, d.2.1, xs)) d.1).trans (Eq.trans (b := f8.b L N (f8 L N m) (f25 L N m) (fun a0 a1 a2 => some (a0, a1, a2)) d.1) (by kernel_rfl) hy)
  · intro y hy
    cases hy
theorem f25.ok (L N m : Nat) (hΦ : TellsOk Tryd.prog (Φ8s L N m)) : EntOk Tryd.prog 25 (f25.ent L N (m + 1)) := by
  intro args vw site h
  unfold f25.ent
  split
  · rename_i d ha
    intro y hy hs
    refine call_ron (y := y) (dep := 1000) (E := (E8 L N m)) (ts := [(.sl (.st 1))]) (rn := .row) (q := (some 0)) (el := 29) (ty := (.st 1)) (d1 := ()) (xs := y) (κ := (fun d xs => some xs)) (sound_of hΦ) okP (callI_sound (sound_of hΦ) okP 1 2000) (f := Tryd.f25) rfl hs ha ?_ (fun _ _ h => by obtain rfl := Option.some.inj h; exact ⟨rfl, rfl⟩) rfl site
    exact (f25.b_eq L N m (fun d xs => some xs) d.1).trans (Eq.trans (b := f25.b L N (f8 L N m) (f25 L N m) some d.1) (by kernel_rfl) hy)
  · intro y hy
    cases hy
theorem Φ8s_ok (L N : Nat) : ∀ m, TellsOk Tryd.prog (Φ8s L N m) := by
  intro m
  induction m with
  | zero => exact (addT_ok (addT_ok (Φ6_ok L N) (fun args vw site h => by unfold f8.ent; split <;> (intro y hy; cases hy))) (fun args vw site h => by unfold f25.ent; split <;> (intro y hy; cases hy)))
  | succ m ih => exact (addT_ok (addT_ok (Φ6_ok L N) (f8.ok L N m ih)) (f25.ok L N m ih))
def Φ8 (L N : Nat) : Tells := (addT (addT (Φ6 L N) 8 (f8.ent L N N)) 25 (f25.ent L N N))
theorem Φ8_ok (L N : Nat) : TellsOk Tryd.prog (Φ8 L N) := Φ8s_ok L N N
def f11.b' {R : Type} (L N : Nat) (self11 : Tree → Tree → Option (Bool)) (self29 : LT → LT → Option (Bool)) (k : Bool → Option R) (x0 : Tree) (x1 : Tree) : Option R :=
  bif (x0.op != x1.op) then
    k false
  else bif (x0.n != x1.n) then
    k false
  else (self29 x0.parts x1.parts).bind fun y0 =>
  bif (!y0) then
    k false
  else k true
def f11.b {R : Type} (L N : Nat) (self11 : Tree → Tree → Option (Bool)) (self29 : LT → LT → Option (Bool)) (k : Bool → Option R) (x0 : Tree) (x1 : Tree) : Option R :=
  f11.b' L N self11 self29 k x0 x1
def f29.s0' {R : Type} (L N : Nat) (self11 : Tree → Tree → Option (Bool)) (self29 : LT → LT → Option (Bool)) (k0_e0 : Option R) (k0_r : Bool → Option R) (rec0 : LT → LT → Int → Option R) (s0 : LT) (s1 : LT) (s2 : Int) : Option R :=
  bif (decide (s2 < (s0.length : Int))) then
    bif (decide (0 ≤ s2) && decide (s2 < (s0.length : Int))) then
      bif (decide (0 ≤ s2) && decide (s2 < (s1.length : Int))) then
        (self11 (listAt s0 (Ty.dflt (.st 1)) s2.toNat) (listAt s1 (Ty.dflt (.st 1)) s2.toNat)).bind fun y3 =>
        bif (!y3) then
          k0_r false
        else rec0 s0 s1 (wi (s2 + (1 : Int)))
      else none
    else none
  else k0_e0
def f29.s0 {R : Type} (L N : Nat) (self11 : Tree → Tree → Option (Bool)) (self29 : LT → LT → Option (Bool)) (k0_e0 : Option R) (k0_r : Bool → Option R) (rec0 : LT → LT → Int → Option R) (s0 : LT) (s1 : LT) (s2 : Int) : Option R :=
  f29.s0' L N self11 self29 k0_e0 k0_r rec0 s0 s1 s2
def f29.l0 {R : Type} (L N : Nat) (self11 : Tree → Tree → Option (Bool)) (self29 : LT → LT → Option (Bool)) (k0_e0 : Option R) (k0_r : Bool → Option R) : Nat → LT → LT → Int → Option R
  | 0, _, _, _ => none
  | n + 1, s0, s1, s2 => f29.s0 L N self11 self29 k0_e0 k0_r (f29.l0 L N self11 self29 k0_e0 k0_r n) s0 s1 s2
def f29.T0 (s0 : LT) (s1 : LT) (s2 : Int) : T := mkT 27 [(0, (.tv (.sl (.st 1)) s0)), (1, (.tv (.sl (.st 1)) s1)), (5, (.tv i64 s2))]
def f29.H0 (s0 : LT) (s1 : LT) (s2 : Int) : H := []
def f29.T0_e0 : T := mkT 27 []
def f29.H0_e0 : H := []
def f29.T0_r (z4 : Bool) : T := mkT 27 [(4, (.tv .bool z4))]
def f29.H0_r (z4 : Bool) : H := []
def f29.p0_e0' {R : Type} (L N : Nat) (self11 : Tree → Tree → Option (Bool)) (self29 : LT → LT → Option (Bool)) (k : Bool → Option R) : Option R :=
  k true
def f29.p0_e0 {R : Type} (L N : Nat) (self11 : Tree → Tree → Option (Bool)) (self29 : LT → LT → Option (Bool)) (k : Bool → Option R) : Option R :=
  f29.p0_e0' L N self11 self29 k
def f29.p0_r' {R : Type} (L N : Nat) (self11 : Tree → Tree → Option (Bool)) (self29 : LT → LT → Option (Bool)) (k : Bool → Option R) (z4 : Bool) : Option R :=
  k z4
def f29.p0_r {R : Type} (L N : Nat) (self11 : Tree → Tree → Option (Bool)) (self29 : LT → LT → Option (Bool)) (k : Bool → Option R) (z4 : Bool) : Option R :=
  f29.p0_r' L N self11 self29 k z4
def f29.b' {R : Type} (L N : Nat) (self11 : Tree → Tree → Option (Bool)) (self29 : LT → LT → Option (Bool)) (k : Bool → Option R) (w0 : LT → LT → Int → Option R) (x0 : LT) (x1 : LT) : Option R :=
  bif ((x0.length : Int) != (x1.length : Int)) then
    k false
  else w0 x0 x1 (0 : Int)
def f29.b {R : Type} (L N : Nat) (self11 : Tree → Tree → Option (Bool)) (self29 : LT → LT → Option (Bool)) (k : Bool → Option R) (x0 : LT) (x1 : LT) : Option R :=
  f29.b' L N self11 self29 k (fun s0 s1 s2 => f29.l0 L N self11 self29 (f29.p0_e0 L N self11 self29 k) (fun z4 => f29.p0_r L N self11 self29 k z4) L s0 s1 s2) x0 x1
mutual
def f11 (L N : Nat) : Nat → Tree → Tree → Option (Bool)
  | 0, _, _ => none
  | n + 1, x0, x1 => f11.b L N (f11 L N n) (f29 L N n) some x0 x1
def f29 (L N : Nat) : Nat → LT → LT → Option (Bool)
  | 0, _, _ => none
  | n + 1, x0, x1 => f29.b L N (f11 L N n) (f29 L N n) some x0 x1
end
def f11.ent (L N m : Nat) := entRo [(.st 1), (.st 1)] (.one .bool) fun d => f11 L N m d.1 d.2.1
def f29.ent (L N m : Nat) := entRo [(.sl (.st 1)), (.sl (.st 1))] (.one .bool) fun d => f29 L N m d.1 d.2.1
def Φ11s (L N m : Nat) : Tells := (addT (addT (Φ8 L N) 11 (f11.ent L N m)) 29 (f29.ent L N m))
noncomputable def E11 (L N m : Nat) : Env := { P := Tryd.prog, ty := tyOf, Φ := Φ11s L N m, inl := inlT, live := lives, liveX := livesX, L := L, dp := none, prom := promT, heal := healT, ren := renT }
theorem f11.b_eq {R : Type} (L N m : Nat) (κ : AV → Option R) (x0 : Tree) (x1 : Tree) :
    evBody (E11 L N m) (evCallI (E11 L N m) 1 2000) 1000 11 Tryd.f11 [(.tv (.st 1) x0), (.tv (.st 1) x1)] [] [] (finC (.one .bool) κ)
    = f11.b L N (f11 L N m) (f29 L N m) (fun a0 => κ (.tv .bool a0)) x0 x1 := by kernel_rfl
noncomputable def f29.c0 : Code := loopAt 0 (codeOf Tryd.f29)
def f29.X0_e0 {R : Type} (κ : KX R) := κ (.exit 0) f29.T0_e0 f29.H0_e0
def f29.X0_r {R : Type} (κ : KX R) := fun z4 => κ .ret (f29.T0_r z4) (f29.H0_r z4)
def f29.R0 {R : Type} (rec : KT R) := fun s0 s1 s2 => rec (f29.T0 s0 s1 s2) (f29.H0 s0 s1 s2)
theorem f29.s0_eq {R : Type} (L N m : Nat) (κ : KX R) (rec : KT R) (s0 : LT) (s1 : LT) (s2 : Int) :
    evRd (E11 L N m) (evCallI (E11 L N m) 1 2000) 1000 29 27 0 f29.c0 κ rec (f29.T0 s0 s1 s2) (f29.H0 s0 s1 s2)
    = f29.s0 L N (f11 L N m) (f29 L N m) (f29.X0_e0 κ) (f29.X0_r κ) (f29.R0 rec) s0 s1 s2 := by kernel_rfl
theorem f29.l0_eq {R : Type} (L N m : Nat) (κ : KX R) : ∀ (n : Nat) (s0 : LT) (s1 : LT) (s2 : Int),
    evLp (E11 L N m) (evCallI (E11 L N m) 1 2000) 1000 29 27 0 f29.c0 κ n (f29.T0 s0 s1 s2) (f29.H0 s0 s1 s2)
    = f29.l0 L N (f11 L N m) (f29 L N m) (f29.X0_e0 κ) (f29.X0_r κ) n s0 s1 s2 := by
  intro n
  induction n with
  | zero => intros; rfl
  | succ n ih =>
    intro s0 s1 s2
    rw [evLp_succ, f29.s0_eq]
    delta f29.R0
    simp only [ih]
    rfl
theorem f29.p0_e0_eq {R : Type} (L N m : Nat) (κ : AV → Option R) :
    (contAt (E11 L N m) (evCallI (E11 L N m) 1 2000) 1000 29 27 0 (codeOf Tryd.f29) (finK (E11 L N m) 1000 Tryd.f29 (finC (.one .bool) κ))) (.exit 0) f29.T0_e0 f29.H0_e0
    = f29.p0_e0 L N (f11 L N m) (f29 L N m) (fun a0 => κ (.tv .bool a0)) := by kernel_rfl
theorem f29.p0_r_eq {R : Type} (L N m : Nat) (κ : AV → Option R) (z4 : Bool) :
    (contAt (E11 L N m) (evCallI (E11 L N m) 1 2000) 1000 29 27 0 (codeOf Tryd.f29) (finK (E11 L N m) 1000 Tryd.f29 (finC (.one .bool) κ))) .ret (f29.T0_r z4) (f29.H0_r z4)
    = f29.p0_r L N (f11 L N m) (f29 L N m) (fun a0 => κ (.tv .bool a0)) z4 := by kernel_rfl
theorem f29.b_eq {R : Type} (L N m : Nat) (κ : AV → Option R) (x0 : LT) (x1 : LT) :
    evBody (E11 L N m) (evCallI (E11 L N m) 1 2000) 1000 29 Tryd.f29 [(.tv (.sl (.st 1)) x0), (.tv (.sl (.st 1)) x1)] [] [] (finC (.one .bool) κ)
    = f29.b L N (f11 L N m) (f29 L N m) (fun a0 => κ (.tv .bool a0)) x0 x1 := by
  refine Eq.trans (b := f29.b' L N (f11 L N m) (f29 L N m) (fun a0 => κ (.tv .bool a0)) (fun s0 s1 s2 => evLp (E11 L N m) (evCallI (E11 L N m) 1 2000) 1000 29 27 0 f29.c0 (contAt (E11 L N m) (evCallI (E11 L N m) 1 2000) 1000 29 27 0 (codeOf Tryd.f29) (finK (E11 L N m) 1000 Tryd.f29 (finC (.one .bool) κ))) L (f29.T0 s0 s1 s2) (f29.H0 s0 s1 s2)) x0 x1) (by kernel_rfl) ?_
  unfold f29.b
  simp only [f29.l0_eq]
  delta f29.X0_e0 f29.X0_r
  simp only [f29.p0_e0_eq, f29.p0_r_eq]
theorem f11.ok (L N m : Nat) (hΦ : TellsOk Tryd.prog (Φ11s L N m)) : EntOk Tryd.prog 11 (f11.ent L N (m + 1)) := entRo_ok (E := (E11 L N m)) (dep := 1000) (f := Tryd.f11) (sound_of hΦ) okP (callI_sound (sound_of hΦ) okP 1 2000) rfl rfl fun d _ hy => (f11.b_eq L N m (unR (.one .bool)) d.1 d.2.1).trans (Eq.trans (b := f11.b L N (f11 L N m) (f29 L N m) some d.1 d.2.1) (by kernel_rfl) hy)
theorem f29.ok (L N m : Nat) (hΦ : TellsOk Tryd.prog (Φ11s L N m)) : EntOk Tryd.prog 29 (f29.ent L N (m + 1)) := entRo_ok (E := (E11 L N m)) (dep := 1000) (f := Tryd.f29) (sound_of hΦ) okP (callI_sound (sound_of hΦ) okP 1 2000) rfl rfl fun d _ hy => (f29.b_eq L N m (unR (.one .bool)) d.1 d.2.1).trans (Eq.trans (b := f29.b L N (f11 L N m) (f29 L N m) some d.1 d.2.1) (by kernel_rfl) hy)
theorem Φ11s_ok (L N : Nat) : ∀ m, TellsOk Tryd.prog (Φ11s L N m) := by
  intro m
  induction m with
  | zero => exact (addT_ok (addT_ok (Φ8_ok L N) (entRo_no fun _ => rfl)) (entRo_no fun _ => rfl))
  | succ m ih => exact (addT_ok (addT_ok (Φ8_ok L N) (f11.ok L N m ih)) (f29.ok L N m ih))
def Φ11 (L N : Nat) : Tells := (addT (addT (Φ8 L N) 11 (f11.ent L N N)) 29 (f29.ent L N N))
theorem Φ11_ok (L N : Nat) : TellsOk Tryd.prog (Φ11 L N) := Φ11s_ok L N N
def f22.b' {R : Type} (L N : Nat) (k : Bool → Option R) (x0 : Int) (x1 : Int) (x2 : Int) : Option R :=
  bif (decide (x0 ≥ x1)) then
    k (decide (x0 ≤ x2))
  else k false
def f22.b {R : Type} (L N : Nat) (k : Bool → Option R) (x0 : Int) (x1 : Int) (x2 : Int) : Option R :=
  f22.b' L N k x0 x1 x2
def f22 (L N : Nat) (x0 : Int) (x1 : Int) (x2 : Int) : Option (Bool) := f22.b L N some x0 x1 x2
def f22.ent (L N : Nat) := entRo [i64, i64, i64] (.one .bool) fun d => f22 L N d.1 d.2.1 d.2.2.1
noncomputable def E22 (L N : Nat) : Env := { P := Tryd.prog, ty := tyOf, Φ := (Φ11 L N), inl := inlT, live := lives, liveX := livesX, L := L, dp := none, prom := promT, heal := healT, ren := renT }
theorem f22.b_eq {R : Type} (L N : Nat) (κ : AV → Option R) (x0 : Int) (x1 : Int) (x2 : Int) :
    evBody (E22 L N) (evCallI (E22 L N) 1 2000) 1000 22 Tryd.f22 [(.tv i64 x0), (.tv i64 x1), (.tv i64 x2)] [] [] (finC (.one .bool) κ)
    = f22.b L N (fun a0 => κ (.tv .bool a0)) x0 x1 x2 := by kernel_rfl
theorem f22.ok (L N : Nat) (hΦ : TellsOk Tryd.prog ((Φ11 L N))) : EntOk Tryd.prog 22 (f22.ent L N) := entRo_ok (E := (E22 L N)) (dep := 1000) (f := Tryd.f22) (sound_of hΦ) okP (callI_sound (sound_of hΦ) okP 1 2000) rfl rfl fun d _ hy => (f22.b_eq L N (unR (.one .bool)) d.1 d.2.1 d.2.2.1).trans (Eq.trans (b := f22.b L N some d.1 d.2.1 d.2.2.1) (by kernel_rfl) hy)
def Φ22 (L N : Nat) : Tells := (addT (Φ11 L N) 22 (f22.ent L N))
theorem Φ22_ok (L N : Nat) : TellsOk Tryd.prog (Φ22 L N) := addT_ok (Φ11_ok L N) (f22.ok L N (Φ11_ok L N))
def f61.b' {R : Type} (L N : Nat) (k : Bool → Option R) (x0 : Int) : Option R :=
  (f22 L N x0 (-4 : Int) (4 : Int)).bind fun y0 =>
  k y0
def f61.b {R : Type} (L N : Nat) (k : Bool → Option R) (x0 : Int) : Option R :=
  f61.b' L N k x0
def f61 (L N : Nat) (x0 : Int) : Option (Bool) := f61.b L N some x0
def f61.ent (L N : Nat) := entRo [i64] (.one .bool) fun d => f61 L N d.1
noncomputable def E61 (L N : Nat) : Env := { P := Tryd.prog, ty := tyOf, Φ := (Φ22 L N), inl := inlT, live := lives, liveX := livesX, L := L, dp := none, prom := promT, heal := healT, ren := renT }
theorem f61.b_eq {R : Type} (L N : Nat) (κ : AV → Option R) (x0 : Int) :
    evBody (E61 L N) (evCallI (E61 L N) 1 2000) 1000 61 Tryd.f61 [(.tv i64 x0)] [] [] (finC (.one .bool) κ)
    = f61.b L N (fun a0 => κ (.tv .bool a0)) x0 := by kernel_rfl
theorem f61.ok (L N : Nat) (hΦ : TellsOk Tryd.prog ((Φ22 L N))) : EntOk Tryd.prog 61 (f61.ent L N) := entRo_ok (E := (E61 L N)) (dep := 1000) (f := Tryd.f61) (sound_of hΦ) okP (callI_sound (sound_of hΦ) okP 1 2000) rfl rfl fun d _ hy => (f61.b_eq L N (unR (.one .bool)) d.1).trans (Eq.trans (b := f61.b L N some d.1) (by kernel_rfl) hy)
def Φ61 (L N : Nat) : Tells := (addT (Φ22 L N) 61 (f61.ent L N))
theorem Φ61_ok (L N : Nat) : TellsOk Tryd.prog (Φ61 L N) := addT_ok (Φ22_ok L N) (f61.ok L N (Φ22_ok L N))
def f38.s0' {R : Type} (L N : Nat) (self38 : Tree → Option (Int)) (k0_e1 : Int → Option R) (k0_r : Int → Int → Option R) (rec0 : Int → Int → Int → Int → Int → LT → Option R) (s24 : Int) (s25 : Int) (s26 : Int) (s27 : Int) (s28 : Int) (s29 : LT) : Option R :=
  bif (decide (s26 < s24)) then
    bif (decide (0 ≤ s26) && decide (s26 < (s29.length : Int))) then
      (self38 (listAt s29 (Ty.dflt (.st 1)) s26.toNat)).bind fun y31 =>
      bif (y31 == (0 : Int)) then
        k0_r (0 : Int) s25
      else rec0 s24 (bif decide ((wi (s25 + y31)) < (1000 : Int)) then (wi (s25 + y31)) else (1000 : Int)) (wi (s26 + (1 : Int))) s27 s28 s29
    else none
  else k0_e1 s25
def f38.s0 {R : Type} (L N : Nat) (self38 : Tree → Option (Int)) (k0_e1 : Int → Option R) (k0_r : Int → Int → Option R) (rec0 : Int → Int → Int → Int → Int → LT → Option R) (s24 : Int) (s25 : Int) (s26 : Int) (s27 : Int) (s28 : Int) (s29 : LT) : Option R :=
  f38.s0' L N self38 k0_e1 k0_r rec0 s24 s25 s26 s27 s28 s29
def f38.l0 {R : Type} (L N : Nat) (self38 : Tree → Option (Int)) (k0_e1 : Int → Option R) (k0_r : Int → Int → Option R) : Nat → Int → Int → Int → Int → Int → LT → Option R
  | 0, _, _, _, _, _, _ => none
  | n + 1, s24, s25, s26, s27, s28, s29 => f38.s0 L N self38 k0_e1 k0_r (f38.l0 L N self38 k0_e1 k0_r n) s24 s25 s26 s27 s28 s29
def f38.T0 (s24 : Int) (s25 : Int) (s26 : Int) (s27 : Int) (s28 : Int) (s29 : LT) : T := mkT 60 [(1, (.ptr 1001 0)), (3, (.tv i64 s24)), (5, (.tv i64 s25)), (6, (.tv i64 s26))]
def f38.H0 (s24 : Int) (s25 : Int) (s26 : Int) (s27 : Int) (s28 : Int) (s29 : LT) : H := [(1001, (.box [(.tv i64 s27), (.tv i64 s28), (.tv (.sl (.st 1)) s29)]))]
def f38.T0_e1 (z30 : Int) : T := mkT 60 [(5, (.tv i64 z30))]
def f38.H0_e1 (z30 : Int) : H := []
def f38.T0_r (z32 : Int) (z33 : Int) : T := mkT 60 [(2, (.tv i64 z32)), (5, (.tv i64 z33))]
def f38.H0_r (z32 : Int) (z33 : Int) : H := []
def f38.p0_e1' {R : Type} (L N : Nat) (self38 : Tree → Option (Int)) (k : Int → Option R) (z30 : Int) : Option R :=
  k z30
def f38.p0_e1 {R : Type} (L N : Nat) (self38 : Tree → Option (Int)) (k : Int → Option R) (z30 : Int) : Option R :=
  f38.p0_e1' L N self38 k z30
def f38.p0_r' {R : Type} (L N : Nat) (self38 : Tree → Option (Int)) (k : Int → Option R) (z32 : Int) (z33 : Int) : Option R :=
  k z32
def f38.p0_r {R : Type} (L N : Nat) (self38 : Tree → Option (Int)) (k : Int → Option R) (z32 : Int) (z33 : Int) : Option R :=
  f38.p0_r' L N self38 k z32 z33
def f38.j1' {R : Type} (L N : Nat) (self38 : Tree → Option (Int)) (k : Int → Option R) (w0 : Int → Int → Int → Int → Int → LT → Option R) (v20 : Int) (v21 : Int) (v22 : Int) (v23 : LT) : Option R :=
  w0 v20 (1 : Int) (0 : Int) v21 v22 v23
def f38.j2' {R : Type} (L N : Nat) (self38 : Tree → Option (Int)) (k : Int → Option R) (w0 : Int → Int → Int → Int → Int → LT → Option R) (v10 : Int) (v11 : Bool) (v12 : Int) (v13 : Int) (v14 : LT) : Option R :=
  bif (!v11) then
    k (0 : Int)
  else bif ((v14.length : Int) != v10) then
    k (0 : Int)
  else f38.j1' L N self38 k w0 v10 v12 v13 v14
def f38.j0' {R : Type} (L N : Nat) (self38 : Tree → Option (Int)) (k : Int → Option R) (w0 : Int → Int → Int → Int → Int → LT → Option R) (v1 : Int) (v2 : Bool) (v3 : Int) (v4 : Bool) (v5 : Int) (v6 : Int) (v7 : LT) : Option R :=
  bif v4 then
    f38.j2' L N self38 k w0 (2 : Int) v2 v5 v6 v7
  else bif (v3 == (4 : Int)) then
    (f22 L N v6 (0 : Int) (3 : Int)).bind fun y8 =>
    f38.j2' L N self38 k w0 (1 : Int) y8 v5 v6 v7
  else bif (v3 == (5 : Int)) then
    (f22 L N v6 (0 : Int) (2 : Int)).bind fun y9 =>
    f38.j2' L N self38 k w0 v1 y9 v5 v6 v7
  else f38.j2' L N self38 k w0 v1 false v5 v6 v7
def f38.b' {R : Type} (L N : Nat) (self38 : Tree → Option (Int)) (k : Int → Option R) (w0 : Int → Int → Int → Int → Int → LT → Option R) (x0 : Tree) : Option R :=
  bif (x0.op == (0 : Int)) then
    f38.j2' L N self38 k w0 (0 : Int) (x0.n == (0 : Int)) x0.op x0.n x0.parts
  else bif (x0.op == (1 : Int)) then
    (f61 L N x0.n).bind fun y0 =>
    f38.j2' L N self38 k w0 (1 : Int) y0 x0.op x0.n x0.parts
  else bif (x0.op == (2 : Int)) then
    f38.j0' L N self38 k w0 (0 : Int) (x0.n == (0 : Int)) x0.op (x0.op == (2 : Int)) x0.op x0.n x0.parts
  else f38.j0' L N self38 k w0 (0 : Int) (x0.n == (0 : Int)) x0.op (x0.op == (3 : Int)) x0.op x0.n x0.parts
def f38.b {R : Type} (L N : Nat) (self38 : Tree → Option (Int)) (k : Int → Option R) (x0 : Tree) : Option R :=
  f38.b' L N self38 k (fun s24 s25 s26 s27 s28 s29 => f38.l0 L N self38 (fun z30 => f38.p0_e1 L N self38 k z30) (fun z32 z33 => f38.p0_r L N self38 k z32 z33) L s24 s25 s26 s27 s28 s29) x0
def f38 (L N : Nat) : Nat → Tree → Option (Int)
  | 0, _ => none
  | n + 1, x0 => f38.b L N (f38 L N n) some x0
def f38.ent (L N m : Nat) := entRo [(.st 1)] (.one i64) fun d => f38 L N m d.1
def Φ38s (L N m : Nat) : Tells := (addT (Φ61 L N) 38 (f38.ent L N m))
noncomputable def E38 (L N m : Nat) : Env := { P := Tryd.prog, ty := tyOf, Φ := Φ38s L N m, inl := inlT, live := lives, liveX := livesX, L := L, dp := none, prom := promT, heal := healT, ren := renT }
noncomputable def f38.c0 : Code := loopAt 1 (codeOf Tryd.f38)
def f38.X0_e1 {R : Type} (κ : KX R) := fun z30 => κ (.exit 1) (f38.T0_e1 z30) (f38.H0_e1 z30)
def f38.X0_r {R : Type} (κ : KX R) := fun z32 z33 => κ .ret (f38.T0_r z32 z33) (f38.H0_r z32 z33)
def f38.R0 {R : Type} (rec : KT R) := fun s24 s25 s26 s27 s28 s29 => rec (f38.T0 s24 s25 s26 s27 s28 s29) (f38.H0 s24 s25 s26 s27 s28 s29)
theorem f38.s0_eq {R : Type} (L N m : Nat) (κ : KX R) (rec : KT R) (s24 : Int) (s25 : Int) (s26 : Int) (s27 : Int) (s28 : Int) (s29 : LT) :
    evRd (E38 L N m) (evCallI (E38 L N m) 1 2000) 1000 38 60 1 f38.c0 κ rec (f38.T0 s24 s25 s26 s27 s28 s29) (f38.H0 s24 s25 s26 s27 s28 s29)
    = f38.s0 L N (f38 L N m) (f38.X0_e1 κ) (f38.X0_r κ) (f38.R0 rec) s24 s25 s26 s27 s28 s29 := by kernel_rfl
theorem f38.l0_eq {R : Type} (L N m : Nat) (κ : KX R) : ∀ (n : Nat) (s24 : Int) (s25 : Int) (s26 : Int) (s27 : Int) (s28 : Int) (s29 : LT),
    evLp (E38 L N m) (evCallI (E38 L N m) 1 2000) 1000 38 60 1 f38.c0 κ n (f38.T0 s24 s25 s26 s27 s28 s29) (f38.H0 s24 s25 s26 s27 s28 s29)
    = f38.l0 L N (f38 L N m) (f38.X0_e1 κ) (f38.X0_r κ) n s24 s25 s26 s27 s28 s29 := by
  intro n
  induction n with
  | zero => intros; rfl
  | succ n ih =>
    intro s24 s25 s26 s27 s28 s29
    rw [evLp_succ, f38.s0_eq]
    delta f38.R0
    simp only [ih]
    rfl
theorem f38.p0_e1_eq {R : Type} (L N m : Nat) (κ : AV → Option R) (z30 : Int) :
    (contAt (E38 L N m) (evCallI (E38 L N m) 1 2000) 1000 38 60 1 (codeOf Tryd.f38) (finK (E38 L N m) 1000 Tryd.f38 (finC (.one i64) κ))) (.exit 1) (f38.T0_e1 z30) (f38.H0_e1 z30)
    = f38.p0_e1 L N (f38 L N m) (fun a0 => κ (.tv i64 a0)) z30 := by kernel_rfl
theorem f38.p0_r_eq {R : Type} (L N m : Nat) (κ : AV → Option R) (z32 : Int) (z33 : Int) :
    (contAt (E38 L N m) (evCallI (E38 L N m) 1 2000) 1000 38 60 1 (codeOf Tryd.f38) (finK (E38 L N m) 1000 Tryd.f38 (finC (.one i64) κ))) .ret (f38.T0_r z32 z33) (f38.H0_r z32 z33)
    = f38.p0_r L N (f38 L N m) (fun a0 => κ (.tv i64 a0)) z32 z33 := by kernel_rfl
theorem f38.b_eq {R : Type} (L N m : Nat) (κ : AV → Option R) (x0 : Tree) :
    evBody (E38 L N m) (evCallI (E38 L N m) 1 2000) 1000 38 Tryd.f38 [(.tv (.st 1) x0)] [] [] (finC (.one i64) κ)
    = f38.b L N (f38 L N m) (fun a0 => κ (.tv i64 a0)) x0 := by
  refine Eq.trans (b := f38.b' L N (f38 L N m) (fun a0 => κ (.tv i64 a0)) (fun s24 s25 s26 s27 s28 s29 => evLp (E38 L N m) (evCallI (E38 L N m) 1 2000) 1000 38 60 1 f38.c0 (contAt (E38 L N m) (evCallI (E38 L N m) 1 2000) 1000 38 60 1 (codeOf Tryd.f38) (finK (E38 L N m) 1000 Tryd.f38 (finC (.one i64) κ))) L (f38.T0 s24 s25 s26 s27 s28 s29) (f38.H0 s24 s25 s26 s27 s28 s29)) x0) (by kernel_rfl) ?_
  unfold f38.b
  simp only [f38.l0_eq]
  delta f38.X0_e1 f38.X0_r
  simp only [f38.p0_e1_eq, f38.p0_r_eq]
theorem f38.ok (L N m : Nat) (hΦ : TellsOk Tryd.prog (Φ38s L N m)) : EntOk Tryd.prog 38 (f38.ent L N (m + 1)) := entRo_ok (E := (E38 L N m)) (dep := 1000) (f := Tryd.f38) (sound_of hΦ) okP (callI_sound (sound_of hΦ) okP 1 2000) rfl rfl fun d _ hy => (f38.b_eq L N m (unR (.one i64)) d.1).trans (Eq.trans (b := f38.b L N (f38 L N m) some d.1) (by kernel_rfl) hy)
theorem Φ38s_ok (L N : Nat) : ∀ m, TellsOk Tryd.prog (Φ38s L N m) := by
  intro m
  induction m with
  | zero => exact (addT_ok (Φ61_ok L N) (entRo_no fun _ => rfl))
  | succ m ih => exact (addT_ok (Φ61_ok L N) (f38.ok L N m ih))
def Φ38 (L N : Nat) : Tells := (addT (Φ61 L N) 38 (f38.ent L N N))
theorem Φ38_ok (L N : Nat) : TellsOk Tryd.prog (Φ38 L N) := Φ38s_ok L N N
def f21.b' {R : Type} (L N : Nat) (k : Bool → Option R) (x0 : Tree) : Option R :=
  (f38 L N N (Tree.mk x0.op x0.n x0.parts)).bind fun y0 =>
  (f22 L N y0 (1 : Int) (24 : Int)).bind fun y1 =>
  k y1
def f21.b {R : Type} (L N : Nat) (k : Bool → Option R) (x0 : Tree) : Option R :=
  f21.b' L N k x0
def f21 (L N : Nat) (x0 : Tree) : Option (Bool) := f21.b L N some x0
def f21.ent (L N : Nat) := entRo [(.st 1)] (.one .bool) fun d => f21 L N d.1
noncomputable def E21 (L N : Nat) : Env := { P := Tryd.prog, ty := tyOf, Φ := (Φ38 L N), inl := inlT, live := lives, liveX := livesX, L := L, dp := none, prom := promT, heal := healT, ren := renT }
theorem f21.b_eq {R : Type} (L N : Nat) (κ : AV → Option R) (x0 : Tree) :
    evBody (E21 L N) (evCallI (E21 L N) 1 2000) 1000 21 Tryd.f21 [(.tv (.st 1) x0)] [] [] (finC (.one .bool) κ)
    = f21.b L N (fun a0 => κ (.tv .bool a0)) x0 := by kernel_rfl
theorem f21.ok (L N : Nat) (hΦ : TellsOk Tryd.prog ((Φ38 L N))) : EntOk Tryd.prog 21 (f21.ent L N) := entRo_ok (E := (E21 L N)) (dep := 1000) (f := Tryd.f21) (sound_of hΦ) okP (callI_sound (sound_of hΦ) okP 1 2000) rfl rfl fun d _ hy => (f21.b_eq L N (unR (.one .bool)) d.1).trans (Eq.trans (b := f21.b L N some d.1) (by kernel_rfl) hy)
def Φ21 (L N : Nat) : Tells := (addT (Φ38 L N) 21 (f21.ent L N))
theorem Φ21_ok (L N : Nat) : TellsOk Tryd.prog (Φ21 L N) := addT_ok (Φ38_ok L N) (f21.ok L N (Φ38_ok L N))
def f40.s0' {R : Type} (L N : Nat) (self40 : Tree → LI → Option (Tree)) (k0_e1 : Int → Int → Int → Int → LT → Option R) (rec0 : LI → Int → Int → Int → LT → Int → Int → Int → Int → LT → Option R) (s26 : LI) (s27 : Int) (s28 : Int) (s29 : Int) (s30 : LT) (s31 : Int) (s32 : Int) (s33 : Int) (s34 : Int) (s35 : LT) : Option R :=
  bif (decide (s27 < (s30.length : Int))) then
    bif (decide (0 ≤ s27) && decide (s27 < (s30.length : Int))) then
      (self40 (listAt s30 (Ty.dflt (.st 1)) s27.toNat) s26).bind fun y41 =>
      bif (decide (s35.length + ([y41] : LT).length ≤ lim)) then
        rec0 s26 (wi (s27 + (1 : Int))) s28 s29 s30 s31 s32 s33 s34 (s35 ++ ([y41] : LT))
      else none
    else none
  else k0_e1 s31 s32 s33 s34 s35
def f40.s0 {R : Type} (L N : Nat) (self40 : Tree → LI → Option (Tree)) (k0_e1 : Int → Int → Int → Int → LT → Option R) (rec0 : LI → Int → Int → Int → LT → Int → Int → Int → Int → LT → Option R) (s26 : LI) (s27 : Int) (s28 : Int) (s29 : Int) (s30 : LT) (s31 : Int) (s32 : Int) (s33 : Int) (s34 : Int) (s35 : LT) : Option R :=
  f40.s0' L N self40 k0_e1 rec0 s26 s27 s28 s29 s30 s31 s32 s33 s34 s35
def f40.l0 {R : Type} (L N : Nat) (self40 : Tree → LI → Option (Tree)) (k0_e1 : Int → Int → Int → Int → LT → Option R) : Nat → LI → Int → Int → Int → LT → Int → Int → Int → Int → LT → Option R
  | 0, _, _, _, _, _, _, _, _, _, _ => none
  | n + 1, s26, s27, s28, s29, s30, s31, s32, s33, s34, s35 => f40.s0 L N self40 k0_e1 (f40.l0 L N self40 k0_e1 n) s26 s27 s28 s29 s30 s31 s32 s33 s34 s35
def f40.T0 (s26 : LI) (s27 : Int) (s28 : Int) (s29 : Int) (s30 : LT) (s31 : Int) (s32 : Int) (s33 : Int) (s34 : Int) (s35 : LT) : T := mkT 78 [(1, (.tv (.sl i64) s26)), (2, (.ptr 1002 0)), (4, (.ptr 1004 0)), (5, (.ptr 1005 0)), (6, (.tv i64 s27))]
def f40.H0 (s26 : LI) (s27 : Int) (s28 : Int) (s29 : Int) (s30 : LT) (s31 : Int) (s32 : Int) (s33 : Int) (s34 : Int) (s35 : LT) : H := [(1002, (.box [(.tv i64 s28), (.tv i64 s29), (.tv (.sl (.st 1)) s30)])), (1004, (.box [(.tv i64 s31), (.tv i64 s32), .nil])), (1005, (.box [(.tv i64 s33), (.tv i64 s34), (.row 1910)])), (1910, (.row 29 (.st 1) s35))]
def f40.T0_e1 (z36 : Int) (z37 : Int) (z38 : Int) (z39 : Int) (z40 : LT) : T := mkT 78 [(4, (.ptr 1004 0)), (5, (.ptr 1005 0))]
def f40.H0_e1 (z36 : Int) (z37 : Int) (z38 : Int) (z39 : Int) (z40 : LT) : H := [(1004, (.box [(.tv i64 z36), (.tv i64 z37), .nil])), (1005, (.box [(.tv i64 z38), (.tv i64 z39), (.row 1910)])), (1910, (.row 29 (.st 1) z40))]
def f40.p0_e1' {R : Type} (L N : Nat) (self40 : Tree → LI → Option (Tree)) (k : Tree → Option R) (z36 : Int) (z37 : Int) (z38 : Int) (z39 : Int) (z40 : LT) : Option R :=
  k (Tree.mk z38 z39 z40)
def f40.p0_e1 {R : Type} (L N : Nat) (self40 : Tree → LI → Option (Tree)) (k : Tree → Option R) (z36 : Int) (z37 : Int) (z38 : Int) (z39 : Int) (z40 : LT) : Option R :=
  f40.p0_e1' L N self40 k z36 z37 z38 z39 z40
def f40.j2' {R : Type} (L N : Nat) (self40 : Tree → LI → Option (Tree)) (k : Tree → Option R) (w0 : LI → Int → Int → Int → LT → Int → Int → Int → Int → LT → Option R) (v18 : LI) (v19 : Int) (v20 : Int) (v21 : LT) (v22 : Int) (v23 : Int) (v24 : Int) (v25 : Int) : Option R :=
  w0 v18 (0 : Int) v19 v20 v21 v22 v23 v24 v25 ([] : LT)
def f40.j0' {R : Type} (L N : Nat) (self40 : Tree → LI → Option (Tree)) (k : Tree → Option R) (w0 : LI → Int → Int → Int → LT → Int → Int → Int → Int → LT → Option R) (v9 : LI) (v10 : Bool) (v11 : Int) (v12 : Int) (v13 : LT) (v14 : Int) (v15 : Int) (v16 : Int) (v17 : Int) : Option R :=
  bif v10 then
    bif (decide (0 ≤ (wi ((wi (0 - v12)) - (1 : Int)))) && decide ((wi ((wi (0 - v12)) - (1 : Int))) < (v9.length : Int))) then
      f40.j2' L N self40 k w0 v9 v11 v12 v13 v14 v15 v16 (wi (0 - (wi ((listAt v9 (0 : Int) (wi ((wi (0 - v12)) - (1 : Int))).toNat) + (1 : Int)))))
    else none
  else f40.j2' L N self40 k w0 v9 v11 v12 v13 v14 v15 v16 v17
def f40.j1' {R : Type} (L N : Nat) (self40 : Tree → LI → Option (Tree)) (k : Tree → Option R) (w0 : LI → Int → Int → Int → LT → Int → Int → Int → Int → LT → Option R) (v0 : LI) (v1 : Bool) (v2 : Int) (v3 : Int) (v4 : LT) (v5 : Int) (v6 : Int) (v7 : Int) (v8 : Int) : Option R :=
  bif v1 then
    bif (decide (0 ≤ (wi (v3 - (1 : Int)))) && decide ((wi (v3 - (1 : Int))) < (v0.length : Int))) then
      f40.j2' L N self40 k w0 v0 v2 v3 v4 v5 v6 v7 (wi ((listAt v0 (0 : Int) (wi (v3 - (1 : Int))).toNat) + (1 : Int)))
    else none
  else bif (v2 == (1 : Int)) then
    f40.j0' L N self40 k w0 v0 (decide (v3 < (0 : Int))) v2 v3 v4 v5 v6 v7 v8
  else f40.j0' L N self40 k w0 v0 false v2 v3 v4 v5 v6 v7 v8
def f40.b' {R : Type} (L N : Nat) (self40 : Tree → LI → Option (Tree)) (k : Tree → Option R) (w0 : LI → Int → Int → Int → LT → Int → Int → Int → Int → LT → Option R) (x0 : Tree) (x1 : LI) : Option R :=
  bif (x0.op == (4 : Int)) then
    bif (decide (0 ≤ x0.n) && decide (x0.n < (x1.length : Int))) then
      f40.j2' L N self40 k w0 x1 x0.op x0.n x0.parts (0 : Int) (0 : Int) x0.op (listAt x1 (0 : Int) x0.n.toNat)
    else none
  else bif (x0.op == (1 : Int)) then
    f40.j1' L N self40 k w0 x1 (decide (x0.n > (0 : Int))) x0.op x0.n x0.parts (0 : Int) (0 : Int) x0.op x0.n
  else f40.j1' L N self40 k w0 x1 false x0.op x0.n x0.parts (0 : Int) (0 : Int) x0.op x0.n
def f40.b {R : Type} (L N : Nat) (self40 : Tree → LI → Option (Tree)) (k : Tree → Option R) (x0 : Tree) (x1 : LI) : Option R :=
  f40.b' L N self40 k (fun s26 s27 s28 s29 s30 s31 s32 s33 s34 s35 => f40.l0 L N self40 (fun z36 z37 z38 z39 z40 => f40.p0_e1 L N self40 k z36 z37 z38 z39 z40) L s26 s27 s28 s29 s30 s31 s32 s33 s34 s35) x0 x1
def f40 (L N : Nat) : Nat → Tree → LI → Option (Tree)
  | 0, _, _ => none
  | n + 1, x0, x1 => f40.b L N (f40 L N n) some x0 x1
def f40.ent (L N m : Nat) := entDa [(.st 1), (.sl i64)] (.one (.st 1)) fun d => f40 L N m d.1 d.2.1
def Φ40s (L N m : Nat) : Tells := (addT (Φ21 L N) 40 (f40.ent L N m))
noncomputable def E40 (L N m : Nat) : Env := { P := Tryd.prog, ty := tyOf, Φ := Φ40s L N m, inl := inlT, live := lives, liveX := livesX, L := L, dp := none, prom := promT, heal := healT, ren := renT }
noncomputable def f40.c0 : Code := loopAt 1 (codeOf Tryd.f40)
def f40.X0_e1 {R : Type} (κ : KX R) := fun z36 z37 z38 z39 z40 => κ (.exit 1) (f40.T0_e1 z36 z37 z38 z39 z40) (f40.H0_e1 z36 z37 z38 z39 z40)
def f40.R0 {R : Type} (rec : KT R) := fun s26 s27 s28 s29 s30 s31 s32 s33 s34 s35 => rec (f40.T0 s26 s27 s28 s29 s30 s31 s32 s33 s34 s35) (f40.H0 s26 s27 s28 s29 s30 s31 s32 s33 s34 s35)
theorem f40.s0_eq {R : Type} (L N m : Nat) (κ : KX R) (rec : KT R) (s26 : LI) (s27 : Int) (s28 : Int) (s29 : Int) (s30 : LT) (s31 : Int) (s32 : Int) (s33 : Int) (s34 : Int) (s35 : LT) :
    evRd (E40 L N m) (evCallI (E40 L N m) 1 2000) 1000 40 78 1 f40.c0 κ rec (f40.T0 s26 s27 s28 s29 s30 s31 s32 s33 s34 s35) (f40.H0 s26 s27 s28 s29 s30 s31 s32 s33 s34 s35)
    = f40.s0 L N (f40 L N m) (f40.X0_e1 κ) (f40.R0 rec) s26 s27 s28 s29 s30 s31 s32 s33 s34 s35 := by kernel_rfl
theorem f40.l0_eq {R : Type} (L N m : Nat) (κ : KX R) : ∀ (n : Nat) (s26 : LI) (s27 : Int) (s28 : Int) (s29 : Int) (s30 : LT) (s31 : Int) (s32 : Int) (s33 : Int) (s34 : Int) (s35 : LT),
    evLp (E40 L N m) (evCallI (E40 L N m) 1 2000) 1000 40 78 1 f40.c0 κ n (f40.T0 s26 s27 s28 s29 s30 s31 s32 s33 s34 s35) (f40.H0 s26 s27 s28 s29 s30 s31 s32 s33 s34 s35)
    = f40.l0 L N (f40 L N m) (f40.X0_e1 κ) n s26 s27 s28 s29 s30 s31 s32 s33 s34 s35 := by
  intro n
  induction n with
  | zero => intros; rfl
  | succ n ih =>
    intro s26 s27 s28 s29 s30 s31 s32 s33 s34 s35
    rw [evLp_succ, f40.s0_eq]
    delta f40.R0
    simp only [ih]
    rfl
theorem f40.p0_e1_eq {R : Type} (L N m : Nat) (κ : AV → Option R) (z36 : Int) (z37 : Int) (z38 : Int) (z39 : Int) (z40 : LT) :
    (contAt (E40 L N m) (evCallI (E40 L N m) 1 2000) 1000 40 78 1 (codeOf Tryd.f40) (finK (E40 L N m) 1000 Tryd.f40 (finC (.one (.st 1)) κ))) (.exit 1) (f40.T0_e1 z36 z37 z38 z39 z40) (f40.H0_e1 z36 z37 z38 z39 z40)
    = f40.p0_e1 L N (f40 L N m) (fun a0 => κ (.tv (.st 1) a0)) z36 z37 z38 z39 z40 := by kernel_rfl
theorem f40.b_eq {R : Type} (L N m : Nat) (κ : AV → Option R) (x0 : Tree) (x1 : LI) :
    evBody (E40 L N m) (evCallI (E40 L N m) 1 2000) 1000 40 Tryd.f40 [(.tv (.st 1) x0), (.tv (.sl i64) x1)] [] [] (finC (.one (.st 1)) κ)
    = f40.b L N (f40 L N m) (fun a0 => κ (.tv (.st 1) a0)) x0 x1 := by
  refine Eq.trans (b := f40.b' L N (f40 L N m) (fun a0 => κ (.tv (.st 1) a0)) (fun s26 s27 s28 s29 s30 s31 s32 s33 s34 s35 => evLp (E40 L N m) (evCallI (E40 L N m) 1 2000) 1000 40 78 1 f40.c0 (contAt (E40 L N m) (evCallI (E40 L N m) 1 2000) 1000 40 78 1 (codeOf Tryd.f40) (finK (E40 L N m) 1000 Tryd.f40 (finC (.one (.st 1)) κ))) L (f40.T0 s26 s27 s28 s29 s30 s31 s32 s33 s34 s35) (f40.H0 s26 s27 s28 s29 s30 s31 s32 s33 s34 s35)) x0 x1) (by kernel_rfl) ?_
  unfold f40.b
  simp only [f40.l0_eq]
  delta f40.X0_e1
  simp only [f40.p0_e1_eq]
theorem f40.ok (L N m : Nat) (hΦ : TellsOk Tryd.prog (Φ40s L N m)) : EntOk Tryd.prog 40 (f40.ent L N (m + 1)) := entDa_ok (E := (E40 L N m)) (dep := 1000) (f := Tryd.f40) (sound_of hΦ) okP (callI_sound (sound_of hΦ) okP 1 2000) rfl fun d _ hy => (f40.b_eq L N m (unR (.one (.st 1))) d.1 d.2.1).trans (Eq.trans (b := f40.b L N (f40 L N m) some d.1 d.2.1) (by kernel_rfl) hy)
theorem Φ40s_ok (L N : Nat) : ∀ m, TellsOk Tryd.prog (Φ40s L N m) := by
  intro m
  induction m with
  | zero => exact (addT_ok (Φ21_ok L N) (entDa_no fun _ => rfl))
  | succ m ih => exact (addT_ok (Φ21_ok L N) (f40.ok L N m ih))
def Φ40 (L N : Nat) : Tells := (addT (Φ21 L N) 40 (f40.ent L N N))
theorem Φ40_ok (L N : Nat) : TellsOk Tryd.prog (Φ40 L N) := Φ40s_ok L N N
def f41.s0' {R : Type} (L N : Nat) (k0_e0 : Int → Int → LI → Option R) (rec0 : Int → Int → Int → LI → Option R) (s0 : Int) (s1 : Int) (s2 : Int) (s3 : LI) : Option R :=
  bif (decide (s2 < (4 : Int))) then
    bif (decide (s3.length + ([s2] : LI).length ≤ lim)) then
      rec0 s0 s1 (wi (s2 + (1 : Int))) (s3 ++ ([s2] : LI))
    else none
  else k0_e0 s0 s1 s3
def f41.s0 {R : Type} (L N : Nat) (k0_e0 : Int → Int → LI → Option R) (rec0 : Int → Int → Int → LI → Option R) (s0 : Int) (s1 : Int) (s2 : Int) (s3 : LI) : Option R :=
  f41.s0' L N k0_e0 rec0 s0 s1 s2 s3
def f41.l0 {R : Type} (L N : Nat) (k0_e0 : Int → Int → LI → Option R) : Nat → Int → Int → Int → LI → Option R
  | 0, _, _, _, _ => none
  | n + 1, s0, s1, s2, s3 => f41.s0 L N k0_e0 (f41.l0 L N k0_e0 n) s0 s1 s2 s3
def f41.T0 (s0 : Int) (s1 : Int) (s2 : Int) (s3 : LI) : T := mkT 25 [(0, (.tv i64 s0)), (1, (.tv i64 s1)), (5, (.row 1007)), (6, (.tv i64 s2))]
def f41.H0 (s0 : Int) (s1 : Int) (s2 : Int) (s3 : LI) : H := [(1007, (.row 3 i64 s3))]
def f41.T0_e0 (z4 : Int) (z5 : Int) (z6 : LI) : T := mkT 25 [(0, (.tv i64 z4)), (1, (.tv i64 z5)), (5, (.row 1007))]
def f41.H0_e0 (z4 : Int) (z5 : Int) (z6 : LI) : H := [(1007, (.row 3 i64 z6))]
def f41.p0_e0' {R : Type} (L N : Nat) (k : LI → Option R) (z4 : Int) (z5 : Int) (z6 : LI) : Option R :=
  bif (decide (0 ≤ z4) && decide (z4 < (z6.length : Int))) then
    bif (decide (0 ≤ z5) && decide (z5 < ((z6.set z4.toNat z5).length : Int))) then
      k ((z6.set z4.toNat z5).set z5.toNat z4)
    else none
  else none
def f41.p0_e0 {R : Type} (L N : Nat) (k : LI → Option R) (z4 : Int) (z5 : Int) (z6 : LI) : Option R :=
  f41.p0_e0' L N k z4 z5 z6
def f41.b' {R : Type} (L N : Nat) (k : LI → Option R) (w0 : Int → Int → Int → LI → Option R) (x0 : Int) (x1 : Int) : Option R :=
  w0 x0 x1 (0 : Int) ([] : LI)
def f41.b {R : Type} (L N : Nat) (k : LI → Option R) (x0 : Int) (x1 : Int) : Option R :=
  f41.b' L N k (fun s0 s1 s2 s3 => f41.l0 L N (fun z4 z5 z6 => f41.p0_e0 L N k z4 z5 z6) L s0 s1 s2 s3) x0 x1
def f41 (L N : Nat) (x0 : Int) (x1 : Int) : Option (LI) := f41.b L N some x0 x1
def f41.ent (L N : Nat) := entDa [i64, i64] (.one (.sl i64)) fun d => f41 L N d.1 d.2.1
noncomputable def E41 (L N : Nat) : Env := { P := Tryd.prog, ty := tyOf, Φ := (Φ40 L N), inl := inlT, live := lives, liveX := livesX, L := L, dp := none, prom := promT, heal := healT, ren := renT }
noncomputable def f41.c0 : Code := loopAt 0 (codeOf Tryd.f41)
def f41.X0_e0 {R : Type} (κ : KX R) := fun z4 z5 z6 => κ (.exit 0) (f41.T0_e0 z4 z5 z6) (f41.H0_e0 z4 z5 z6)
def f41.R0 {R : Type} (rec : KT R) := fun s0 s1 s2 s3 => rec (f41.T0 s0 s1 s2 s3) (f41.H0 s0 s1 s2 s3)
theorem f41.s0_eq {R : Type} (L N : Nat) (κ : KX R) (rec : KT R) (s0 : Int) (s1 : Int) (s2 : Int) (s3 : LI) :
    evRd (E41 L N) (evCallI (E41 L N) 1 2000) 1000 41 25 0 f41.c0 κ rec (f41.T0 s0 s1 s2 s3) (f41.H0 s0 s1 s2 s3)
    = f41.s0 L N (f41.X0_e0 κ) (f41.R0 rec) s0 s1 s2 s3 := by kernel_rfl
theorem f41.l0_eq {R : Type} (L N : Nat) (κ : KX R) : ∀ (n : Nat) (s0 : Int) (s1 : Int) (s2 : Int) (s3 : LI),
    evLp (E41 L N) (evCallI (E41 L N) 1 2000) 1000 41 25 0 f41.c0 κ n (f41.T0 s0 s1 s2 s3) (f41.H0 s0 s1 s2 s3)
    = f41.l0 L N (f41.X0_e0 κ) n s0 s1 s2 s3 := by
  intro n
  induction n with
  | zero => intros; rfl
  | succ n ih =>
    intro s0 s1 s2 s3
    rw [evLp_succ, f41.s0_eq]
    delta f41.R0
    simp only [ih]
    rfl
theorem f41.p0_e0_eq {R : Type} (L N : Nat) (κ : AV → Option R) (z4 : Int) (z5 : Int) (z6 : LI) :
    (contAt (E41 L N) (evCallI (E41 L N) 1 2000) 1000 41 25 0 (codeOf Tryd.f41) (finK (E41 L N) 1000 Tryd.f41 (finC (.one (.sl i64)) κ))) (.exit 0) (f41.T0_e0 z4 z5 z6) (f41.H0_e0 z4 z5 z6)
    = f41.p0_e0 L N (fun a0 => κ (.tv (.sl i64) a0)) z4 z5 z6 := by kernel_rfl
theorem f41.b_eq {R : Type} (L N : Nat) (κ : AV → Option R) (x0 : Int) (x1 : Int) :
    evBody (E41 L N) (evCallI (E41 L N) 1 2000) 1000 41 Tryd.f41 [(.tv i64 x0), (.tv i64 x1)] [] [] (finC (.one (.sl i64)) κ)
    = f41.b L N (fun a0 => κ (.tv (.sl i64) a0)) x0 x1 := by
  refine Eq.trans (b := f41.b' L N (fun a0 => κ (.tv (.sl i64) a0)) (fun s0 s1 s2 s3 => evLp (E41 L N) (evCallI (E41 L N) 1 2000) 1000 41 25 0 f41.c0 (contAt (E41 L N) (evCallI (E41 L N) 1 2000) 1000 41 25 0 (codeOf Tryd.f41) (finK (E41 L N) 1000 Tryd.f41 (finC (.one (.sl i64)) κ))) L (f41.T0 s0 s1 s2 s3) (f41.H0 s0 s1 s2 s3)) x0 x1) (by kernel_rfl) ?_
  unfold f41.b
  simp only [f41.l0_eq]
  delta f41.X0_e0
  simp only [f41.p0_e0_eq]
theorem f41.ok (L N : Nat) (hΦ : TellsOk Tryd.prog ((Φ40 L N))) : EntOk Tryd.prog 41 (f41.ent L N) := entDa_ok (E := (E41 L N)) (dep := 1000) (f := Tryd.f41) (sound_of hΦ) okP (callI_sound (sound_of hΦ) okP 1 2000) rfl fun d _ hy => (f41.b_eq L N (unR (.one (.sl i64))) d.1 d.2.1).trans (Eq.trans (b := f41.b L N some d.1 d.2.1) (by kernel_rfl) hy)
def Φ41 (L N : Nat) : Tells := (addT (Φ40 L N) 41 (f41.ent L N))
theorem Φ41_ok (L N : Nat) : TellsOk Tryd.prog (Φ41 L N) := addT_ok (Φ40_ok L N) (f41.ok L N (Φ40_ok L N))
def f24.b' {R : Type} (L N : Nat) (k : Tree → Option R) (x0 : Tree) : Option R :=
  (f41 L N (0 : Int) (0 : Int)).bind fun y0 =>
  (f40 L N N (Tree.mk x0.op x0.n x0.parts) y0).bind fun y1 =>
  k (Tree.mk y1.op y1.n y1.parts)
def f24.b {R : Type} (L N : Nat) (k : Tree → Option R) (x0 : Tree) : Option R :=
  f24.b' L N k x0
def f24 (L N : Nat) (x0 : Tree) : Option (Tree) := f24.b L N some x0
def f24.ent (L N : Nat) := entDa [(.st 1)] (.one (.st 1)) fun d => f24 L N d.1
noncomputable def E24 (L N : Nat) : Env := { P := Tryd.prog, ty := tyOf, Φ := (Φ41 L N), inl := inlT, live := lives, liveX := livesX, L := L, dp := none, prom := promT, heal := healT, ren := renT }
theorem f24.b_eq {R : Type} (L N : Nat) (κ : AV → Option R) (x0 : Tree) :
    evBody (E24 L N) (evCallI (E24 L N) 1 2000) 1000 24 Tryd.f24 [(.tv (.st 1) x0)] [] [] (finC (.one (.st 1)) κ)
    = f24.b L N (fun a0 => κ (.tv (.st 1) a0)) x0 := by kernel_rfl
theorem f24.ok (L N : Nat) (hΦ : TellsOk Tryd.prog ((Φ41 L N))) : EntOk Tryd.prog 24 (f24.ent L N) := entDa_ok (E := (E24 L N)) (dep := 1000) (f := Tryd.f24) (sound_of hΦ) okP (callI_sound (sound_of hΦ) okP 1 2000) rfl fun d _ hy => (f24.b_eq L N (unR (.one (.st 1))) d.1).trans (Eq.trans (b := f24.b L N some d.1) (by kernel_rfl) hy)
def Φ24 (L N : Nat) : Tells := (addT (Φ41 L N) 24 (f24.ent L N))
theorem Φ24_ok (L N : Nat) : TellsOk Tryd.prog (Φ24 L N) := addT_ok (Φ41_ok L N) (f24.ok L N (Φ41_ok L N))
def f52.j0' {R : Type} (L N : Nat) (self52 : Tree → Bool → Option (Int)) (k0_e0 : Int → Option R) (rec0 : Bool → Int → Int → Int → Int → LT → Option R) (v14 : Bool) (v15 : Int) (v16 : Int) (v17 : Int) (v18 : Int) (v19 : LT) : Option R :=
  bif (decide (0 ≤ v16) && decide (v16 < (v19.length : Int))) then
    (self52 (listAt v19 (Ty.dflt (.st 1)) v16.toNat) v14).bind fun y20 =>
    rec0 v14 (bif decide (y20 > v15) then y20 else v15) (wi (v16 + (1 : Int))) v17 v18 v19
  else none
def f52.s0' {R : Type} (L N : Nat) (self52 : Tree → Bool → Option (Int)) (k0_e0 : Int → Option R) (rec0 : Bool → Int → Int → Int → Int → LT → Option R) (s0 : Bool) (s1 : Int) (s2 : Int) (s3 : Int) (s4 : Int) (s5 : LT) : Option R :=
  bif (decide (s2 < (s5.length : Int))) then
    bif s0 then
      bif (!(s3 == (1 : Int))) then
        f52.j0' L N self52 k0_e0 rec0 s0 s1 s2 s3 s4 s5
      else k0_e0 s1
    else bif (!false) then
      f52.j0' L N self52 k0_e0 rec0 s0 s1 s2 s3 s4 s5
    else k0_e0 s1
  else k0_e0 s1
def f52.s0 {R : Type} (L N : Nat) (self52 : Tree → Bool → Option (Int)) (k0_e0 : Int → Option R) (rec0 : Bool → Int → Int → Int → Int → LT → Option R) (s0 : Bool) (s1 : Int) (s2 : Int) (s3 : Int) (s4 : Int) (s5 : LT) : Option R :=
  f52.s0' L N self52 k0_e0 rec0 s0 s1 s2 s3 s4 s5
def f52.l0 {R : Type} (L N : Nat) (self52 : Tree → Bool → Option (Int)) (k0_e0 : Int → Option R) : Nat → Bool → Int → Int → Int → Int → LT → Option R
  | 0, _, _, _, _, _, _ => none
  | n + 1, s0, s1, s2, s3, s4, s5 => f52.s0 L N self52 k0_e0 (f52.l0 L N self52 k0_e0 n) s0 s1 s2 s3 s4 s5
def f52.T0 (s0 : Bool) (s1 : Int) (s2 : Int) (s3 : Int) (s4 : Int) (s5 : LT) : T := mkT 38 [(1, (.tv .bool s0)), (2, (.ptr 1002 0)), (5, (.tv i64 s1)), (6, (.tv i64 s2))]
def f52.H0 (s0 : Bool) (s1 : Int) (s2 : Int) (s3 : Int) (s4 : Int) (s5 : LT) : H := [(1002, (.box [(.tv i64 s3), (.tv i64 s4), (.tv (.sl (.st 1)) s5)]))]
def f52.T0_e0 (z13 : Int) : T := mkT 38 [(5, (.tv i64 z13))]
def f52.H0_e0 (z13 : Int) : H := []
def f52.p0_e0' {R : Type} (L N : Nat) (self52 : Tree → Bool → Option (Int)) (k : Int → Option R) (z13 : Int) : Option R :=
  k z13
def f52.p0_e0 {R : Type} (L N : Nat) (self52 : Tree → Bool → Option (Int)) (k : Int → Option R) (z13 : Int) : Option R :=
  f52.p0_e0' L N self52 k z13
def f52.b' {R : Type} (L N : Nat) (self52 : Tree → Bool → Option (Int)) (k : Int → Option R) (w0 : Bool → Int → Int → Int → Int → LT → Option R) (x0 : Tree) (x1 : Bool) : Option R :=
  bif (x0.op == (5 : Int)) then
    k x0.n
  else w0 x1 (-1 : Int) (0 : Int) x0.op x0.n x0.parts
def f52.b {R : Type} (L N : Nat) (self52 : Tree → Bool → Option (Int)) (k : Int → Option R) (x0 : Tree) (x1 : Bool) : Option R :=
  f52.b' L N self52 k (fun s0 s1 s2 s3 s4 s5 => f52.l0 L N self52 (fun z13 => f52.p0_e0 L N self52 k z13) L s0 s1 s2 s3 s4 s5) x0 x1
def f52 (L N : Nat) : Nat → Tree → Bool → Option (Int)
  | 0, _, _ => none
  | n + 1, x0, x1 => f52.b L N (f52 L N n) some x0 x1
def f52.ent (L N m : Nat) := entRo [(.st 1), .bool] (.one i64) fun d => f52 L N m d.1 d.2.1
def Φ52s (L N m : Nat) : Tells := (addT (Φ24 L N) 52 (f52.ent L N m))
noncomputable def E52 (L N m : Nat) : Env := { P := Tryd.prog, ty := tyOf, Φ := Φ52s L N m, inl := inlT, live := lives, liveX := livesX, L := L, dp := none, prom := promT, heal := healT, ren := renT }
noncomputable def f52.c0 : Code := loopAt 0 (codeOf Tryd.f52)
def f52.X0_e0 {R : Type} (κ : KX R) := fun z13 => κ (.exit 0) (f52.T0_e0 z13) (f52.H0_e0 z13)
def f52.R0 {R : Type} (rec : KT R) := fun s0 s1 s2 s3 s4 s5 => rec (f52.T0 s0 s1 s2 s3 s4 s5) (f52.H0 s0 s1 s2 s3 s4 s5)
theorem f52.s0_eq {R : Type} (L N m : Nat) (κ : KX R) (rec : KT R) (s0 : Bool) (s1 : Int) (s2 : Int) (s3 : Int) (s4 : Int) (s5 : LT) :
    evRd (E52 L N m) (evCallI (E52 L N m) 1 2000) 1000 52 38 0 f52.c0 κ rec (f52.T0 s0 s1 s2 s3 s4 s5) (f52.H0 s0 s1 s2 s3 s4 s5)
    = f52.s0 L N (f52 L N m) (f52.X0_e0 κ) (f52.R0 rec) s0 s1 s2 s3 s4 s5 := by kernel_rfl
theorem f52.l0_eq {R : Type} (L N m : Nat) (κ : KX R) : ∀ (n : Nat) (s0 : Bool) (s1 : Int) (s2 : Int) (s3 : Int) (s4 : Int) (s5 : LT),
    evLp (E52 L N m) (evCallI (E52 L N m) 1 2000) 1000 52 38 0 f52.c0 κ n (f52.T0 s0 s1 s2 s3 s4 s5) (f52.H0 s0 s1 s2 s3 s4 s5)
    = f52.l0 L N (f52 L N m) (f52.X0_e0 κ) n s0 s1 s2 s3 s4 s5 := by
  intro n
  induction n with
  | zero => intros; rfl
  | succ n ih =>
    intro s0 s1 s2 s3 s4 s5
    rw [evLp_succ, f52.s0_eq]
    delta f52.R0
    simp only [ih]
    rfl
theorem f52.p0_e0_eq {R : Type} (L N m : Nat) (κ : AV → Option R) (z13 : Int) :
    (contAt (E52 L N m) (evCallI (E52 L N m) 1 2000) 1000 52 38 0 (codeOf Tryd.f52) (finK (E52 L N m) 1000 Tryd.f52 (finC (.one i64) κ))) (.exit 0) (f52.T0_e0 z13) (f52.H0_e0 z13)
    = f52.p0_e0 L N (f52 L N m) (fun a0 => κ (.tv i64 a0)) z13 := by kernel_rfl
theorem f52.b_eq {R : Type} (L N m : Nat) (κ : AV → Option R) (x0 : Tree) (x1 : Bool) :
    evBody (E52 L N m) (evCallI (E52 L N m) 1 2000) 1000 52 Tryd.f52 [(.tv (.st 1) x0), (.tv .bool x1)] [] [] (finC (.one i64) κ)
    = f52.b L N (f52 L N m) (fun a0 => κ (.tv i64 a0)) x0 x1 := by
  refine Eq.trans (b := f52.b' L N (f52 L N m) (fun a0 => κ (.tv i64 a0)) (fun s0 s1 s2 s3 s4 s5 => evLp (E52 L N m) (evCallI (E52 L N m) 1 2000) 1000 52 38 0 f52.c0 (contAt (E52 L N m) (evCallI (E52 L N m) 1 2000) 1000 52 38 0 (codeOf Tryd.f52) (finK (E52 L N m) 1000 Tryd.f52 (finC (.one i64) κ))) L (f52.T0 s0 s1 s2 s3 s4 s5) (f52.H0 s0 s1 s2 s3 s4 s5)) x0 x1) (by kernel_rfl) ?_
  unfold f52.b
  simp only [f52.l0_eq]
  delta f52.X0_e0
  simp only [f52.p0_e0_eq]
theorem f52.ok (L N m : Nat) (hΦ : TellsOk Tryd.prog (Φ52s L N m)) : EntOk Tryd.prog 52 (f52.ent L N (m + 1)) := entRo_ok (E := (E52 L N m)) (dep := 1000) (f := Tryd.f52) (sound_of hΦ) okP (callI_sound (sound_of hΦ) okP 1 2000) rfl rfl fun d _ hy => (f52.b_eq L N m (unR (.one i64)) d.1 d.2.1).trans (Eq.trans (b := f52.b L N (f52 L N m) some d.1 d.2.1) (by kernel_rfl) hy)
theorem Φ52s_ok (L N : Nat) : ∀ m, TellsOk Tryd.prog (Φ52s L N m) := by
  intro m
  induction m with
  | zero => exact (addT_ok (Φ24_ok L N) (entRo_no fun _ => rfl))
  | succ m ih => exact (addT_ok (Φ24_ok L N) (f52.ok L N m ih))
def Φ52 (L N : Nat) : Tells := (addT (Φ24 L N) 52 (f52.ent L N N))
theorem Φ52_ok (L N : Nat) : TellsOk Tryd.prog (Φ52 L N) := Φ52s_ok L N N
def f34.b' {R : Type} (L N : Nat) (k : Bool → Option R) (x0 : Tree) : Option R :=
  (f52 L N N (Tree.mk x0.op x0.n x0.parts) false).bind fun y0 =>
  k (decide (y0 < (0 : Int)))
def f34.b {R : Type} (L N : Nat) (k : Bool → Option R) (x0 : Tree) : Option R :=
  f34.b' L N k x0
def f34 (L N : Nat) (x0 : Tree) : Option (Bool) := f34.b L N some x0
def f34.ent (L N : Nat) := entRo [(.st 1)] (.one .bool) fun d => f34 L N d.1
noncomputable def E34 (L N : Nat) : Env := { P := Tryd.prog, ty := tyOf, Φ := (Φ52 L N), inl := inlT, live := lives, liveX := livesX, L := L, dp := none, prom := promT, heal := healT, ren := renT }
theorem f34.b_eq {R : Type} (L N : Nat) (κ : AV → Option R) (x0 : Tree) :
    evBody (E34 L N) (evCallI (E34 L N) 1 2000) 1000 34 Tryd.f34 [(.tv (.st 1) x0)] [] [] (finC (.one .bool) κ)
    = f34.b L N (fun a0 => κ (.tv .bool a0)) x0 := by kernel_rfl
theorem f34.ok (L N : Nat) (hΦ : TellsOk Tryd.prog ((Φ52 L N))) : EntOk Tryd.prog 34 (f34.ent L N) := entRo_ok (E := (E34 L N)) (dep := 1000) (f := Tryd.f34) (sound_of hΦ) okP (callI_sound (sound_of hΦ) okP 1 2000) rfl rfl fun d _ hy => (f34.b_eq L N (unR (.one .bool)) d.1).trans (Eq.trans (b := f34.b L N some d.1) (by kernel_rfl) hy)
def Φ34 (L N : Nat) : Tells := (addT (Φ52 L N) 34 (f34.ent L N))
theorem Φ34_ok (L N : Nat) : TellsOk Tryd.prog (Φ34 L N) := addT_ok (Φ52_ok L N) (f34.ok L N (Φ52_ok L N))
def f46.b' {R : Type} (L N : Nat) (self46 : Int → Option (ByteArray)) (k : ByteArray → Option R) (x0 : Int) : Option R :=
  bif (decide (x0 < (-9223372036854775807 : Int))) then
    k (ByteArray.mk #[45, 57, 50, 50, 51, 51, 55, 50, 48, 51, 54, 56, 53, 52, 55, 55, 53, 56, 48, 56])
  else bif (decide (x0 < (0 : Int))) then
    (self46 (wi (0 - x0))).bind fun y0 =>
    bif (decide ((ByteArray.mk #[45]).size + y0.size ≤ 4611686018427387904)) then
      k ((ByteArray.mk #[45]) ++ y0)
    else none
  else bif (decide (x0 < (10 : Int))) then
    k (strOfNums ([(IntKind.wrap .u8 ((wi ((48 : Int) + x0))))] : LI))
  else bif (decide ((10 : Int) = 0)) then
    none
  else (self46 (wi (Int.tdiv x0 (10 : Int)))).bind fun y1 =>
  bif (decide ((10 : Int) = 0)) then
    none
  else bif (decide (y1.size + (strOfNums ([(IntKind.wrap .u8 ((wi ((48 : Int) + (Int.tmod x0 (10 : Int))))))] : LI)).size ≤ 4611686018427387904)) then
    k (y1 ++ (strOfNums ([(IntKind.wrap .u8 ((wi ((48 : Int) + (Int.tmod x0 (10 : Int))))))] : LI)))
  else none
def f46.b {R : Type} (L N : Nat) (self46 : Int → Option (ByteArray)) (k : ByteArray → Option R) (x0 : Int) : Option R :=
  f46.b' L N self46 k x0
def f46 (L N : Nat) : Nat → Int → Option (ByteArray)
  | 0, _ => none
  | n + 1, x0 => f46.b L N (f46 L N n) some x0
def f46.ent (L N m : Nat) := entRo [i64] (.one .str) fun d => f46 L N m d.1
def Φ46s (L N m : Nat) : Tells := (addT (Φ34 L N) 46 (f46.ent L N m))
noncomputable def E46 (L N m : Nat) : Env := { P := Tryd.prog, ty := tyOf, Φ := Φ46s L N m, inl := inlT, live := lives, liveX := livesX, L := L, dp := none, prom := promT, heal := healT, ren := renT }
theorem f46.b_eq {R : Type} (L N m : Nat) (κ : AV → Option R) (x0 : Int) :
    evBody (E46 L N m) (evCallI (E46 L N m) 1 2000) 1000 46 Tryd.f46 [(.tv i64 x0)] [] [] (finC (.one .str) κ)
    = f46.b L N (f46 L N m) (fun a0 => κ (.tv .str a0)) x0 := by kernel_rfl
theorem f46.ok (L N m : Nat) (hΦ : TellsOk Tryd.prog (Φ46s L N m)) : EntOk Tryd.prog 46 (f46.ent L N (m + 1)) := entRo_ok (E := (E46 L N m)) (dep := 1000) (f := Tryd.f46) (sound_of hΦ) okP (callI_sound (sound_of hΦ) okP 1 2000) rfl rfl fun d _ hy => (f46.b_eq L N m (unR (.one .str)) d.1).trans (Eq.trans (b := f46.b L N (f46 L N m) some d.1) (by kernel_rfl) hy)
theorem Φ46s_ok (L N : Nat) : ∀ m, TellsOk Tryd.prog (Φ46s L N m) := by
  intro m
  induction m with
  | zero => exact (addT_ok (Φ34_ok L N) (entRo_no fun _ => rfl))
  | succ m ih => exact (addT_ok (Φ34_ok L N) (f46.ok L N m ih))
def Φ46 (L N : Nat) : Tells := (addT (Φ34 L N) 46 (f46.ent L N N))
theorem Φ46_ok (L N : Nat) : TellsOk Tryd.prog (Φ46 L N) := Φ46s_ok L N N
def f47.b' {R : Type} (L N : Nat) (k : LY → Option R) : Option R :=
  k ([(ByteArray.mk #[]), (ByteArray.mk #[97, 99, 116]), (ByteArray.mk #[115, 117, 109]), (ByteArray.mk #[112, 97, 114]), (ByteArray.mk #[104, 105, 100, 101])] : LY)
def f47.b {R : Type} (L N : Nat) (k : LY → Option R) : Option R :=
  f47.b' L N k
def f47 (L N : Nat) : Option (LY) := f47.b L N some
def f47.ent (L N : Nat) := entDa [] (.one (.sl .str)) fun d => f47 L N
noncomputable def E47 (L N : Nat) : Env := { P := Tryd.prog, ty := tyOf, Φ := (Φ46 L N), inl := inlT, live := lives, liveX := livesX, L := L, dp := none, prom := promT, heal := healT, ren := renT }
theorem f47.b_eq {R : Type} (L N : Nat) (κ : AV → Option R) :
    evBody (E47 L N) (evCallI (E47 L N) 1 2000) 1000 47 Tryd.f47 [] [] [] (finC (.one (.sl .str)) κ)
    = f47.b L N (fun a0 => κ (.tv (.sl .str) a0)) := by kernel_rfl
theorem f47.ok (L N : Nat) (hΦ : TellsOk Tryd.prog ((Φ46 L N))) : EntOk Tryd.prog 47 (f47.ent L N) := entDa_ok (E := (E47 L N)) (dep := 1000) (f := Tryd.f47) (sound_of hΦ) okP (callI_sound (sound_of hΦ) okP 1 2000) rfl fun _ _ hy => (f47.b_eq L N (unR (.one (.sl .str)))).trans (Eq.trans (b := f47.b L N some) (by kernel_rfl) hy)
def Φ47 (L N : Nat) : Tells := (addT (Φ46 L N) 47 (f47.ent L N))
theorem Φ47_ok (L N : Nat) : TellsOk Tryd.prog (Φ47 L N) := addT_ok (Φ46_ok L N) (f47.ok L N (Φ46_ok L N))
def f72.b' {R : Type} (L N : Nat) (k : Int → Option R) (x0 : Int) : Option R :=
  k (wi ((bif decide ((wi (0 - x0)) > x0) then (wi (0 - x0)) else x0) - (1 : Int)))
def f72.b {R : Type} (L N : Nat) (k : Int → Option R) (x0 : Int) : Option R :=
  f72.b' L N k x0
def f72 (L N : Nat) (x0 : Int) : Option (Int) := f72.b L N some x0
def f72.ent (L N : Nat) := entRo [i64] (.one i64) fun d => f72 L N d.1
noncomputable def E72 (L N : Nat) : Env := { P := Tryd.prog, ty := tyOf, Φ := (Φ47 L N), inl := inlT, live := lives, liveX := livesX, L := L, dp := none, prom := promT, heal := healT, ren := renT }
theorem f72.b_eq {R : Type} (L N : Nat) (κ : AV → Option R) (x0 : Int) :
    evBody (E72 L N) (evCallI (E72 L N) 1 2000) 1000 72 Tryd.f72 [(.tv i64 x0)] [] [] (finC (.one i64) κ)
    = f72.b L N (fun a0 => κ (.tv i64 a0)) x0 := by kernel_rfl
theorem f72.ok (L N : Nat) (hΦ : TellsOk Tryd.prog ((Φ47 L N))) : EntOk Tryd.prog 72 (f72.ent L N) := entRo_ok (E := (E72 L N)) (dep := 1000) (f := Tryd.f72) (sound_of hΦ) okP (callI_sound (sound_of hΦ) okP 1 2000) rfl rfl fun d _ hy => (f72.b_eq L N (unR (.one i64)) d.1).trans (Eq.trans (b := f72.b L N some d.1) (by kernel_rfl) hy)
def Φ72 (L N : Nat) : Tells := (addT (Φ47 L N) 72 (f72.ent L N))
theorem Φ72_ok (L N : Nat) : TellsOk Tryd.prog (Φ72 L N) := addT_ok (Φ47_ok L N) (f72.ok L N (Φ47_ok L N))
def f48.b' {R : Type} (L N : Nat) (k : ByteArray → Option R) (x0 : Int) : Option R :=
  bif (x0 == (0 : Int)) then
    k (ByteArray.mk #[116, 97, 117])
  else bif (decide (x0 < (0 : Int))) then
    (f72 L N x0).bind fun y0 =>
    (f72 L N x0).bind fun y1 =>
    bif (slB y0 (wi (y1 + (1 : Int))) (ByteArray.mk #[97, 98, 99, 100]).size) then
      bif (decide ((ByteArray.mk #[33]).size + ((ByteArray.mk #[97, 98, 99, 100]).extract y0.toNat (wi (y1 + (1 : Int))).toNat).size ≤ 4611686018427387904)) then
        k ((ByteArray.mk #[33]) ++ ((ByteArray.mk #[97, 98, 99, 100]).extract y0.toNat (wi (y1 + (1 : Int))).toNat))
      else none
    else none
  else (f72 L N x0).bind fun y2 =>
  (f72 L N x0).bind fun y3 =>
  bif (slB y2 (wi (y3 + (1 : Int))) (ByteArray.mk #[97, 98, 99, 100]).size) then
    k ((ByteArray.mk #[97, 98, 99, 100]).extract y2.toNat (wi (y3 + (1 : Int))).toNat)
  else none
def f48.b {R : Type} (L N : Nat) (k : ByteArray → Option R) (x0 : Int) : Option R :=
  f48.b' L N k x0
def f48 (L N : Nat) (x0 : Int) : Option (ByteArray) := f48.b L N some x0
def f48.ent (L N : Nat) := entRo [i64] (.one .str) fun d => f48 L N d.1
noncomputable def E48 (L N : Nat) : Env := { P := Tryd.prog, ty := tyOf, Φ := (Φ72 L N), inl := inlT, live := lives, liveX := livesX, L := L, dp := none, prom := promT, heal := healT, ren := renT }
theorem f48.b_eq {R : Type} (L N : Nat) (κ : AV → Option R) (x0 : Int) :
    evBody (E48 L N) (evCallI (E48 L N) 1 2000) 1000 48 Tryd.f48 [(.tv i64 x0)] [] [] (finC (.one .str) κ)
    = f48.b L N (fun a0 => κ (.tv .str a0)) x0 := by kernel_rfl
theorem f48.ok (L N : Nat) (hΦ : TellsOk Tryd.prog ((Φ72 L N))) : EntOk Tryd.prog 48 (f48.ent L N) := entRo_ok (E := (E48 L N)) (dep := 1000) (f := Tryd.f48) (sound_of hΦ) okP (callI_sound (sound_of hΦ) okP 1 2000) rfl rfl fun d _ hy => (f48.b_eq L N (unR (.one .str)) d.1).trans (Eq.trans (b := f48.b L N some d.1) (by kernel_rfl) hy)
def Φ48 (L N : Nat) : Tells := (addT (Φ72 L N) 48 (f48.ent L N))
theorem Φ48_ok (L N : Nat) : TellsOk Tryd.prog (Φ48 L N) := addT_ok (Φ72_ok L N) (f48.ok L N (Φ72_ok L N))
def f32.s0' {R : Type} (L N : Nat) (self32 : Tree → Option (ByteArray)) (k0_e1 : ByteArray → Option R) (rec0 : ByteArray → Int → Int → Int → LT → Option R) (s12 : ByteArray) (s13 : Int) (s14 : Int) (s15 : Int) (s16 : LT) : Option R :=
  bif (decide (s13 < (s16.length : Int))) then
    bif (decide (s12.size + (ByteArray.mk #[32]).size ≤ 4611686018427387904)) then
      bif (decide (0 ≤ s13) && decide (s13 < (s16.length : Int))) then
        (self32 (listAt s16 (Ty.dflt (.st 1)) s13.toNat)).bind fun y18 =>
        bif (decide ((s12 ++ (ByteArray.mk #[32])).size + y18.size ≤ 4611686018427387904)) then
          rec0 ((s12 ++ (ByteArray.mk #[32])) ++ y18) (wi (s13 + (1 : Int))) s14 s15 s16
        else none
      else none
    else none
  else k0_e1 s12
def f32.s0 {R : Type} (L N : Nat) (self32 : Tree → Option (ByteArray)) (k0_e1 : ByteArray → Option R) (rec0 : ByteArray → Int → Int → Int → LT → Option R) (s12 : ByteArray) (s13 : Int) (s14 : Int) (s15 : Int) (s16 : LT) : Option R :=
  f32.s0' L N self32 k0_e1 rec0 s12 s13 s14 s15 s16
def f32.l0 {R : Type} (L N : Nat) (self32 : Tree → Option (ByteArray)) (k0_e1 : ByteArray → Option R) : Nat → ByteArray → Int → Int → Int → LT → Option R
  | 0, _, _, _, _, _ => none
  | n + 1, s12, s13, s14, s15, s16 => f32.s0 L N self32 k0_e1 (f32.l0 L N self32 k0_e1 n) s12 s13 s14 s15 s16
def f32.T0 (s12 : ByteArray) (s13 : Int) (s14 : Int) (s15 : Int) (s16 : LT) : T := mkT 58 [(1, (.ptr 1001 0)), (3, (.tv .str s12)), (4, (.tv i64 s13))]
def f32.H0 (s12 : ByteArray) (s13 : Int) (s14 : Int) (s15 : Int) (s16 : LT) : H := [(1001, (.box [(.tv i64 s14), (.tv i64 s15), (.tv (.sl (.st 1)) s16)]))]
def f32.T0_e1 (z17 : ByteArray) : T := mkT 58 [(3, (.tv .str z17))]
def f32.H0_e1 (z17 : ByteArray) : H := []
def f32.p0_e1' {R : Type} (L N : Nat) (self32 : Tree → Option (ByteArray)) (k : ByteArray → Option R) (z17 : ByteArray) : Option R :=
  bif (decide (z17.size + (ByteArray.mk #[41]).size ≤ 4611686018427387904)) then
    k (z17 ++ (ByteArray.mk #[41]))
  else none
def f32.p0_e1 {R : Type} (L N : Nat) (self32 : Tree → Option (ByteArray)) (k : ByteArray → Option R) (z17 : ByteArray) : Option R :=
  f32.p0_e1' L N self32 k z17
def f32.j0' {R : Type} (L N : Nat) (self32 : Tree → Option (ByteArray)) (k : ByteArray → Option R) (w0 : ByteArray → Int → Int → Int → LT → Option R) (v8 : ByteArray) (v9 : Int) (v10 : Int) (v11 : LT) : Option R :=
  w0 v8 (0 : Int) v9 v10 v11
def f32.j1' {R : Type} (L N : Nat) (self32 : Tree → Option (ByteArray)) (k : ByteArray → Option R) (w0 : ByteArray → Int → Int → Int → LT → Option R) (v3 : ByteArray) (v4 : Int) (v5 : Int) (v6 : LT) : Option R :=
  bif (v4 == (4 : Int)) then
    bif (decide (v3.size + (ByteArray.mk #[32]).size ≤ 4611686018427387904)) then
      (f48 L N (wi (v5 + (1 : Int)))).bind fun y7 =>
      bif (decide ((v3 ++ (ByteArray.mk #[32])).size + y7.size ≤ 4611686018427387904)) then
        f32.j0' L N self32 k w0 ((v3 ++ (ByteArray.mk #[32])) ++ y7) v4 v5 v6
      else none
    else none
  else f32.j0' L N self32 k w0 v3 v4 v5 v6
def f32.b' {R : Type} (L N : Nat) (self32 : Tree → Option (ByteArray)) (k : ByteArray → Option R) (w0 : ByteArray → Int → Int → Int → LT → Option R) (x0 : Tree) : Option R :=
  bif (x0.op == (0 : Int)) then
    k (ByteArray.mk #[48])
  else bif (x0.op == (5 : Int)) then
    (f46 L N N x0.n).bind fun y0 =>
    bif (decide ((ByteArray.mk #[88]).size + y0.size ≤ 4611686018427387904)) then
      k ((ByteArray.mk #[88]) ++ y0)
    else none
  else (f47 L N).bind fun y1 =>
  bif (decide (0 ≤ x0.op) && decide (x0.op < (y1.length : Int))) then
    bif (decide ((ByteArray.mk #[40]).size + (listAt y1 ByteArray.empty x0.op.toNat).size ≤ 4611686018427387904)) then
      bif (x0.op == (1 : Int)) then
        bif (decide (((ByteArray.mk #[40]) ++ (listAt y1 ByteArray.empty x0.op.toNat)).size + (ByteArray.mk #[32]).size ≤ 4611686018427387904)) then
          (f48 L N x0.n).bind fun y2 =>
          bif (decide ((((ByteArray.mk #[40]) ++ (listAt y1 ByteArray.empty x0.op.toNat)) ++ (ByteArray.mk #[32])).size + y2.size ≤ 4611686018427387904)) then
            f32.j1' L N self32 k w0 ((((ByteArray.mk #[40]) ++ (listAt y1 ByteArray.empty x0.op.toNat)) ++ (ByteArray.mk #[32])) ++ y2) x0.op x0.n x0.parts
          else none
        else none
      else f32.j1' L N self32 k w0 ((ByteArray.mk #[40]) ++ (listAt y1 ByteArray.empty x0.op.toNat)) x0.op x0.n x0.parts
    else none
  else none
def f32.b {R : Type} (L N : Nat) (self32 : Tree → Option (ByteArray)) (k : ByteArray → Option R) (x0 : Tree) : Option R :=
  f32.b' L N self32 k (fun s12 s13 s14 s15 s16 => f32.l0 L N self32 (fun z17 => f32.p0_e1 L N self32 k z17) L s12 s13 s14 s15 s16) x0
def f32 (L N : Nat) : Nat → Tree → Option (ByteArray)
  | 0, _ => none
  | n + 1, x0 => f32.b L N (f32 L N n) some x0
def f32.ent (L N m : Nat) := entRo [(.st 1)] (.one .str) fun d => f32 L N m d.1
def Φ32s (L N m : Nat) : Tells := (addT (Φ48 L N) 32 (f32.ent L N m))
noncomputable def E32 (L N m : Nat) : Env := { P := Tryd.prog, ty := tyOf, Φ := Φ32s L N m, inl := inlT, live := lives, liveX := livesX, L := L, dp := none, prom := promT, heal := healT, ren := renT }
noncomputable def f32.c0 : Code := loopAt 1 (codeOf Tryd.f32)
def f32.X0_e1 {R : Type} (κ : KX R) := fun z17 => κ (.exit 1) (f32.T0_e1 z17) (f32.H0_e1 z17)
def f32.R0 {R : Type} (rec : KT R) := fun s12 s13 s14 s15 s16 => rec (f32.T0 s12 s13 s14 s15 s16) (f32.H0 s12 s13 s14 s15 s16)
theorem f32.s0_eq {R : Type} (L N m : Nat) (κ : KX R) (rec : KT R) (s12 : ByteArray) (s13 : Int) (s14 : Int) (s15 : Int) (s16 : LT) :
    evRd (E32 L N m) (evCallI (E32 L N m) 1 2000) 1000 32 58 1 f32.c0 κ rec (f32.T0 s12 s13 s14 s15 s16) (f32.H0 s12 s13 s14 s15 s16)
    = f32.s0 L N (f32 L N m) (f32.X0_e1 κ) (f32.R0 rec) s12 s13 s14 s15 s16 := by kernel_rfl
theorem f32.l0_eq {R : Type} (L N m : Nat) (κ : KX R) : ∀ (n : Nat) (s12 : ByteArray) (s13 : Int) (s14 : Int) (s15 : Int) (s16 : LT),
    evLp (E32 L N m) (evCallI (E32 L N m) 1 2000) 1000 32 58 1 f32.c0 κ n (f32.T0 s12 s13 s14 s15 s16) (f32.H0 s12 s13 s14 s15 s16)
    = f32.l0 L N (f32 L N m) (f32.X0_e1 κ) n s12 s13 s14 s15 s16 := by
  intro n
  induction n with
  | zero => intros; rfl
  | succ n ih =>
    intro s12 s13 s14 s15 s16
    rw [evLp_succ, f32.s0_eq]
    delta f32.R0
    simp only [ih]
    rfl
theorem f32.p0_e1_eq {R : Type} (L N m : Nat) (κ : AV → Option R) (z17 : ByteArray) :
    (contAt (E32 L N m) (evCallI (E32 L N m) 1 2000) 1000 32 58 1 (codeOf Tryd.f32) (finK (E32 L N m) 1000 Tryd.f32 (finC (.one .str) κ))) (.exit 1) (f32.T0_e1 z17) (f32.H0_e1 z17)
    = f32.p0_e1 L N (f32 L N m) (fun a0 => κ (.tv .str a0)) z17 := by kernel_rfl
theorem f32.b_eq {R : Type} (L N m : Nat) (κ : AV → Option R) (x0 : Tree) :
    evBody (E32 L N m) (evCallI (E32 L N m) 1 2000) 1000 32 Tryd.f32 [(.tv (.st 1) x0)] [] [] (finC (.one .str) κ)
    = f32.b L N (f32 L N m) (fun a0 => κ (.tv .str a0)) x0 := by
  refine Eq.trans (b := f32.b' L N (f32 L N m) (fun a0 => κ (.tv .str a0)) (fun s12 s13 s14 s15 s16 => evLp (E32 L N m) (evCallI (E32 L N m) 1 2000) 1000 32 58 1 f32.c0 (contAt (E32 L N m) (evCallI (E32 L N m) 1 2000) 1000 32 58 1 (codeOf Tryd.f32) (finK (E32 L N m) 1000 Tryd.f32 (finC (.one .str) κ))) L (f32.T0 s12 s13 s14 s15 s16) (f32.H0 s12 s13 s14 s15 s16)) x0) (by kernel_rfl) ?_
  unfold f32.b
  simp only [f32.l0_eq]
  delta f32.X0_e1
  simp only [f32.p0_e1_eq]
theorem f32.ok (L N m : Nat) (hΦ : TellsOk Tryd.prog (Φ32s L N m)) : EntOk Tryd.prog 32 (f32.ent L N (m + 1)) := entRo_ok (E := (E32 L N m)) (dep := 1000) (f := Tryd.f32) (sound_of hΦ) okP (callI_sound (sound_of hΦ) okP 1 2000) rfl rfl fun d _ hy => (f32.b_eq L N m (unR (.one .str)) d.1).trans (Eq.trans (b := f32.b L N (f32 L N m) some d.1) (by kernel_rfl) hy)
theorem Φ32s_ok (L N : Nat) : ∀ m, TellsOk Tryd.prog (Φ32s L N m) := by
  intro m
  induction m with
  | zero => exact (addT_ok (Φ48_ok L N) (entRo_no fun _ => rfl))
  | succ m ih => exact (addT_ok (Φ48_ok L N) (f32.ok L N m ih))
def Φ32 (L N : Nat) : Tells := (addT (Φ48 L N) 32 (f32.ent L N N))
theorem Φ32_ok (L N : Nat) : TellsOk Tryd.prog (Φ32 L N) := Φ32s_ok L N N
def f53.s0' {R : Type} (L N : Nat) (self53 : Tree → LT → Option (LS)) (k0_e1 : Int → Int → LT → LS → LS → LS → Option R) (rec0 : Int → Int → Int → LT → LS → LS → LS → Option R) (s4 : Int) (s5 : Int) (s6 : Int) (s7 : LT) (s8 : LS) (s9 : LS) (s10 : LS) : Option R :=
  bif (decide (s4 < (s9.length : Int))) then
    bif (decide (0 ≤ s4) && decide (s4 < (s9.length : Int))) then
      bif (decide (0 ≤ s4) && decide (s4 < (s9.length : Int))) then
        bif (decide (0 ≤ (1 : Int)) && decide ((1 : Int) < (s7.length : Int))) then
          bif (decide (s8.length + ([(Step.mk ((listAt s9 (Ty.dflt (.st 3)) s4.toNat).act) (Tree.mk (3 : Int) (0 : Int) ([(Tree.mk ((listAt s9 (Ty.dflt (.st 3)) s4.toNat).thn.op) ((listAt s9 (Ty.dflt (.st 3)) s4.toNat).thn.n) ((listAt s9 (Ty.dflt (.st 3)) s4.toNat).thn.parts)), (listAt s7 (Ty.dflt (.st 1)) (1 : Int).toNat)] : LT)))] : LS).length ≤ lim)) then
            rec0 (wi (s4 + (1 : Int))) s5 s6 s7 (s8 ++ ([(Step.mk ((listAt s9 (Ty.dflt (.st 3)) s4.toNat).act) (Tree.mk (3 : Int) (0 : Int) ([(Tree.mk ((listAt s9 (Ty.dflt (.st 3)) s4.toNat).thn.op) ((listAt s9 (Ty.dflt (.st 3)) s4.toNat).thn.n) ((listAt s9 (Ty.dflt (.st 3)) s4.toNat).thn.parts)), (listAt s7 (Ty.dflt (.st 1)) (1 : Int).toNat)] : LT)))] : LS)) s9 s10
          else none
        else none
      else none
    else none
  else k0_e1 s5 s6 s7 s8 s9 s10
def f53.s0 {R : Type} (L N : Nat) (self53 : Tree → LT → Option (LS)) (k0_e1 : Int → Int → LT → LS → LS → LS → Option R) (rec0 : Int → Int → Int → LT → LS → LS → LS → Option R) (s4 : Int) (s5 : Int) (s6 : Int) (s7 : LT) (s8 : LS) (s9 : LS) (s10 : LS) : Option R :=
  f53.s0' L N self53 k0_e1 rec0 s4 s5 s6 s7 s8 s9 s10
def f53.l0 {R : Type} (L N : Nat) (self53 : Tree → LT → Option (LS)) (k0_e1 : Int → Int → LT → LS → LS → LS → Option R) : Nat → Int → Int → Int → LT → LS → LS → LS → Option R
  | 0, _, _, _, _, _, _, _ => none
  | n + 1, s4, s5, s6, s7, s8, s9, s10 => f53.s0 L N self53 k0_e1 (f53.l0 L N self53 k0_e1 n) s4 s5 s6 s7 s8 s9 s10
def f53.T0 (s4 : Int) (s5 : Int) (s6 : Int) (s7 : LT) (s8 : LS) (s9 : LS) (s10 : LS) : T := mkT 217 [(2, (.ptr 1002 0)), (5, (.row 1014)), (6, (.row 1051)), (7, (.row 1057)), (8, (.tv i64 s4))]
def f53.H0 (s4 : Int) (s5 : Int) (s6 : Int) (s7 : LT) (s8 : LS) (s9 : LS) (s10 : LS) : H := [(1002, (.box [(.tv i64 s5), (.tv i64 s6), (.tv (.sl (.st 1)) s7)])), (1014, (.row 66 (.st 3) s8)), (1051, (.row 66 (.st 3) s9)), (1057, (.row 66 (.st 3) s10))]
def f53.T0_e1 (z11 : Int) (z12 : Int) (z13 : LT) (z14 : LS) (z15 : LS) (z16 : LS) : T := mkT 217 [(2, (.ptr 1002 0)), (5, (.row 1014)), (6, (.row 1051)), (7, (.row 1057))]
def f53.H0_e1 (z11 : Int) (z12 : Int) (z13 : LT) (z14 : LS) (z15 : LS) (z16 : LS) : H := [(1002, (.box [(.tv i64 z11), (.tv i64 z12), (.tv (.sl (.st 1)) z13)])), (1014, (.row 66 (.st 3) z14)), (1051, (.row 66 (.st 3) z15)), (1057, (.row 66 (.st 3) z16))]
def f53.s1' {R : Type} (L N : Nat) (self53 : Tree → LT → Option (LS)) (k1_e3 : LS → LS → LS → Option R) (rec1 : Int → Int → Int → LT → LS → LS → LS → Option R) (s17 : Int) (s18 : Int) (s19 : Int) (s20 : LT) (s21 : LS) (s22 : LS) (s23 : LS) : Option R :=
  bif (decide (s17 < (s23.length : Int))) then
    bif (decide (0 ≤ s17) && decide (s17 < (s23.length : Int))) then
      bif (decide (0 ≤ (0 : Int)) && decide ((0 : Int) < (s20.length : Int))) then
        bif (decide (0 ≤ s17) && decide (s17 < (s23.length : Int))) then
          bif (decide (s21.length + ([(Step.mk ((listAt s23 (Ty.dflt (.st 3)) s17.toNat).act) (Tree.mk (3 : Int) (0 : Int) ([(listAt s20 (Ty.dflt (.st 1)) (0 : Int).toNat), (Tree.mk ((listAt s23 (Ty.dflt (.st 3)) s17.toNat).thn.op) ((listAt s23 (Ty.dflt (.st 3)) s17.toNat).thn.n) ((listAt s23 (Ty.dflt (.st 3)) s17.toNat).thn.parts))] : LT)))] : LS).length ≤ lim)) then
            rec1 (wi (s17 + (1 : Int))) s18 s19 s20 (s21 ++ ([(Step.mk ((listAt s23 (Ty.dflt (.st 3)) s17.toNat).act) (Tree.mk (3 : Int) (0 : Int) ([(listAt s20 (Ty.dflt (.st 1)) (0 : Int).toNat), (Tree.mk ((listAt s23 (Ty.dflt (.st 3)) s17.toNat).thn.op) ((listAt s23 (Ty.dflt (.st 3)) s17.toNat).thn.n) ((listAt s23 (Ty.dflt (.st 3)) s17.toNat).thn.parts))] : LT)))] : LS)) s22 s23
          else none
        else none
      else none
    else none
  else k1_e3 s21 s22 s23
def f53.s1 {R : Type} (L N : Nat) (self53 : Tree → LT → Option (LS)) (k1_e3 : LS → LS → LS → Option R) (rec1 : Int → Int → Int → LT → LS → LS → LS → Option R) (s17 : Int) (s18 : Int) (s19 : Int) (s20 : LT) (s21 : LS) (s22 : LS) (s23 : LS) : Option R :=
  f53.s1' L N self53 k1_e3 rec1 s17 s18 s19 s20 s21 s22 s23
def f53.l1 {R : Type} (L N : Nat) (self53 : Tree → LT → Option (LS)) (k1_e3 : LS → LS → LS → Option R) : Nat → Int → Int → Int → LT → LS → LS → LS → Option R
  | 0, _, _, _, _, _, _, _ => none
  | n + 1, s17, s18, s19, s20, s21, s22, s23 => f53.s1 L N self53 k1_e3 (f53.l1 L N self53 k1_e3 n) s17 s18 s19 s20 s21 s22 s23
def f53.T1 (s17 : Int) (s18 : Int) (s19 : Int) (s20 : LT) (s21 : LS) (s22 : LS) (s23 : LS) : T := mkT 217 [(2, (.ptr 1002 0)), (5, (.row 1014)), (6, (.row 1051)), (7, (.row 1057)), (9, (.tv i64 s17))]
def f53.H1 (s17 : Int) (s18 : Int) (s19 : Int) (s20 : LT) (s21 : LS) (s22 : LS) (s23 : LS) : H := [(1002, (.box [(.tv i64 s18), (.tv i64 s19), (.tv (.sl (.st 1)) s20)])), (1014, (.row 66 (.st 3) s21)), (1051, (.row 66 (.st 3) s22)), (1057, (.row 66 (.st 3) s23))]
def f53.T1_e3 (z24 : LS) (z25 : LS) (z26 : LS) : T := mkT 217 [(5, (.row 1014)), (6, (.row 1051)), (7, (.row 1057))]
def f53.H1_e3 (z24 : LS) (z25 : LS) (z26 : LS) : H := [(1014, (.row 66 (.st 3) z24)), (1051, (.row 66 (.st 3) z25)), (1057, (.row 66 (.st 3) z26))]
def f53.j0' {R : Type} (L N : Nat) (self53 : Tree → LT → Option (LS)) (k3_e7 : Int → LS → LS → LS → Option R) (rec3 : Int → Int → LS → LS → LS → Option R) (v41 : Int) (v42 : Int) (v43 : Bool) (v44 : LS) (v45 : LS) (v46 : LS) : Option R :=
  bif v43 then
    bif (decide (0 ≤ v41) && decide (v41 < (v45.length : Int))) then
      bif (decide (0 ≤ v42) && decide (v42 < (v46.length : Int))) then
        bif (decide (v44.length + ([(Step.mk (0 : Int) (Tree.mk (3 : Int) (0 : Int) ([(Tree.mk ((listAt v45 (Ty.dflt (.st 3)) v41.toNat).thn.op) ((listAt v45 (Ty.dflt (.st 3)) v41.toNat).thn.n) ((listAt v45 (Ty.dflt (.st 3)) v41.toNat).thn.parts)), (Tree.mk ((listAt v46 (Ty.dflt (.st 3)) v42.toNat).thn.op) ((listAt v46 (Ty.dflt (.st 3)) v42.toNat).thn.n) ((listAt v46 (Ty.dflt (.st 3)) v42.toNat).thn.parts))] : LT)))] : LS).length ≤ lim)) then
          rec3 v41 (wi (v42 + (1 : Int))) (v44 ++ ([(Step.mk (0 : Int) (Tree.mk (3 : Int) (0 : Int) ([(Tree.mk ((listAt v45 (Ty.dflt (.st 3)) v41.toNat).thn.op) ((listAt v45 (Ty.dflt (.st 3)) v41.toNat).thn.n) ((listAt v45 (Ty.dflt (.st 3)) v41.toNat).thn.parts)), (Tree.mk ((listAt v46 (Ty.dflt (.st 3)) v42.toNat).thn.op) ((listAt v46 (Ty.dflt (.st 3)) v42.toNat).thn.n) ((listAt v46 (Ty.dflt (.st 3)) v42.toNat).thn.parts))] : LT)))] : LS)) v45 v46
        else none
      else none
    else none
  else rec3 v41 (wi (v42 + (1 : Int))) v44 v45 v46
def f53.s3' {R : Type} (L N : Nat) (self53 : Tree → LT → Option (LS)) (k3_e7 : Int → LS → LS → LS → Option R) (rec3 : Int → Int → LS → LS → LS → Option R) (s32 : Int) (s33 : Int) (s34 : LS) (s35 : LS) (s36 : LS) : Option R :=
  bif (decide (s33 < (s36.length : Int))) then
    bif (decide (0 ≤ s32) && decide (s32 < (s35.length : Int))) then
      bif ((listAt s35 (Ty.dflt (.st 3)) s32.toNat).act != (0 : Int)) then
        bif (decide (0 ≤ s32) && decide (s32 < (s35.length : Int))) then
          bif (decide (0 ≤ s33) && decide (s33 < (s36.length : Int))) then
            f53.j0' L N self53 k3_e7 rec3 s32 s33 ((listAt s35 (Ty.dflt (.st 3)) s32.toNat).act == (wi (0 - (listAt s36 (Ty.dflt (.st 3)) s33.toNat).act))) s34 s35 s36
          else none
        else none
      else f53.j0' L N self53 k3_e7 rec3 s32 s33 false s34 s35 s36
    else none
  else k3_e7 s32 s34 s35 s36
def f53.s3 {R : Type} (L N : Nat) (self53 : Tree → LT → Option (LS)) (k3_e7 : Int → LS → LS → LS → Option R) (rec3 : Int → Int → LS → LS → LS → Option R) (s32 : Int) (s33 : Int) (s34 : LS) (s35 : LS) (s36 : LS) : Option R :=
  f53.s3' L N self53 k3_e7 rec3 s32 s33 s34 s35 s36
def f53.l3 {R : Type} (L N : Nat) (self53 : Tree → LT → Option (LS)) (k3_e7 : Int → LS → LS → LS → Option R) : Nat → Int → Int → LS → LS → LS → Option R
  | 0, _, _, _, _, _ => none
  | n + 1, s32, s33, s34, s35, s36 => f53.s3 L N self53 k3_e7 (f53.l3 L N self53 k3_e7 n) s32 s33 s34 s35 s36
def f53.T3 (s32 : Int) (s33 : Int) (s34 : LS) (s35 : LS) (s36 : LS) : T := mkT 217 [(5, (.row 1014)), (6, (.row 1051)), (7, (.row 1057)), (10, (.tv i64 s32)), (11, (.tv i64 s33))]
def f53.H3 (s32 : Int) (s33 : Int) (s34 : LS) (s35 : LS) (s36 : LS) : H := [(1014, (.row 66 (.st 3) s34)), (1051, (.row 66 (.st 3) s35)), (1057, (.row 66 (.st 3) s36))]
def f53.T3_e7 (z37 : Int) (z38 : LS) (z39 : LS) (z40 : LS) : T := mkT 217 [(5, (.row 1014)), (6, (.row 1051)), (7, (.row 1057)), (10, (.tv i64 z37))]
def f53.H3_e7 (z37 : Int) (z38 : LS) (z39 : LS) (z40 : LS) : H := [(1014, (.row 66 (.st 3) z38)), (1051, (.row 66 (.st 3) z39)), (1057, (.row 66 (.st 3) z40))]
def f53.p3_e7' {R : Type} (L N : Nat) (self53 : Tree → LT → Option (LS)) (k2_e5 : LS → Option R) (rec2 : Int → LS → LS → LS → Option R) (z37 : Int) (z38 : LS) (z39 : LS) (z40 : LS) : Option R :=
  rec2 (wi (z37 + (1 : Int))) z38 z39 z40
def f53.p3_e7 {R : Type} (L N : Nat) (self53 : Tree → LT → Option (LS)) (k2_e5 : LS → Option R) (rec2 : Int → LS → LS → LS → Option R) (z37 : Int) (z38 : LS) (z39 : LS) (z40 : LS) : Option R :=
  f53.p3_e7' L N self53 k2_e5 rec2 z37 z38 z39 z40
def f53.s2' {R : Type} (L N : Nat) (self53 : Tree → LT → Option (LS)) (k2_e5 : LS → Option R) (rec2 : Int → LS → LS → LS → Option R) (w3 : Int → Int → LS → LS → LS → Option R) (s27 : Int) (s28 : LS) (s29 : LS) (s30 : LS) : Option R :=
  bif (decide (s27 < (s29.length : Int))) then
    w3 s27 (0 : Int) s28 s29 s30
  else k2_e5 s28
def f53.s2 {R : Type} (L N : Nat) (self53 : Tree → LT → Option (LS)) (k2_e5 : LS → Option R) (rec2 : Int → LS → LS → LS → Option R) (s27 : Int) (s28 : LS) (s29 : LS) (s30 : LS) : Option R :=
  f53.s2' L N self53 k2_e5 rec2 (fun s32 s33 s34 s35 s36 => f53.l3 L N self53 (fun z37 z38 z39 z40 => f53.p3_e7 L N self53 k2_e5 rec2 z37 z38 z39 z40) L s32 s33 s34 s35 s36) s27 s28 s29 s30
def f53.l2 {R : Type} (L N : Nat) (self53 : Tree → LT → Option (LS)) (k2_e5 : LS → Option R) : Nat → Int → LS → LS → LS → Option R
  | 0, _, _, _, _ => none
  | n + 1, s27, s28, s29, s30 => f53.s2 L N self53 k2_e5 (f53.l2 L N self53 k2_e5 n) s27 s28 s29 s30
def f53.T2 (s27 : Int) (s28 : LS) (s29 : LS) (s30 : LS) : T := mkT 217 [(5, (.row 1014)), (6, (.row 1051)), (7, (.row 1057)), (10, (.tv i64 s27))]
def f53.H2 (s27 : Int) (s28 : LS) (s29 : LS) (s30 : LS) : H := [(1014, (.row 66 (.st 3) s28)), (1051, (.row 66 (.st 3) s29)), (1057, (.row 66 (.st 3) s30))]
def f53.T2_e5 (z31 : LS) : T := mkT 217 [(5, (.row 1014))]
def f53.H2_e5 (z31 : LS) : H := [(1014, (.row 66 (.st 3) z31))]
def f53.p2_e5' {R : Type} (L N : Nat) (self53 : Tree → LT → Option (LS)) (k : LS → Option R) (z31 : LS) : Option R :=
  k z31
def f53.p2_e5 {R : Type} (L N : Nat) (self53 : Tree → LT → Option (LS)) (k : LS → Option R) (z31 : LS) : Option R :=
  f53.p2_e5' L N self53 k z31
def f53.p1_e3' {R : Type} (L N : Nat) (self53 : Tree → LT → Option (LS)) (k : LS → Option R) (w2 : Int → LS → LS → LS → Option R) (z24 : LS) (z25 : LS) (z26 : LS) : Option R :=
  w2 (0 : Int) z24 z25 z26
def f53.p1_e3 {R : Type} (L N : Nat) (self53 : Tree → LT → Option (LS)) (k : LS → Option R) (z24 : LS) (z25 : LS) (z26 : LS) : Option R :=
  f53.p1_e3' L N self53 k (fun s27 s28 s29 s30 => f53.l2 L N self53 (fun z31 => f53.p2_e5 L N self53 k z31) L s27 s28 s29 s30) z24 z25 z26
def f53.p0_e1' {R : Type} (L N : Nat) (self53 : Tree → LT → Option (LS)) (k : LS → Option R) (w1 : Int → Int → Int → LT → LS → LS → LS → Option R) (z11 : Int) (z12 : Int) (z13 : LT) (z14 : LS) (z15 : LS) (z16 : LS) : Option R :=
  w1 (0 : Int) z11 z12 z13 z14 z15 z16
def f53.p0_e1 {R : Type} (L N : Nat) (self53 : Tree → LT → Option (LS)) (k : LS → Option R) (z11 : Int) (z12 : Int) (z13 : LT) (z14 : LS) (z15 : LS) (z16 : LS) : Option R :=
  f53.p0_e1' L N self53 k (fun s17 s18 s19 s20 s21 s22 s23 => f53.l1 L N self53 (fun z24 z25 z26 => f53.p1_e3 L N self53 k z24 z25 z26) L s17 s18 s19 s20 s21 s22 s23) z11 z12 z13 z14 z15 z16
def f53.j1' {R : Type} (L N : Nat) (self53 : Tree → LT → Option (LS)) (k4_e9 : LS → Option R) (rec4 : Int → Int → Int → LT → LS → LS → Option R) (v61 : Int) (v62 : Bool) (v63 : Int) (v64 : Int) (v65 : LT) (v66 : LS) (v67 : LS) : Option R :=
  bif v62 then
    bif (decide (0 ≤ v61) && decide (v61 < (v67.length : Int))) then
      bif (decide (0 ≤ v61) && decide (v61 < (v67.length : Int))) then
        bif (decide (v66.length + ([(Step.mk ((listAt v67 (Ty.dflt (.st 3)) v61.toNat).act) (Tree.mk (4 : Int) v64 ([(Tree.mk ((listAt v67 (Ty.dflt (.st 3)) v61.toNat).thn.op) ((listAt v67 (Ty.dflt (.st 3)) v61.toNat).thn.n) ((listAt v67 (Ty.dflt (.st 3)) v61.toNat).thn.parts))] : LT)))] : LS).length ≤ lim)) then
          rec4 (wi (v61 + (1 : Int))) v63 v64 v65 (v66 ++ ([(Step.mk ((listAt v67 (Ty.dflt (.st 3)) v61.toNat).act) (Tree.mk (4 : Int) v64 ([(Tree.mk ((listAt v67 (Ty.dflt (.st 3)) v61.toNat).thn.op) ((listAt v67 (Ty.dflt (.st 3)) v61.toNat).thn.n) ((listAt v67 (Ty.dflt (.st 3)) v61.toNat).thn.parts))] : LT)))] : LS)) v67
        else none
      else none
    else none
  else rec4 (wi (v61 + (1 : Int))) v63 v64 v65 v66 v67
def f53.s4' {R : Type} (L N : Nat) (self53 : Tree → LT → Option (LS)) (k4_e9 : LS → Option R) (rec4 : Int → Int → Int → LT → LS → LS → Option R) (s53 : Int) (s54 : Int) (s55 : Int) (s56 : LT) (s57 : LS) (s58 : LS) : Option R :=
  bif (decide (s53 < (s58.length : Int))) then
    bif (decide (0 ≤ s53) && decide (s53 < (s58.length : Int))) then
      bif ((listAt s58 (Ty.dflt (.st 3)) s53.toNat).act == (0 : Int)) then
        f53.j1' L N self53 k4_e9 rec4 s53 true s54 s55 s56 s57 s58
      else bif (decide (0 ≤ s53) && decide (s53 < (s58.length : Int))) then
        (f72 L N ((listAt s58 (Ty.dflt (.st 3)) s53.toNat).act)).bind fun y60 =>
        f53.j1' L N self53 k4_e9 rec4 s53 (y60 != s55) s54 s55 s56 s57 s58
      else none
    else none
  else k4_e9 s57
def f53.s4 {R : Type} (L N : Nat) (self53 : Tree → LT → Option (LS)) (k4_e9 : LS → Option R) (rec4 : Int → Int → Int → LT → LS → LS → Option R) (s53 : Int) (s54 : Int) (s55 : Int) (s56 : LT) (s57 : LS) (s58 : LS) : Option R :=
  f53.s4' L N self53 k4_e9 rec4 s53 s54 s55 s56 s57 s58
def f53.l4 {R : Type} (L N : Nat) (self53 : Tree → LT → Option (LS)) (k4_e9 : LS → Option R) : Nat → Int → Int → Int → LT → LS → LS → Option R
  | 0, _, _, _, _, _, _ => none
  | n + 1, s53, s54, s55, s56, s57, s58 => f53.s4 L N self53 k4_e9 (f53.l4 L N self53 k4_e9 n) s53 s54 s55 s56 s57 s58
def f53.T4 (s53 : Int) (s54 : Int) (s55 : Int) (s56 : LT) (s57 : LS) (s58 : LS) : T := mkT 217 [(2, (.ptr 1002 0)), (5, (.row 1014)), (12, (.row 1165)), (13, (.tv i64 s53))]
def f53.H4 (s53 : Int) (s54 : Int) (s55 : Int) (s56 : LT) (s57 : LS) (s58 : LS) : H := [(1002, (.box [(.tv i64 s54), (.tv i64 s55), (.tv (.sl (.st 1)) s56)])), (1014, (.row 66 (.st 3) s57)), (1165, (.row 66 (.st 3) s58))]
def f53.T4_e9 (z59 : LS) : T := mkT 217 [(5, (.row 1014))]
def f53.H4_e9 (z59 : LS) : H := [(1014, (.row 66 (.st 3) z59))]
def f53.p4_e9' {R : Type} (L N : Nat) (self53 : Tree → LT → Option (LS)) (k : LS → Option R) (z59 : LS) : Option R :=
  k z59
def f53.p4_e9 {R : Type} (L N : Nat) (self53 : Tree → LT → Option (LS)) (k : LS → Option R) (z59 : LS) : Option R :=
  f53.p4_e9' L N self53 k z59
def f53.b' {R : Type} (L N : Nat) (self53 : Tree → LT → Option (LS)) (k : LS → Option R) (w0 : Int → Int → Int → LT → LS → LS → LS → Option R) (w4 : Int → Int → Int → LT → LS → LS → Option R) (x0 : Tree) (x1 : LT) : Option R :=
  bif (x0.op == (1 : Int)) then
    bif (decide (0 ≤ (0 : Int)) && decide ((0 : Int) < (x0.parts.length : Int))) then
      bif (decide (([] : LS).length + ([(Step.mk x0.n (Tree.mk ((listAt x0.parts (Ty.dflt (.st 1)) (0 : Int).toNat).op) ((listAt x0.parts (Ty.dflt (.st 1)) (0 : Int).toNat).n) ((listAt x0.parts (Ty.dflt (.st 1)) (0 : Int).toNat).parts)))] : LS).length ≤ lim)) then
        k (([] : LS) ++ ([(Step.mk x0.n (Tree.mk ((listAt x0.parts (Ty.dflt (.st 1)) (0 : Int).toNat).op) ((listAt x0.parts (Ty.dflt (.st 1)) (0 : Int).toNat).n) ((listAt x0.parts (Ty.dflt (.st 1)) (0 : Int).toNat).parts)))] : LS))
      else none
    else none
  else bif (x0.op == (2 : Int)) then
    bif (decide (0 ≤ (0 : Int)) && decide ((0 : Int) < (x0.parts.length : Int))) then
      (self53 (listAt x0.parts (Ty.dflt (.st 1)) (0 : Int).toNat) x1).bind fun y0 =>
      bif (decide (0 ≤ (1 : Int)) && decide ((1 : Int) < (x0.parts.length : Int))) then
        (self53 (listAt x0.parts (Ty.dflt (.st 1)) (1 : Int).toNat) x1).bind fun y1 =>
        bif (decide (y0.length + y1.length ≤ lim)) then
          k (y0 ++ y1)
        else none
      else none
    else none
  else bif (x0.op == (3 : Int)) then
    bif (decide (0 ≤ (0 : Int)) && decide ((0 : Int) < (x0.parts.length : Int))) then
      (self53 (listAt x0.parts (Ty.dflt (.st 1)) (0 : Int).toNat) x1).bind fun y2 =>
      bif (decide (0 ≤ (1 : Int)) && decide ((1 : Int) < (x0.parts.length : Int))) then
        (self53 (listAt x0.parts (Ty.dflt (.st 1)) (1 : Int).toNat) x1).bind fun y3 =>
        w0 (0 : Int) x0.op x0.n x0.parts ([] : LS) y2 y3
      else none
    else none
  else bif (x0.op == (4 : Int)) then
    bif (decide (0 ≤ (0 : Int)) && decide ((0 : Int) < (x0.parts.length : Int))) then
      (self53 (listAt x0.parts (Ty.dflt (.st 1)) (0 : Int).toNat) x1).bind fun y52 =>
      w4 (0 : Int) x0.op x0.n x0.parts ([] : LS) y52
    else none
  else bif (x0.op == (5 : Int)) then
    bif (decide (0 ≤ x0.n) && decide (x0.n < (x1.length : Int))) then
      (self53 (listAt x1 (Ty.dflt (.st 1)) x0.n.toNat) x1).bind fun y74 =>
      k y74
    else none
  else k ([] : LS)
def f53.b {R : Type} (L N : Nat) (self53 : Tree → LT → Option (LS)) (k : LS → Option R) (x0 : Tree) (x1 : LT) : Option R :=
  f53.b' L N self53 k (fun s4 s5 s6 s7 s8 s9 s10 => f53.l0 L N self53 (fun z11 z12 z13 z14 z15 z16 => f53.p0_e1 L N self53 k z11 z12 z13 z14 z15 z16) L s4 s5 s6 s7 s8 s9 s10) (fun s53 s54 s55 s56 s57 s58 => f53.l4 L N self53 (fun z59 => f53.p4_e9 L N self53 k z59) L s53 s54 s55 s56 s57 s58) x0 x1
def f53 (L N : Nat) : Nat → Tree → LT → Option (LS)
  | 0, _, _ => none
  | n + 1, x0, x1 => f53.b L N (f53 L N n) some x0 x1
def f53.ent (L N m : Nat) (args : List AV) (vw : View) (site : Nat) : Ans := match coeD [(.st 1), (.sl (.st 1))] vw args with
  | some (d, u) => ⟨LS, f53 L N m d.1 d.2.1, fun y => (.row site, u ++ [(site, some (.row 66 (.st 3) y))], [])⟩
  | none => Ans.no
def Φ53s (L N m : Nat) : Tells := (addT (Φ32 L N) 53 (f53.ent L N m))
noncomputable def E53 (L N m : Nat) : Env := { P := Tryd.prog, ty := tyOf, Φ := Φ53s L N m, inl := inlT, live := lives, liveX := livesX, L := L, dp := none, prom := promT, heal := healT, ren := renT }
noncomputable def f53.c0 : Code := loopAt 1 (codeOf Tryd.f53)
def f53.X0_e1 {R : Type} (κ : KX R) := fun z11 z12 z13 z14 z15 z16 => κ (.exit 1) (f53.T0_e1 z11 z12 z13 z14 z15 z16) (f53.H0_e1 z11 z12 z13 z14 z15 z16)
def f53.R0 {R : Type} (rec : KT R) := fun s4 s5 s6 s7 s8 s9 s10 => rec (f53.T0 s4 s5 s6 s7 s8 s9 s10) (f53.H0 s4 s5 s6 s7 s8 s9 s10)
theorem f53.s0_eq {R : Type} (L N m : Nat) (κ : KX R) (rec : KT R) (s4 : Int) (s5 : Int) (s6 : Int) (s7 : LT) (s8 : LS) (s9 : LS) (s10 : LS) :
    evRd (E53 L N m) (evCallI (E53 L N m) 1 2000) 1000 53 217 1 f53.c0 κ rec (f53.T0 s4 s5 s6 s7 s8 s9 s10) (f53.H0 s4 s5 s6 s7 s8 s9 s10)
    = f53.s0 L N (f53 L N m) (f53.X0_e1 κ) (f53.R0 rec) s4 s5 s6 s7 s8 s9 s10 := by kernel_rfl
theorem f53.l0_eq {R : Type} (L N m : Nat) (κ : KX R) : ∀ (n : Nat) (s4 : Int) (s5 : Int) (s6 : Int) (s7 : LT) (s8 : LS) (s9 : LS) (s10 : LS),
    evLp (E53 L N m) (evCallI (E53 L N m) 1 2000) 1000 53 217 1 f53.c0 κ n (f53.T0 s4 s5 s6 s7 s8 s9 s10) (f53.H0 s4 s5 s6 s7 s8 s9 s10)
    = f53.l0 L N (f53 L N m) (f53.X0_e1 κ) n s4 s5 s6 s7 s8 s9 s10 := by
  intro n
  induction n with
  | zero => intros; rfl
  | succ n ih =>
    intro s4 s5 s6 s7 s8 s9 s10
    rw [evLp_succ, f53.s0_eq]
    delta f53.R0
    simp only [ih]
    rfl
noncomputable def f53.c1 : Code := loopAt 3 (codeOf Tryd.f53)
def f53.X1_e3 {R : Type} (κ : KX R) := fun z24 z25 z26 => κ (.exit 3) (f53.T1_e3 z24 z25 z26) (f53.H1_e3 z24 z25 z26)
def f53.R1 {R : Type} (rec : KT R) := fun s17 s18 s19 s20 s21 s22 s23 => rec (f53.T1 s17 s18 s19 s20 s21 s22 s23) (f53.H1 s17 s18 s19 s20 s21 s22 s23)
theorem f53.s1_eq {R : Type} (L N m : Nat) (κ : KX R) (rec : KT R) (s17 : Int) (s18 : Int) (s19 : Int) (s20 : LT) (s21 : LS) (s22 : LS) (s23 : LS) :
    evRd (E53 L N m) (evCallI (E53 L N m) 1 2000) 1000 53 217 3 f53.c1 κ rec (f53.T1 s17 s18 s19 s20 s21 s22 s23) (f53.H1 s17 s18 s19 s20 s21 s22 s23)
    = f53.s1 L N (f53 L N m) (f53.X1_e3 κ) (f53.R1 rec) s17 s18 s19 s20 s21 s22 s23 := by kernel_rfl
theorem f53.l1_eq {R : Type} (L N m : Nat) (κ : KX R) : ∀ (n : Nat) (s17 : Int) (s18 : Int) (s19 : Int) (s20 : LT) (s21 : LS) (s22 : LS) (s23 : LS),
    evLp (E53 L N m) (evCallI (E53 L N m) 1 2000) 1000 53 217 3 f53.c1 κ n (f53.T1 s17 s18 s19 s20 s21 s22 s23) (f53.H1 s17 s18 s19 s20 s21 s22 s23)
    = f53.l1 L N (f53 L N m) (f53.X1_e3 κ) n s17 s18 s19 s20 s21 s22 s23 := by
  intro n
  induction n with
  | zero => intros; rfl
  | succ n ih =>
    intro s17 s18 s19 s20 s21 s22 s23
    rw [evLp_succ, f53.s1_eq]
    delta f53.R1
    simp only [ih]
    rfl
noncomputable def f53.c2 : Code := loopAt 5 (codeOf Tryd.f53)
noncomputable def f53.c3 : Code := loopAt 7 f53.c2
def f53.X3_e7 {R : Type} (κ : KX R) := fun z37 z38 z39 z40 => κ (.exit 7) (f53.T3_e7 z37 z38 z39 z40) (f53.H3_e7 z37 z38 z39 z40)
def f53.R3 {R : Type} (rec : KT R) := fun s32 s33 s34 s35 s36 => rec (f53.T3 s32 s33 s34 s35 s36) (f53.H3 s32 s33 s34 s35 s36)
theorem f53.s3_eq {R : Type} (L N m : Nat) (κ : KX R) (rec : KT R) (s32 : Int) (s33 : Int) (s34 : LS) (s35 : LS) (s36 : LS) :
    evRd (E53 L N m) (evCallI (E53 L N m) 1 2000) 1000 53 217 7 f53.c3 κ rec (f53.T3 s32 s33 s34 s35 s36) (f53.H3 s32 s33 s34 s35 s36)
    = f53.s3 L N (f53 L N m) (f53.X3_e7 κ) (f53.R3 rec) s32 s33 s34 s35 s36 := by kernel_rfl
theorem f53.l3_eq {R : Type} (L N m : Nat) (κ : KX R) : ∀ (n : Nat) (s32 : Int) (s33 : Int) (s34 : LS) (s35 : LS) (s36 : LS),
    evLp (E53 L N m) (evCallI (E53 L N m) 1 2000) 1000 53 217 7 f53.c3 κ n (f53.T3 s32 s33 s34 s35 s36) (f53.H3 s32 s33 s34 s35 s36)
    = f53.l3 L N (f53 L N m) (f53.X3_e7 κ) n s32 s33 s34 s35 s36 := by
  intro n
  induction n with
  | zero => intros; rfl
  | succ n ih =>
    intro s32 s33 s34 s35 s36
    rw [evLp_succ, f53.s3_eq]
    delta f53.R3
    simp only [ih]
    rfl
def f53.X2_e5 {R : Type} (κ : KX R) := fun z31 => κ (.exit 5) (f53.T2_e5 z31) (f53.H2_e5 z31)
def f53.R2 {R : Type} (rec : KT R) := fun s27 s28 s29 s30 => rec (f53.T2 s27 s28 s29 s30) (f53.H2 s27 s28 s29 s30)
theorem f53.p3_e7_eq {R : Type} (L N m : Nat) (κ : KX R) (rec : KT R) (z37 : Int) (z38 : LS) (z39 : LS) (z40 : LS) :
    (contAt (E53 L N m) (evCallI (E53 L N m) 1 2000) 1000 53 217 7 f53.c2 (rdK (E53 L N m) 1000 53 217 5 κ rec)) (.exit 7) (f53.T3_e7 z37 z38 z39 z40) (f53.H3_e7 z37 z38 z39 z40)
    = f53.p3_e7 L N (f53 L N m) (f53.X2_e5 κ) (f53.R2 rec) z37 z38 z39 z40 := by kernel_rfl
theorem f53.s2_eq {R : Type} (L N m : Nat) (κ : KX R) (rec : KT R) (s27 : Int) (s28 : LS) (s29 : LS) (s30 : LS) :
    evRd (E53 L N m) (evCallI (E53 L N m) 1 2000) 1000 53 217 5 f53.c2 κ rec (f53.T2 s27 s28 s29 s30) (f53.H2 s27 s28 s29 s30)
    = f53.s2 L N (f53 L N m) (f53.X2_e5 κ) (f53.R2 rec) s27 s28 s29 s30 := by
  refine Eq.trans (b := f53.s2' L N (f53 L N m) (f53.X2_e5 κ) (f53.R2 rec) (fun s32 s33 s34 s35 s36 => evLp (E53 L N m) (evCallI (E53 L N m) 1 2000) 1000 53 217 7 f53.c3 (contAt (E53 L N m) (evCallI (E53 L N m) 1 2000) 1000 53 217 7 f53.c2 (rdK (E53 L N m) 1000 53 217 5 κ rec)) L (f53.T3 s32 s33 s34 s35 s36) (f53.H3 s32 s33 s34 s35 s36)) s27 s28 s29 s30) (by kernel_rfl) ?_
  unfold f53.s2
  simp only [f53.l3_eq]
  delta f53.X3_e7
  simp only [f53.p3_e7_eq]
theorem f53.l2_eq {R : Type} (L N m : Nat) (κ : KX R) : ∀ (n : Nat) (s27 : Int) (s28 : LS) (s29 : LS) (s30 : LS),
    evLp (E53 L N m) (evCallI (E53 L N m) 1 2000) 1000 53 217 5 f53.c2 κ n (f53.T2 s27 s28 s29 s30) (f53.H2 s27 s28 s29 s30)
    = f53.l2 L N (f53 L N m) (f53.X2_e5 κ) n s27 s28 s29 s30 := by
  intro n
  induction n with
  | zero => intros; rfl
  | succ n ih =>
    intro s27 s28 s29 s30
    rw [evLp_succ, f53.s2_eq]
    delta f53.R2
    simp only [ih]
    rfl
theorem f53.p2_e5_eq {R : Type} (L N m : Nat) (κ : List Step → Option R) (z31 : LS) :
    (contAt (E53 L N m) (evCallI (E53 L N m) 1 2000) 1000 53 217 5 (codeOf Tryd.f53) (finK (E53 L N m) 1000 Tryd.f53 (finRow 66 (.st 3) κ))) (.exit 5) (f53.T2_e5 z31) (f53.H2_e5 z31)
    = f53.p2_e5 L N (f53 L N m) κ z31 := by kernel_rfl
theorem f53.p1_e3_eq {R : Type} (L N m : Nat) (κ : List Step → Option R) (z24 : LS) (z25 : LS) (z26 : LS) :
    (contAt (E53 L N m) (evCallI (E53 L N m) 1 2000) 1000 53 217 3 (codeOf Tryd.f53) (finK (E53 L N m) 1000 Tryd.f53 (finRow 66 (.st 3) κ))) (.exit 3) (f53.T1_e3 z24 z25 z26) (f53.H1_e3 z24 z25 z26)
    = f53.p1_e3 L N (f53 L N m) κ z24 z25 z26 := by
  refine Eq.trans (b := f53.p1_e3' L N (f53 L N m) κ (fun s27 s28 s29 s30 => evLp (E53 L N m) (evCallI (E53 L N m) 1 2000) 1000 53 217 5 f53.c2 (contAt (E53 L N m) (evCallI (E53 L N m) 1 2000) 1000 53 217 5 (codeOf Tryd.f53) (finK (E53 L N m) 1000 Tryd.f53 (finRow 66 (.st 3) κ))) L (f53.T2 s27 s28 s29 s30) (f53.H2 s27 s28 s29 s30)) z24 z25 z26) (by kernel_rfl) ?_
  unfold f53.p1_e3
  simp only [f53.l2_eq]
  delta f53.X2_e5
  simp only [f53.p2_e5_eq]
theorem f53.p0_e1_eq {R : Type} (L N m : Nat) (κ : List Step → Option R) (z11 : Int) (z12 : Int) (z13 : LT) (z14 : LS) (z15 : LS) (z16 : LS) :
    (contAt (E53 L N m) (evCallI (E53 L N m) 1 2000) 1000 53 217 1 (codeOf Tryd.f53) (finK (E53 L N m) 1000 Tryd.f53 (finRow 66 (.st 3) κ))) (.exit 1) (f53.T0_e1 z11 z12 z13 z14 z15 z16) (f53.H0_e1 z11 z12 z13 z14 z15 z16)
    = f53.p0_e1 L N (f53 L N m) κ z11 z12 z13 z14 z15 z16 := by
  refine Eq.trans (b := f53.p0_e1' L N (f53 L N m) κ (fun s17 s18 s19 s20 s21 s22 s23 => evLp (E53 L N m) (evCallI (E53 L N m) 1 2000) 1000 53 217 3 f53.c1 (contAt (E53 L N m) (evCallI (E53 L N m) 1 2000) 1000 53 217 3 (codeOf Tryd.f53) (finK (E53 L N m) 1000 Tryd.f53 (finRow 66 (.st 3) κ))) L (f53.T1 s17 s18 s19 s20 s21 s22 s23) (f53.H1 s17 s18 s19 s20 s21 s22 s23)) z11 z12 z13 z14 z15 z16) (by kernel_rfl) ?_
  unfold f53.p0_e1
  simp only [f53.l1_eq]
  delta f53.X1_e3
  simp only [f53.p1_e3_eq]
noncomputable def f53.c4 : Code := loopAt 9 (codeOf Tryd.f53)
def f53.X4_e9 {R : Type} (κ : KX R) := fun z59 => κ (.exit 9) (f53.T4_e9 z59) (f53.H4_e9 z59)
def f53.R4 {R : Type} (rec : KT R) := fun s53 s54 s55 s56 s57 s58 => rec (f53.T4 s53 s54 s55 s56 s57 s58) (f53.H4 s53 s54 s55 s56 s57 s58)
theorem f53.s4_eq {R : Type} (L N m : Nat) (κ : KX R) (rec : KT R) (s53 : Int) (s54 : Int) (s55 : Int) (s56 : LT) (s57 : LS) (s58 : LS) :
    evRd (E53 L N m) (evCallI (E53 L N m) 1 2000) 1000 53 217 9 f53.c4 κ rec (f53.T4 s53 s54 s55 s56 s57 s58) (f53.H4 s53 s54 s55 s56 s57 s58)
    = f53.s4 L N (f53 L N m) (f53.X4_e9 κ) (f53.R4 rec) s53 s54 s55 s56 s57 s58 := by kernel_rfl
theorem f53.l4_eq {R : Type} (L N m : Nat) (κ : KX R) : ∀ (n : Nat) (s53 : Int) (s54 : Int) (s55 : Int) (s56 : LT) (s57 : LS) (s58 : LS),
    evLp (E53 L N m) (evCallI (E53 L N m) 1 2000) 1000 53 217 9 f53.c4 κ n (f53.T4 s53 s54 s55 s56 s57 s58) (f53.H4 s53 s54 s55 s56 s57 s58)
    = f53.l4 L N (f53 L N m) (f53.X4_e9 κ) n s53 s54 s55 s56 s57 s58 := by
  intro n
  induction n with
  | zero => intros; rfl
  | succ n ih =>
    intro s53 s54 s55 s56 s57 s58
    rw [evLp_succ, f53.s4_eq]
    delta f53.R4
    simp only [ih]
    rfl
theorem f53.p4_e9_eq {R : Type} (L N m : Nat) (κ : List Step → Option R) (z59 : LS) :
    (contAt (E53 L N m) (evCallI (E53 L N m) 1 2000) 1000 53 217 9 (codeOf Tryd.f53) (finK (E53 L N m) 1000 Tryd.f53 (finRow 66 (.st 3) κ))) (.exit 9) (f53.T4_e9 z59) (f53.H4_e9 z59)
    = f53.p4_e9 L N (f53 L N m) κ z59 := by kernel_rfl
theorem f53.b_eq {R : Type} (L N m : Nat) (κ : List Step → Option R) (x0 : Tree) (x1 : LT) :
    evBody (E53 L N m) (evCallI (E53 L N m) 1 2000) 1000 53 Tryd.f53 [(.tv (.st 1) x0), (.tv (.sl (.st 1)) x1)] [] [] (finRow 66 (.st 3) κ)
    = f53.b L N (f53 L N m) κ x0 x1 := by
  refine Eq.trans (b := f53.b' L N (f53 L N m) κ (fun s4 s5 s6 s7 s8 s9 s10 => evLp (E53 L N m) (evCallI (E53 L N m) 1 2000) 1000 53 217 1 f53.c0 (contAt (E53 L N m) (evCallI (E53 L N m) 1 2000) 1000 53 217 1 (codeOf Tryd.f53) (finK (E53 L N m) 1000 Tryd.f53 (finRow 66 (.st 3) κ))) L (f53.T0 s4 s5 s6 s7 s8 s9 s10) (f53.H0 s4 s5 s6 s7 s8 s9 s10)) (fun s53 s54 s55 s56 s57 s58 => evLp (E53 L N m) (evCallI (E53 L N m) 1 2000) 1000 53 217 9 f53.c4 (contAt (E53 L N m) (evCallI (E53 L N m) 1 2000) 1000 53 217 9 (codeOf Tryd.f53) (finK (E53 L N m) 1000 Tryd.f53 (finRow 66 (.st 3) κ))) L (f53.T4 s53 s54 s55 s56 s57 s58) (f53.H4 s53 s54 s55 s56 s57 s58)) x0 x1) (by kernel_rfl) ?_
  unfold f53.b
  simp only [f53.l0_eq, f53.l4_eq]
  delta f53.X0_e1 f53.X4_e9
  simp only [f53.p0_e1_eq, f53.p4_e9_eq]
theorem f53.ok (L N m : Nat) (hΦ : TellsOk Tryd.prog (Φ53s L N m)) : EntOk Tryd.prog 53 (f53.ent L N (m + 1)) := by
  intro args vw site h
  unfold f53.ent
  split
  · rename_i d u ha
    intro y hy hs
    refine call_row (dep := 1000) (E := (E53 L N m)) (sound_of hΦ) okP (callI_sound (sound_of hΦ) okP 1 2000) (f := Tryd.f53) rfl hs ha ?_ site
    exact (f53.b_eq L N m some d.1 d.2.1).trans hy
  · intro y hy
    cases hy
theorem Φ53s_ok (L N : Nat) : ∀ m, TellsOk Tryd.prog (Φ53s L N m) := by
  intro m
  induction m with
  | zero => exact (addT_ok (Φ32_ok L N) (fun args vw site h => by unfold f53.ent; split <;> (intro y hy; cases hy)))
  | succ m ih => exact (addT_ok (Φ32_ok L N) (f53.ok L N m ih))
def Φ53 (L N : Nat) : Tells := (addT (Φ32 L N) 53 (f53.ent L N N))
theorem Φ53_ok (L N : Nat) : TellsOk Tryd.prog (Φ53 L N) := Φ53s_ok L N N
def f54.s0' {R : Type} (L N : Nat) (k0_e0 : Int → Int → Int → Int → LT → Option R) (rec0 : LT → Int → Int → Int → Int → Int → LT → Option R) (s0 : LT) (s1 : Int) (s2 : Int) (s3 : Int) (s4 : Int) (s5 : Int) (s6 : LT) : Option R :=
  bif (decide (s1 ≥ (0 : Int))) then
    bif (decide (0 ≤ s1) && decide (s1 < (s0.length : Int))) then
      rec0 s0 (wi (s1 - (1 : Int))) s2 s3 ((Tree.mk (2 : Int) (0 : Int) ([(listAt s0 (Ty.dflt (.st 1)) s1.toNat), (Tree.mk s4 s5 s6)] : LT)).op) ((Tree.mk (2 : Int) (0 : Int) ([(listAt s0 (Ty.dflt (.st 1)) s1.toNat), (Tree.mk s4 s5 s6)] : LT)).n) ((Tree.mk (2 : Int) (0 : Int) ([(listAt s0 (Ty.dflt (.st 1)) s1.toNat), (Tree.mk s4 s5 s6)] : LT)).parts)
    else none
  else k0_e0 s2 s3 s4 s5 s6
def f54.s0 {R : Type} (L N : Nat) (k0_e0 : Int → Int → Int → Int → LT → Option R) (rec0 : LT → Int → Int → Int → Int → Int → LT → Option R) (s0 : LT) (s1 : Int) (s2 : Int) (s3 : Int) (s4 : Int) (s5 : Int) (s6 : LT) : Option R :=
  f54.s0' L N k0_e0 rec0 s0 s1 s2 s3 s4 s5 s6
def f54.l0 {R : Type} (L N : Nat) (k0_e0 : Int → Int → Int → Int → LT → Option R) : Nat → LT → Int → Int → Int → Int → Int → LT → Option R
  | 0, _, _, _, _, _, _, _ => none
  | n + 1, s0, s1, s2, s3, s4, s5, s6 => f54.s0 L N k0_e0 (f54.l0 L N k0_e0 n) s0 s1 s2 s3 s4 s5 s6
def f54.T0 (s0 : LT) (s1 : Int) (s2 : Int) (s3 : Int) (s4 : Int) (s5 : Int) (s6 : LT) : T := mkT 30 [(0, (.tv (.sl (.st 1)) s0)), (2, (.ptr 1002 0)), (3, (.ptr 1003 0)), (4, (.tv i64 s1))]
def f54.H0 (s0 : LT) (s1 : Int) (s2 : Int) (s3 : Int) (s4 : Int) (s5 : Int) (s6 : LT) : H := [(1002, (.box [(.tv i64 s2), (.tv i64 s3), .nil])), (1003, (.box [(.tv i64 s4), (.tv i64 s5), (.tv (.sl (.st 1)) s6)]))]
def f54.T0_e0 (z7 : Int) (z8 : Int) (z9 : Int) (z10 : Int) (z11 : LT) : T := mkT 30 [(2, (.ptr 1002 0)), (3, (.ptr 1003 0))]
def f54.H0_e0 (z7 : Int) (z8 : Int) (z9 : Int) (z10 : Int) (z11 : LT) : H := [(1002, (.box [(.tv i64 z7), (.tv i64 z8), .nil])), (1003, (.box [(.tv i64 z9), (.tv i64 z10), (.tv (.sl (.st 1)) z11)]))]
def f54.p0_e0' {R : Type} (L N : Nat) (k : Tree → Option R) (z7 : Int) (z8 : Int) (z9 : Int) (z10 : Int) (z11 : LT) : Option R :=
  k (Tree.mk ((Tree.mk z9 z10 z11).op) ((Tree.mk z9 z10 z11).n) ((Tree.mk z9 z10 z11).parts))
def f54.p0_e0 {R : Type} (L N : Nat) (k : Tree → Option R) (z7 : Int) (z8 : Int) (z9 : Int) (z10 : Int) (z11 : LT) : Option R :=
  f54.p0_e0' L N k z7 z8 z9 z10 z11
def f54.b' {R : Type} (L N : Nat) (k : Tree → Option R) (w0 : LT → Int → Int → Int → Int → Int → LT → Option R) (x0 : LT) : Option R :=
  bif ((x0.length : Int) == (0 : Int)) then
    k (Tree.mk ((Tree.mk (0 : Int) (0 : Int) []).op) ((Tree.mk (0 : Int) (0 : Int) []).n) ((Tree.mk (0 : Int) (0 : Int) []).parts))
  else bif (decide (0 ≤ (wi ((x0.length : Int) - (1 : Int)))) && decide ((wi ((x0.length : Int) - (1 : Int))) < (x0.length : Int))) then
    w0 x0 (wi ((x0.length : Int) - (2 : Int))) (0 : Int) (0 : Int) ((listAt x0 (Ty.dflt (.st 1)) (wi ((x0.length : Int) - (1 : Int))).toNat).op) ((listAt x0 (Ty.dflt (.st 1)) (wi ((x0.length : Int) - (1 : Int))).toNat).n) ((listAt x0 (Ty.dflt (.st 1)) (wi ((x0.length : Int) - (1 : Int))).toNat).parts)
  else none
def f54.b {R : Type} (L N : Nat) (k : Tree → Option R) (x0 : LT) : Option R :=
  f54.b' L N k (fun s0 s1 s2 s3 s4 s5 s6 => f54.l0 L N (fun z7 z8 z9 z10 z11 => f54.p0_e0 L N k z7 z8 z9 z10 z11) L s0 s1 s2 s3 s4 s5 s6) x0
def f54 (L N : Nat) (x0 : LT) : Option (Tree) := f54.b L N some x0
def f54.ent (L N : Nat) := entDa [(.sl (.st 1))] (.one (.st 1)) fun d => f54 L N d.1
noncomputable def E54 (L N : Nat) : Env := { P := Tryd.prog, ty := tyOf, Φ := (Φ53 L N), inl := inlT, live := lives, liveX := livesX, L := L, dp := none, prom := promT, heal := healT, ren := renT, zd := true }
noncomputable def f54.c0 : Code := loopAt 0 (codeOf Tryd.f54)
def f54.X0_e0 {R : Type} (κ : KX R) := fun z7 z8 z9 z10 z11 => κ (.exit 0) (f54.T0_e0 z7 z8 z9 z10 z11) (f54.H0_e0 z7 z8 z9 z10 z11)
def f54.R0 {R : Type} (rec : KT R) := fun s0 s1 s2 s3 s4 s5 s6 => rec (f54.T0 s0 s1 s2 s3 s4 s5 s6) (f54.H0 s0 s1 s2 s3 s4 s5 s6)
theorem f54.s0_eq {R : Type} (L N : Nat) (κ : KX R) (rec : KT R) (s0 : LT) (s1 : Int) (s2 : Int) (s3 : Int) (s4 : Int) (s5 : Int) (s6 : LT) :
    evRd (E54 L N) (evCallI (E54 L N) 1 2000) 1000 54 30 0 f54.c0 κ rec (f54.T0 s0 s1 s2 s3 s4 s5 s6) (f54.H0 s0 s1 s2 s3 s4 s5 s6)
    = f54.s0 L N (f54.X0_e0 κ) (f54.R0 rec) s0 s1 s2 s3 s4 s5 s6 := by kernel_rfl
theorem f54.l0_eq {R : Type} (L N : Nat) (κ : KX R) : ∀ (n : Nat) (s0 : LT) (s1 : Int) (s2 : Int) (s3 : Int) (s4 : Int) (s5 : Int) (s6 : LT),
    evLp (E54 L N) (evCallI (E54 L N) 1 2000) 1000 54 30 0 f54.c0 κ n (f54.T0 s0 s1 s2 s3 s4 s5 s6) (f54.H0 s0 s1 s2 s3 s4 s5 s6)
    = f54.l0 L N (f54.X0_e0 κ) n s0 s1 s2 s3 s4 s5 s6 := by
  intro n
  induction n with
  | zero => intros; rfl
  | succ n ih =>
    intro s0 s1 s2 s3 s4 s5 s6
    rw [evLp_succ, f54.s0_eq]
    delta f54.R0
    simp only [ih]
    rfl
theorem f54.p0_e0_eq {R : Type} (L N : Nat) (κ : AV → Option R) (z7 : Int) (z8 : Int) (z9 : Int) (z10 : Int) (z11 : LT) :
    (contAt (E54 L N) (evCallI (E54 L N) 1 2000) 1000 54 30 0 (codeOf Tryd.f54) (finK (E54 L N) 1000 Tryd.f54 (finC (.one (.st 1)) κ))) (.exit 0) (f54.T0_e0 z7 z8 z9 z10 z11) (f54.H0_e0 z7 z8 z9 z10 z11)
    = f54.p0_e0 L N (fun a0 => κ (.tv (.st 1) a0)) z7 z8 z9 z10 z11 := by kernel_rfl
theorem f54.b_eq {R : Type} (L N : Nat) (κ : AV → Option R) (x0 : LT) :
    evBody (E54 L N) (evCallI (E54 L N) 1 2000) 1000 54 Tryd.f54 [(.tv (.sl (.st 1)) x0)] [] [] (finC (.one (.st 1)) κ)
    = f54.b L N (fun a0 => κ (.tv (.st 1) a0)) x0 := by
  refine Eq.trans (b := f54.b' L N (fun a0 => κ (.tv (.st 1) a0)) (fun s0 s1 s2 s3 s4 s5 s6 => evLp (E54 L N) (evCallI (E54 L N) 1 2000) 1000 54 30 0 f54.c0 (contAt (E54 L N) (evCallI (E54 L N) 1 2000) 1000 54 30 0 (codeOf Tryd.f54) (finK (E54 L N) 1000 Tryd.f54 (finC (.one (.st 1)) κ))) L (f54.T0 s0 s1 s2 s3 s4 s5 s6) (f54.H0 s0 s1 s2 s3 s4 s5 s6)) x0) (by kernel_rfl) ?_
  unfold f54.b
  simp only [f54.l0_eq]
  delta f54.X0_e0
  simp only [f54.p0_e0_eq]
theorem f54.ok (L N : Nat) (hΦ : TellsOk Tryd.prog ((Φ53 L N))) : EntOk Tryd.prog 54 (f54.ent L N) := entDa_ok (E := (E54 L N)) (dep := 1000) (f := Tryd.f54) (sound_of hΦ) okP (callI_sound (sound_of hΦ) okP 1 2000) rfl fun d _ hy => (f54.b_eq L N (unR (.one (.st 1))) d.1).trans (Eq.trans (b := f54.b L N some d.1) (by kernel_rfl) hy)
def Φ54 (L N : Nat) : Tells := (addT (Φ53 L N) 54 (f54.ent L N))
theorem Φ54_ok (L N : Nat) : TellsOk Tryd.prog (Φ54 L N) := addT_ok (Φ53_ok L N) (f54.ok L N (Φ53_ok L N))
def f35.s1' {R : Type} (L N : Nat) (self35 : Tree → Option (Tree × Bool)) (k1_e2 : LT → Int → Int → Int → Int → Int → Int → LS → LT → Option R) (rec1 : LT → Int → Int → Int → Int → Int → Int → LS → LT → Option R) (s14 : LT) (s15 : Int) (s16 : Int) (s17 : Int) (s18 : Int) (s19 : Int) (s20 : Int) (s21 : LS) (s22 : LT) : Option R :=
  bif (decide (s16 > (0 : Int))) then
    (f32 L N N (Tree.mk s19 s20 s22)).bind fun y23 =>
    bif (decide (0 ≤ (wi (s16 - (1 : Int)))) && decide ((wi (s16 - (1 : Int))) < (s14.length : Int))) then
      (f32 L N N (listAt s14 (Ty.dflt (.st 1)) (wi (s16 - (1 : Int))).toNat)).bind fun y24 =>
      bif (Op.bytesLess y23.toList y24.toList) then
        rec1 s14 s15 (wi (s16 - (1 : Int))) s17 s18 s19 s20 s21 s22
      else k1_e2 s14 s15 s16 s17 s18 s19 s20 s21 s22
    else none
  else k1_e2 s14 s15 s16 s17 s18 s19 s20 s21 s22
def f35.s1 {R : Type} (L N : Nat) (self35 : Tree → Option (Tree × Bool)) (k1_e2 : LT → Int → Int → Int → Int → Int → Int → LS → LT → Option R) (rec1 : LT → Int → Int → Int → Int → Int → Int → LS → LT → Option R) (s14 : LT) (s15 : Int) (s16 : Int) (s17 : Int) (s18 : Int) (s19 : Int) (s20 : Int) (s21 : LS) (s22 : LT) : Option R :=
  f35.s1' L N self35 k1_e2 rec1 s14 s15 s16 s17 s18 s19 s20 s21 s22
def f35.l1 {R : Type} (L N : Nat) (self35 : Tree → Option (Tree × Bool)) (k1_e2 : LT → Int → Int → Int → Int → Int → Int → LS → LT → Option R) : Nat → LT → Int → Int → Int → Int → Int → Int → LS → LT → Option R
  | 0, _, _, _, _, _, _, _, _, _ => none
  | n + 1, s14, s15, s16, s17, s18, s19, s20, s21, s22 => f35.s1 L N self35 k1_e2 (f35.l1 L N self35 k1_e2 n) s14 s15 s16 s17 s18 s19 s20 s21 s22
def f35.T1 (s14 : LT) (s15 : Int) (s16 : Int) (s17 : Int) (s18 : Int) (s19 : Int) (s20 : Int) (s21 : LS) (s22 : LT) : T := mkT 89 [(2, (.ptr 1002 0)), (4, (.row 1013)), (5, (.tv (.sl (.st 1)) s14)), (6, (.tv i64 s15)), (9, (.ptr 1009 0)), (10, (.tv i64 s16))]
def f35.H1 (s14 : LT) (s15 : Int) (s16 : Int) (s17 : Int) (s18 : Int) (s19 : Int) (s20 : Int) (s21 : LS) (s22 : LT) : H := [(1002, (.box [(.tv i64 s17), (.tv i64 s18), .nil])), (1009, (.box [(.tv i64 s19), (.tv i64 s20), (.row 1039)])), (1013, (.row 66 (.st 3) s21)), (1039, (.row 29 (.st 1) s22))]
def f35.T1_e2 (z35 : LT) (z36 : Int) (z37 : Int) (z38 : Int) (z39 : Int) (z40 : Int) (z41 : Int) (z42 : LS) (z43 : LT) : T := mkT 89 [(2, (.ptr 1002 0)), (4, (.row 1013)), (5, (.tv (.sl (.st 1)) z35)), (6, (.tv i64 z36)), (9, (.ptr 1009 0)), (10, (.tv i64 z37))]
def f35.H1_e2 (z35 : LT) (z36 : Int) (z37 : Int) (z38 : Int) (z39 : Int) (z40 : Int) (z41 : Int) (z42 : LS) (z43 : LT) : H := [(1002, (.box [(.tv i64 z38), (.tv i64 z39), .nil])), (1009, (.box [(.tv i64 z40), (.tv i64 z41), (.row 1039)])), (1013, (.row 66 (.st 3) z42)), (1039, (.row 29 (.st 1) z43))]
def f35.j0' {R : Type} (L N : Nat) (self35 : Tree → Option (Tree × Bool)) (k0_e0 : LT → Int → Int → Option R) (k0_r : Bool → LT → Int → Int → Option R) (rec0 : LT → Int → Int → Int → LS → Option R) (v65 : LT) (v66 : Int) (v67 : Int) (v68 : Int) (v69 : Int) (v70 : Int) (v71 : Int) (v72 : LS) (v73 : LT) : Option R :=
  bif (slB (0 : Int) v67 v65.length) then
    bif (decide (([] : LT).length + (slX v65 (0 : Int) v67).length ≤ lim)) then
      bif (decide ((([] : LT) ++ (slX v65 (0 : Int) v67)).length + ([(Tree.mk v70 v71 v73)] : LT).length ≤ lim)) then
        bif (slB v67 (v65.length : Int) v65.length) then
          bif (decide (((([] : LT) ++ (slX v65 (0 : Int) v67)) ++ ([(Tree.mk v70 v71 v73)] : LT)).length + (slX v65 v67 (v65.length : Int)).length ≤ lim)) then
            rec0 (((([] : LT) ++ (slX v65 (0 : Int) v67)) ++ ([(Tree.mk v70 v71 v73)] : LT)) ++ (slX v65 v67 (v65.length : Int))) (wi (v66 + (1 : Int))) v68 v69 v72
          else none
        else none
      else none
    else none
  else none
def f35.p1_e2' {R : Type} (L N : Nat) (self35 : Tree → Option (Tree × Bool)) (k0_e0 : LT → Int → Int → Option R) (k0_r : Bool → LT → Int → Int → Option R) (rec0 : LT → Int → Int → Int → LS → Option R) (z35 : LT) (z36 : Int) (z37 : Int) (z38 : Int) (z39 : Int) (z40 : Int) (z41 : Int) (z42 : LS) (z43 : LT) : Option R :=
  bif (decide (z37 > (0 : Int))) then
    (f32 L N N (Tree.mk z40 z41 z43)).bind fun y53 =>
    bif (decide (0 ≤ (wi (z37 - (1 : Int)))) && decide ((wi (z37 - (1 : Int))) < (z35.length : Int))) then
      (f32 L N N (listAt z35 (Ty.dflt (.st 1)) (wi (z37 - (1 : Int))).toNat)).bind fun y54 =>
      bif (y53.toList == y54.toList) then
        rec0 z35 (wi (z36 + (1 : Int))) z38 z39 z42
      else f35.j0' L N self35 k0_e0 k0_r rec0 z35 z36 z37 z38 z39 z40 z41 z42 z43
    else none
  else f35.j0' L N self35 k0_e0 k0_r rec0 z35 z36 z37 z38 z39 z40 z41 z42 z43
def f35.p1_e2 {R : Type} (L N : Nat) (self35 : Tree → Option (Tree × Bool)) (k0_e0 : LT → Int → Int → Option R) (k0_r : Bool → LT → Int → Int → Option R) (rec0 : LT → Int → Int → Int → LS → Option R) (z35 : LT) (z36 : Int) (z37 : Int) (z38 : Int) (z39 : Int) (z40 : Int) (z41 : Int) (z42 : LS) (z43 : LT) : Option R :=
  f35.p1_e2' L N self35 k0_e0 k0_r rec0 z35 z36 z37 z38 z39 z40 z41 z42 z43
def f35.s0' {R : Type} (L N : Nat) (self35 : Tree → Option (Tree × Bool)) (k0_e0 : LT → Int → Int → Option R) (k0_r : Bool → LT → Int → Int → Option R) (rec0 : LT → Int → Int → Int → LS → Option R) (w1 : LT → Int → Int → Int → Int → Int → Int → LS → LT → Option R) (s1 : LT) (s2 : Int) (s3 : Int) (s4 : Int) (s5 : LS) : Option R :=
  bif (decide (s2 < (s5.length : Int))) then
    bif (decide (0 ≤ s2) && decide (s2 < (s5.length : Int))) then
      (self35 (Tree.mk ((listAt s5 (Ty.dflt (.st 3)) s2.toNat).thn.op) ((listAt s5 (Ty.dflt (.st 3)) s2.toNat).thn.n) ((listAt s5 (Ty.dflt (.st 3)) s2.toNat).thn.parts))).bind fun y9 =>
      bif (!y9.2) then
        k0_r false s1 (0 : Int) (0 : Int)
      else bif (decide (0 ≤ s2) && decide (s2 < (s5.length : Int))) then
        w1 s1 s2 (s1.length : Int) s3 s4 (1 : Int) ((listAt s5 (Ty.dflt (.st 3)) s2.toNat).act) s5 ([(Tree.mk y9.1.op y9.1.n y9.1.parts)] : LT)
      else none
    else none
  else k0_e0 s1 s3 s4
def f35.s0 {R : Type} (L N : Nat) (self35 : Tree → Option (Tree × Bool)) (k0_e0 : LT → Int → Int → Option R) (k0_r : Bool → LT → Int → Int → Option R) (rec0 : LT → Int → Int → Int → LS → Option R) (s1 : LT) (s2 : Int) (s3 : Int) (s4 : Int) (s5 : LS) : Option R :=
  f35.s0' L N self35 k0_e0 k0_r rec0 (fun s14 s15 s16 s17 s18 s19 s20 s21 s22 => f35.l1 L N self35 (fun z35 z36 z37 z38 z39 z40 z41 z42 z43 => f35.p1_e2 L N self35 k0_e0 k0_r rec0 z35 z36 z37 z38 z39 z40 z41 z42 z43) L s14 s15 s16 s17 s18 s19 s20 s21 s22) s1 s2 s3 s4 s5
def f35.l0 {R : Type} (L N : Nat) (self35 : Tree → Option (Tree × Bool)) (k0_e0 : LT → Int → Int → Option R) (k0_r : Bool → LT → Int → Int → Option R) : Nat → LT → Int → Int → Int → LS → Option R
  | 0, _, _, _, _, _ => none
  | n + 1, s1, s2, s3, s4, s5 => f35.s0 L N self35 k0_e0 k0_r (f35.l0 L N self35 k0_e0 k0_r n) s1 s2 s3 s4 s5
def f35.T0 (s1 : LT) (s2 : Int) (s3 : Int) (s4 : Int) (s5 : LS) : T := mkT 89 [(2, (.ptr 1002 0)), (4, (.row 1013)), (5, (.tv (.sl (.st 1)) s1)), (6, (.tv i64 s2))]
def f35.H0 (s1 : LT) (s2 : Int) (s3 : Int) (s4 : Int) (s5 : LS) : H := [(1002, (.box [(.tv i64 s3), (.tv i64 s4), .nil])), (1013, (.row 66 (.st 3) s5))]
def f35.T0_e0 (z6 : LT) (z7 : Int) (z8 : Int) : T := mkT 89 [(2, (.ptr 1002 0)), (5, (.tv (.sl (.st 1)) z6))]
def f35.H0_e0 (z6 : LT) (z7 : Int) (z8 : Int) : H := [(1002, (.box [(.tv i64 z7), (.tv i64 z8), .nil]))]
def f35.T0_r (z10 : Bool) (z11 : LT) (z12 : Int) (z13 : Int) : T := mkT 89 [(2, (.ptr 1002 0)), (3, (.tv .bool z10)), (5, (.tv (.sl (.st 1)) z11))]
def f35.H0_r (z10 : Bool) (z11 : LT) (z12 : Int) (z13 : Int) : H := [(1002, (.box [(.tv i64 z12), (.tv i64 z13), .nil]))]
def f35.p0_e0' {R : Type} (L N : Nat) (self35 : Tree → Option (Tree × Bool)) (k : Tree → Bool → Option R) (z6 : LT) (z7 : Int) (z8 : Int) : Option R :=
  (f54 L N z6).bind fun y79 =>
  (f38 L N N (Tree.mk y79.op y79.n y79.parts)).bind fun y80 =>
  k (Tree.mk ((Tree.mk y79.op y79.n y79.parts).op) ((Tree.mk y79.op y79.n y79.parts).n) ((Tree.mk y79.op y79.n y79.parts).parts)) (decide (y80 ≤ (24 : Int)))
def f35.p0_e0 {R : Type} (L N : Nat) (self35 : Tree → Option (Tree × Bool)) (k : Tree → Bool → Option R) (z6 : LT) (z7 : Int) (z8 : Int) : Option R :=
  f35.p0_e0' L N self35 k z6 z7 z8
def f35.p0_r' {R : Type} (L N : Nat) (self35 : Tree → Option (Tree × Bool)) (k : Tree → Bool → Option R) (z10 : Bool) (z11 : LT) (z12 : Int) (z13 : Int) : Option R :=
  k (Tree.mk z12 z13 []) z10
def f35.p0_r {R : Type} (L N : Nat) (self35 : Tree → Option (Tree × Bool)) (k : Tree → Bool → Option R) (z10 : Bool) (z11 : LT) (z12 : Int) (z13 : Int) : Option R :=
  f35.p0_r' L N self35 k z10 z11 z12 z13
def f35.b' {R : Type} (L N : Nat) (self35 : Tree → Option (Tree × Bool)) (k : Tree → Bool → Option R) (w0 : LT → Int → Int → Int → LS → Option R) (x0 : Tree) : Option R :=
  (f53 L N N (Tree.mk x0.op x0.n x0.parts) []).bind fun y0 =>
  w0 ([] : LT) (0 : Int) (0 : Int) (0 : Int) y0
def f35.b {R : Type} (L N : Nat) (self35 : Tree → Option (Tree × Bool)) (k : Tree → Bool → Option R) (x0 : Tree) : Option R :=
  f35.b' L N self35 k (fun s1 s2 s3 s4 s5 => f35.l0 L N self35 (fun z6 z7 z8 => f35.p0_e0 L N self35 k z6 z7 z8) (fun z10 z11 z12 z13 => f35.p0_r L N self35 k z10 z11 z12 z13) L s1 s2 s3 s4 s5) x0
def f35 (L N : Nat) : Nat → Tree → Option (Tree × Bool)
  | 0, _ => none
  | n + 1, x0 => f35.b L N (f35 L N n) (fun a0 a1 => some (a0, a1)) x0
def f35.ent (L N m : Nat) := entDa [(.st 1)] (.many [(.st 1), .bool]) fun d => f35 L N m d.1
def Φ35s (L N m : Nat) : Tells := (addT (Φ54 L N) 35 (f35.ent L N m))
noncomputable def E35 (L N m : Nat) : Env := { P := Tryd.prog, ty := tyOf, Φ := Φ35s L N m, inl := inlT, live := lives, liveX := livesX, L := L, dp := none, prom := promT, heal := healT, ren := renT, fresh := fun s => Nat.beq s 1075 || Nat.beq s 1078 || Nat.beq s 1082, cold := fun s => Nat.beq s 1014 || Nat.beq s 1082 }
noncomputable def f35.c0 : Code := loopAt 0 (codeOf Tryd.f35)
noncomputable def f35.c1 : Code := loopAt 2 f35.c0
def f35.X1_e2 {R : Type} (κ : KX R) := fun z35 z36 z37 z38 z39 z40 z41 z42 z43 => κ (.exit 2) (f35.T1_e2 z35 z36 z37 z38 z39 z40 z41 z42 z43) (f35.H1_e2 z35 z36 z37 z38 z39 z40 z41 z42 z43)
def f35.R1 {R : Type} (rec : KT R) := fun s14 s15 s16 s17 s18 s19 s20 s21 s22 => rec (f35.T1 s14 s15 s16 s17 s18 s19 s20 s21 s22) (f35.H1 s14 s15 s16 s17 s18 s19 s20 s21 s22)
theorem f35.s1_eq {R : Type} (L N m : Nat) (κ : KX R) (rec : KT R) (s14 : LT) (s15 : Int) (s16 : Int) (s17 : Int) (s18 : Int) (s19 : Int) (s20 : Int) (s21 : LS) (s22 : LT) :
    evRd (E35 L N m) (evCallI (E35 L N m) 1 2000) 1000 35 89 2 f35.c1 κ rec (f35.T1 s14 s15 s16 s17 s18 s19 s20 s21 s22) (f35.H1 s14 s15 s16 s17 s18 s19 s20 s21 s22)
    = f35.s1 L N (f35 L N m) (f35.X1_e2 κ) (f35.R1 rec) s14 s15 s16 s17 s18 s19 s20 s21 s22 := by kernel_rfl
theorem f35.l1_eq {R : Type} (L N m : Nat) (κ : KX R) : ∀ (n : Nat) (s14 : LT) (s15 : Int) (s16 : Int) (s17 : Int) (s18 : Int) (s19 : Int) (s20 : Int) (s21 : LS) (s22 : LT),
    evLp (E35 L N m) (evCallI (E35 L N m) 1 2000) 1000 35 89 2 f35.c1 κ n (f35.T1 s14 s15 s16 s17 s18 s19 s20 s21 s22) (f35.H1 s14 s15 s16 s17 s18 s19 s20 s21 s22)
    = f35.l1 L N (f35 L N m) (f35.X1_e2 κ) n s14 s15 s16 s17 s18 s19 s20 s21 s22 := by
  intro n
  induction n with
  | zero => intros; rfl
  | succ n ih =>
    intro s14 s15 s16 s17 s18 s19 s20 s21 s22
    rw [evLp_succ, f35.s1_eq]
    delta f35.R1
    simp only [ih]
    rfl
def f35.X0_e0 {R : Type} (κ : KX R) := fun z6 z7 z8 => κ (.exit 0) (f35.T0_e0 z6 z7 z8) (f35.H0_e0 z6 z7 z8)
def f35.X0_r {R : Type} (κ : KX R) := fun z10 z11 z12 z13 => κ .ret (f35.T0_r z10 z11 z12 z13) (f35.H0_r z10 z11 z12 z13)
def f35.R0 {R : Type} (rec : KT R) := fun s1 s2 s3 s4 s5 => rec (f35.T0 s1 s2 s3 s4 s5) (f35.H0 s1 s2 s3 s4 s5)
theorem f35.p1_e2_eq {R : Type} (L N m : Nat) (κ : KX R) (rec : KT R) (z35 : LT) (z36 : Int) (z37 : Int) (z38 : Int) (z39 : Int) (z40 : Int) (z41 : Int) (z42 : LS) (z43 : LT) :
    (contAt (E35 L N m) (evCallI (E35 L N m) 1 2000) 1000 35 89 2 f35.c0 (rdK (E35 L N m) 1000 35 89 0 κ rec)) (.exit 2) (f35.T1_e2 z35 z36 z37 z38 z39 z40 z41 z42 z43) (f35.H1_e2 z35 z36 z37 z38 z39 z40 z41 z42 z43)
    = f35.p1_e2 L N (f35 L N m) (f35.X0_e0 κ) (f35.X0_r κ) (f35.R0 rec) z35 z36 z37 z38 z39 z40 z41 z42 z43 := by kernel_rfl
theorem f35.s0_eq {R : Type} (L N m : Nat) (κ : KX R) (rec : KT R) (s1 : LT) (s2 : Int) (s3 : Int) (s4 : Int) (s5 : LS) :
    evRd (E35 L N m) (evCallI (E35 L N m) 1 2000) 1000 35 89 0 f35.c0 κ rec (f35.T0 s1 s2 s3 s4 s5) (f35.H0 s1 s2 s3 s4 s5)
    = f35.s0 L N (f35 L N m) (f35.X0_e0 κ) (f35.X0_r κ) (f35.R0 rec) s1 s2 s3 s4 s5 := by
  refine Eq.trans (b := f35.s0' L N (f35 L N m) (f35.X0_e0 κ) (f35.X0_r κ) (f35.R0 rec) (fun s14 s15 s16 s17 s18 s19 s20 s21 s22 => evLp (E35 L N m) (evCallI (E35 L N m) 1 2000) 1000 35 89 2 f35.c1 (contAt (E35 L N m) (evCallI (E35 L N m) 1 2000) 1000 35 89 2 f35.c0 (rdK (E35 L N m) 1000 35 89 0 κ rec)) L (f35.T1 s14 s15 s16 s17 s18 s19 s20 s21 s22) (f35.H1 s14 s15 s16 s17 s18 s19 s20 s21 s22)) s1 s2 s3 s4 s5) (by kernel_rfl) ?_
  unfold f35.s0
  simp only [f35.l1_eq]
  delta f35.X1_e2
  simp only [f35.p1_e2_eq]
theorem f35.l0_eq {R : Type} (L N m : Nat) (κ : KX R) : ∀ (n : Nat) (s1 : LT) (s2 : Int) (s3 : Int) (s4 : Int) (s5 : LS),
    evLp (E35 L N m) (evCallI (E35 L N m) 1 2000) 1000 35 89 0 f35.c0 κ n (f35.T0 s1 s2 s3 s4 s5) (f35.H0 s1 s2 s3 s4 s5)
    = f35.l0 L N (f35 L N m) (f35.X0_e0 κ) (f35.X0_r κ) n s1 s2 s3 s4 s5 := by
  intro n
  induction n with
  | zero => intros; rfl
  | succ n ih =>
    intro s1 s2 s3 s4 s5
    rw [evLp_succ, f35.s0_eq]
    delta f35.R0
    simp only [ih]
    rfl
theorem f35.p0_e0_eq {R : Type} (L N m : Nat) (κ : AV → Option R) (z6 : LT) (z7 : Int) (z8 : Int) :
    (contAt (E35 L N m) (evCallI (E35 L N m) 1 2000) 1000 35 89 0 (codeOf Tryd.f35) (finK (E35 L N m) 1000 Tryd.f35 (finC (.many [(.st 1), .bool]) κ))) (.exit 0) (f35.T0_e0 z6 z7 z8) (f35.H0_e0 z6 z7 z8)
    = f35.p0_e0 L N (f35 L N m) (fun a0 a1 => κ (.tup [(.tv (.st 1) a0), (.tv .bool a1)])) z6 z7 z8 := by kernel_rfl
theorem f35.p0_r_eq {R : Type} (L N m : Nat) (κ : AV → Option R) (z10 : Bool) (z11 : LT) (z12 : Int) (z13 : Int) :
    (contAt (E35 L N m) (evCallI (E35 L N m) 1 2000) 1000 35 89 0 (codeOf Tryd.f35) (finK (E35 L N m) 1000 Tryd.f35 (finC (.many [(.st 1), .bool]) κ))) .ret (f35.T0_r z10 z11 z12 z13) (f35.H0_r z10 z11 z12 z13)
    = f35.p0_r L N (f35 L N m) (fun a0 a1 => κ (.tup [(.tv (.st 1) a0), (.tv .bool a1)])) z10 z11 z12 z13 := by kernel_rfl
theorem f35.b_eq {R : Type} (L N m : Nat) (κ : AV → Option R) (x0 : Tree) :
    evBody (E35 L N m) (evCallI (E35 L N m) 1 2000) 1000 35 Tryd.f35 [(.tv (.st 1) x0)] [] [] (finC (.many [(.st 1), .bool]) κ)
    = f35.b L N (f35 L N m) (fun a0 a1 => κ (.tup [(.tv (.st 1) a0), (.tv .bool a1)])) x0 := by
  refine Eq.trans (b := f35.b' L N (f35 L N m) (fun a0 a1 => κ (.tup [(.tv (.st 1) a0), (.tv .bool a1)])) (fun s1 s2 s3 s4 s5 => evLp (E35 L N m) (evCallI (E35 L N m) 1 2000) 1000 35 89 0 f35.c0 (contAt (E35 L N m) (evCallI (E35 L N m) 1 2000) 1000 35 89 0 (codeOf Tryd.f35) (finK (E35 L N m) 1000 Tryd.f35 (finC (.many [(.st 1), .bool]) κ))) L (f35.T0 s1 s2 s3 s4 s5) (f35.H0 s1 s2 s3 s4 s5)) x0) (by kernel_rfl) ?_
  unfold f35.b
  simp only [f35.l0_eq]
  delta f35.X0_e0 f35.X0_r
  simp only [f35.p0_e0_eq, f35.p0_r_eq]
theorem f35.ok (L N m : Nat) (hΦ : TellsOk Tryd.prog (Φ35s L N m)) : EntOk Tryd.prog 35 (f35.ent L N (m + 1)) := entDa_ok (E := (E35 L N m)) (dep := 1000) (f := Tryd.f35) (sound_of hΦ) okP (callI_sound (sound_of hΦ) okP 1 2000) rfl fun d _ hy => (f35.b_eq L N m (unR (.many [(.st 1), .bool])) d.1).trans (Eq.trans (b := f35.b L N (f35 L N m) (fun a0 a1 => some (a0, a1)) d.1) (by kernel_rfl) hy)
theorem Φ35s_ok (L N : Nat) : ∀ m, TellsOk Tryd.prog (Φ35s L N m) := by
  intro m
  induction m with
  | zero => exact (addT_ok (Φ54_ok L N) (entDa_no fun _ => rfl))
  | succ m ih => exact (addT_ok (Φ54_ok L N) (f35.ok L N m ih))
def Φ35 (L N : Nat) : Tells := (addT (Φ54 L N) 35 (f35.ent L N N))
theorem Φ35_ok (L N : Nat) : TellsOk Tryd.prog (Φ35 L N) := Φ35s_ok L N N
def f18.j0' {R : Type} (L N : Nat) (k : Tree → Bool → Option R) (v8 : Int) (v9 : Int) (v10 : LT) (v11 : Int) (v12 : Int) : Option R :=
  (f35 L N N (Tree.mk v8 v9 v10)).bind fun y13 =>
  bif (!y13.2) then
    k (Tree.mk (0 : Int) (0 : Int) []) false
  else (f24 L N (Tree.mk y13.1.op y13.1.n y13.1.parts)).bind fun y14 =>
  k (Tree.mk y14.op y14.n y14.parts) true
def f18.b' {R : Type} (L N : Nat) (k : Tree → Bool → Option R) (x0 : Tree) : Option R :=
  (f21 L N (Tree.mk x0.op x0.n x0.parts)).bind fun y0 =>
  bif (!y0) then
    k (Tree.mk (0 : Int) (0 : Int) []) false
  else (f34 L N (Tree.mk x0.op x0.n x0.parts)).bind fun y1 =>
  bif (!y1) then
    k (Tree.mk (0 : Int) (0 : Int) []) false
  else f18.j0' L N k x0.op x0.n x0.parts (0 : Int) (0 : Int)
def f18.b {R : Type} (L N : Nat) (k : Tree → Bool → Option R) (x0 : Tree) : Option R :=
  f18.b' L N k x0
def f18 (L N : Nat) (x0 : Tree) : Option (Tree × Bool) := f18.b L N (fun a0 a1 => some (a0, a1)) x0
def f18.ent (L N : Nat) := entDa [(.st 1)] (.many [(.st 1), .bool]) fun d => f18 L N d.1
noncomputable def E18 (L N : Nat) : Env := { P := Tryd.prog, ty := tyOf, Φ := (Φ35 L N), inl := inlT, live := lives, liveX := livesX, L := L, dp := none, prom := promT, heal := healT, ren := renT }
theorem f18.b_eq {R : Type} (L N : Nat) (κ : AV → Option R) (x0 : Tree) :
    evBody (E18 L N) (evCallI (E18 L N) 1 2000) 1000 18 Tryd.f18 [(.tv (.st 1) x0)] [] [] (finC (.many [(.st 1), .bool]) κ)
    = f18.b L N (fun a0 a1 => κ (.tup [(.tv (.st 1) a0), (.tv .bool a1)])) x0 := by kernel_rfl
theorem f18.ok (L N : Nat) (hΦ : TellsOk Tryd.prog ((Φ35 L N))) : EntOk Tryd.prog 18 (f18.ent L N) := entDa_ok (E := (E18 L N)) (dep := 1000) (f := Tryd.f18) (sound_of hΦ) okP (callI_sound (sound_of hΦ) okP 1 2000) rfl fun d _ hy => (f18.b_eq L N (unR (.many [(.st 1), .bool])) d.1).trans (Eq.trans (b := f18.b L N (fun a0 a1 => some (a0, a1)) d.1) (by kernel_rfl) hy)
def Φ18 (L N : Nat) : Tells := (addT (Φ35 L N) 18 (f18.ent L N))
theorem Φ18_ok (L N : Nat) : TellsOk Tryd.prog (Φ18 L N) := addT_ok (Φ35_ok L N) (f18.ok L N (Φ35_ok L N))
def f16.b' {R : Type} (L N : Nat) (k : Bool → Bool → Option R) (x0 : Tree) (x1 : Tree) : Option R :=
  (f18 L N (Tree.mk x0.op x0.n x0.parts)).bind fun y0 =>
  (f18 L N (Tree.mk x1.op x1.n x1.parts)).bind fun y1 =>
  bif (!y0.2) then
    k false false
  else bif (!y1.2) then
    k false false
  else (f32 L N N (Tree.mk y0.1.op y0.1.n y0.1.parts)).bind fun y19 =>
  (f32 L N N (Tree.mk y1.1.op y1.1.n y1.1.parts)).bind fun y20 =>
  k (y19.toList == y20.toList) true
def f16.b {R : Type} (L N : Nat) (k : Bool → Bool → Option R) (x0 : Tree) (x1 : Tree) : Option R :=
  f16.b' L N k x0 x1
def f16 (L N : Nat) (x0 : Tree) (x1 : Tree) : Option (Bool × Bool) := f16.b L N (fun a0 a1 => some (a0, a1)) x0 x1
def f16.ent (L N : Nat) := entRo [(.st 1), (.st 1)] (.many [.bool, .bool]) fun d => f16 L N d.1 d.2.1
noncomputable def E16 (L N : Nat) : Env := { P := Tryd.prog, ty := tyOf, Φ := (Φ18 L N), inl := inlT, live := lives, liveX := livesX, L := L, dp := none, prom := promT, heal := healT, ren := renT }
theorem f16.b_eq {R : Type} (L N : Nat) (κ : AV → Option R) (x0 : Tree) (x1 : Tree) :
    evBody (E16 L N) (evCallI (E16 L N) 1 2000) 1000 16 Tryd.f16 [(.tv (.st 1) x0), (.tv (.st 1) x1)] [] [] (finC (.many [.bool, .bool]) κ)
    = f16.b L N (fun a0 a1 => κ (.tup [(.tv .bool a0), (.tv .bool a1)])) x0 x1 := by kernel_rfl
theorem f16.ok (L N : Nat) (hΦ : TellsOk Tryd.prog ((Φ18 L N))) : EntOk Tryd.prog 16 (f16.ent L N) := entRo_ok (E := (E16 L N)) (dep := 1000) (f := Tryd.f16) (sound_of hΦ) okP (callI_sound (sound_of hΦ) okP 1 2000) rfl rfl fun d _ hy => (f16.b_eq L N (unR (.many [.bool, .bool])) d.1 d.2.1).trans (Eq.trans (b := f16.b L N (fun a0 a1 => some (a0, a1)) d.1 d.2.1) (by kernel_rfl) hy)
def Φ16 (L N : Nat) : Tells := (addT (Φ18 L N) 16 (f16.ent L N))
theorem Φ16_ok (L N : Nat) : TellsOk Tryd.prog (Φ16 L N) := addT_ok (Φ18_ok L N) (f16.ok L N (Φ18_ok L N))
def f42.s0' {R : Type} (L N : Nat) (self42 : Tree → Int → Option (Int)) (k0_e0 : Int → Option R) (k0_r : Int → Int → Option R) (rec0 : Int → Int → LT → Int → Int → Option R) (s0 : Int) (s1 : Int) (s2 : LT) (s3 : Int) (s4 : Int) : Option R :=
  bif (decide (s4 < s3)) then
    bif (decide (0 ≤ s4) && decide (s4 < (s2.length : Int))) then
      bif (decide (s1 > s0)) then
        k0_r s1 s1
      else (self42 (Tree.mk ((listAt s2 (Ty.dflt (.st 1)) s4.toNat).op) ((listAt s2 (Ty.dflt (.st 1)) s4.toNat).n) ((listAt s2 (Ty.dflt (.st 1)) s4.toNat).parts)) (wi (s0 - s1))).bind fun y8 =>
      rec0 s0 (wi (s1 + y8)) s2 s3 (wi (s4 + (1 : Int)))
    else none
  else k0_e0 s1
def f42.s0 {R : Type} (L N : Nat) (self42 : Tree → Int → Option (Int)) (k0_e0 : Int → Option R) (k0_r : Int → Int → Option R) (rec0 : Int → Int → LT → Int → Int → Option R) (s0 : Int) (s1 : Int) (s2 : LT) (s3 : Int) (s4 : Int) : Option R :=
  f42.s0' L N self42 k0_e0 k0_r rec0 s0 s1 s2 s3 s4
def f42.l0 {R : Type} (L N : Nat) (self42 : Tree → Int → Option (Int)) (k0_e0 : Int → Option R) (k0_r : Int → Int → Option R) : Nat → Int → Int → LT → Int → Int → Option R
  | 0, _, _, _, _, _ => none
  | n + 1, s0, s1, s2, s3, s4 => f42.s0 L N self42 k0_e0 k0_r (f42.l0 L N self42 k0_e0 k0_r n) s0 s1 s2 s3 s4
def f42.T0 (s0 : Int) (s1 : Int) (s2 : LT) (s3 : Int) (s4 : Int) : T := mkT 28 [(1, (.tv i64 s0)), (5, (.tv i64 s1)), (9, (.tv (.sl (.st 1)) s2)), (10, (.tv i64 s3)), (11, (.tv i64 s4))]
def f42.H0 (s0 : Int) (s1 : Int) (s2 : LT) (s3 : Int) (s4 : Int) : H := []
def f42.T0_e0 (z5 : Int) : T := mkT 28 [(5, (.tv i64 z5))]
def f42.H0_e0 (z5 : Int) : H := []
def f42.T0_r (z6 : Int) (z7 : Int) : T := mkT 28 [(4, (.tv i64 z6)), (5, (.tv i64 z7))]
def f42.H0_r (z6 : Int) (z7 : Int) : H := []
def f42.p0_e0' {R : Type} (L N : Nat) (self42 : Tree → Int → Option (Int)) (k : Int → Option R) (z5 : Int) : Option R :=
  k z5
def f42.p0_e0 {R : Type} (L N : Nat) (self42 : Tree → Int → Option (Int)) (k : Int → Option R) (z5 : Int) : Option R :=
  f42.p0_e0' L N self42 k z5
def f42.p0_r' {R : Type} (L N : Nat) (self42 : Tree → Int → Option (Int)) (k : Int → Option R) (z6 : Int) (z7 : Int) : Option R :=
  k z6
def f42.p0_r {R : Type} (L N : Nat) (self42 : Tree → Int → Option (Int)) (k : Int → Option R) (z6 : Int) (z7 : Int) : Option R :=
  f42.p0_r' L N self42 k z6 z7
def f42.b' {R : Type} (L N : Nat) (self42 : Tree → Int → Option (Int)) (k : Int → Option R) (w0 : Int → Int → LT → Int → Int → Option R) (x0 : Tree) (x1 : Int) : Option R :=
  w0 x1 (1 : Int) x0.parts (x0.parts.length : Int) (0 : Int)
def f42.b {R : Type} (L N : Nat) (self42 : Tree → Int → Option (Int)) (k : Int → Option R) (x0 : Tree) (x1 : Int) : Option R :=
  f42.b' L N self42 k (fun s0 s1 s2 s3 s4 => f42.l0 L N self42 (fun z5 => f42.p0_e0 L N self42 k z5) (fun z6 z7 => f42.p0_r L N self42 k z6 z7) L s0 s1 s2 s3 s4) x0 x1
def f42 (L N : Nat) : Nat → Tree → Int → Option (Int)
  | 0, _, _ => none
  | n + 1, x0, x1 => f42.b L N (f42 L N n) some x0 x1
def f42.ent (L N m : Nat) := entRo [(.st 1), i64] (.one i64) fun d => f42 L N m d.1 d.2.1
def Φ42s (L N m : Nat) : Tells := (addT (Φ16 L N) 42 (f42.ent L N m))
noncomputable def E42 (L N m : Nat) : Env := { P := Tryd.prog, ty := tyOf, Φ := Φ42s L N m, inl := inlT, live := lives, liveX := livesX, L := L, dp := none, prom := promT, heal := healT, ren := renT }
noncomputable def f42.c0 : Code := loopAt 0 (codeOf Tryd.f42)
def f42.X0_e0 {R : Type} (κ : KX R) := fun z5 => κ (.exit 0) (f42.T0_e0 z5) (f42.H0_e0 z5)
def f42.X0_r {R : Type} (κ : KX R) := fun z6 z7 => κ .ret (f42.T0_r z6 z7) (f42.H0_r z6 z7)
def f42.R0 {R : Type} (rec : KT R) := fun s0 s1 s2 s3 s4 => rec (f42.T0 s0 s1 s2 s3 s4) (f42.H0 s0 s1 s2 s3 s4)
theorem f42.s0_eq {R : Type} (L N m : Nat) (κ : KX R) (rec : KT R) (s0 : Int) (s1 : Int) (s2 : LT) (s3 : Int) (s4 : Int) :
    evRd (E42 L N m) (evCallI (E42 L N m) 1 2000) 1000 42 28 0 f42.c0 κ rec (f42.T0 s0 s1 s2 s3 s4) (f42.H0 s0 s1 s2 s3 s4)
    = f42.s0 L N (f42 L N m) (f42.X0_e0 κ) (f42.X0_r κ) (f42.R0 rec) s0 s1 s2 s3 s4 := by kernel_rfl
theorem f42.l0_eq {R : Type} (L N m : Nat) (κ : KX R) : ∀ (n : Nat) (s0 : Int) (s1 : Int) (s2 : LT) (s3 : Int) (s4 : Int),
    evLp (E42 L N m) (evCallI (E42 L N m) 1 2000) 1000 42 28 0 f42.c0 κ n (f42.T0 s0 s1 s2 s3 s4) (f42.H0 s0 s1 s2 s3 s4)
    = f42.l0 L N (f42 L N m) (f42.X0_e0 κ) (f42.X0_r κ) n s0 s1 s2 s3 s4 := by
  intro n
  induction n with
  | zero => intros; rfl
  | succ n ih =>
    intro s0 s1 s2 s3 s4
    rw [evLp_succ, f42.s0_eq]
    delta f42.R0
    simp only [ih]
    rfl
theorem f42.p0_e0_eq {R : Type} (L N m : Nat) (κ : AV → Option R) (z5 : Int) :
    (contAt (E42 L N m) (evCallI (E42 L N m) 1 2000) 1000 42 28 0 (codeOf Tryd.f42) (finK (E42 L N m) 1000 Tryd.f42 (finC (.one i64) κ))) (.exit 0) (f42.T0_e0 z5) (f42.H0_e0 z5)
    = f42.p0_e0 L N (f42 L N m) (fun a0 => κ (.tv i64 a0)) z5 := by kernel_rfl
theorem f42.p0_r_eq {R : Type} (L N m : Nat) (κ : AV → Option R) (z6 : Int) (z7 : Int) :
    (contAt (E42 L N m) (evCallI (E42 L N m) 1 2000) 1000 42 28 0 (codeOf Tryd.f42) (finK (E42 L N m) 1000 Tryd.f42 (finC (.one i64) κ))) .ret (f42.T0_r z6 z7) (f42.H0_r z6 z7)
    = f42.p0_r L N (f42 L N m) (fun a0 => κ (.tv i64 a0)) z6 z7 := by kernel_rfl
theorem f42.b_eq {R : Type} (L N m : Nat) (κ : AV → Option R) (x0 : Tree) (x1 : Int) :
    evBody (E42 L N m) (evCallI (E42 L N m) 1 2000) 1000 42 Tryd.f42 [(.tv (.st 1) x0), (.tv i64 x1)] [] [] (finC (.one i64) κ)
    = f42.b L N (f42 L N m) (fun a0 => κ (.tv i64 a0)) x0 x1 := by
  refine Eq.trans (b := f42.b' L N (f42 L N m) (fun a0 => κ (.tv i64 a0)) (fun s0 s1 s2 s3 s4 => evLp (E42 L N m) (evCallI (E42 L N m) 1 2000) 1000 42 28 0 f42.c0 (contAt (E42 L N m) (evCallI (E42 L N m) 1 2000) 1000 42 28 0 (codeOf Tryd.f42) (finK (E42 L N m) 1000 Tryd.f42 (finC (.one i64) κ))) L (f42.T0 s0 s1 s2 s3 s4) (f42.H0 s0 s1 s2 s3 s4)) x0 x1) (by kernel_rfl) ?_
  unfold f42.b
  simp only [f42.l0_eq]
  delta f42.X0_e0 f42.X0_r
  simp only [f42.p0_e0_eq, f42.p0_r_eq]
theorem f42.ok (L N m : Nat) (hΦ : TellsOk Tryd.prog (Φ42s L N m)) : EntOk Tryd.prog 42 (f42.ent L N (m + 1)) := entRo_ok (E := (E42 L N m)) (dep := 1000) (f := Tryd.f42) (sound_of hΦ) okP (callI_sound (sound_of hΦ) okP 1 2000) rfl rfl fun d _ hy => (f42.b_eq L N m (unR (.one i64)) d.1 d.2.1).trans (Eq.trans (b := f42.b L N (f42 L N m) some d.1 d.2.1) (by kernel_rfl) hy)
theorem Φ42s_ok (L N : Nat) : ∀ m, TellsOk Tryd.prog (Φ42s L N m) := by
  intro m
  induction m with
  | zero => exact (addT_ok (Φ16_ok L N) (entRo_no fun _ => rfl))
  | succ m ih => exact (addT_ok (Φ16_ok L N) (f42.ok L N m ih))
def Φ42 (L N : Nat) : Tells := (addT (Φ16 L N) 42 (f42.ent L N N))
theorem Φ42_ok (L N : Nat) : TellsOk Tryd.prog (Φ42 L N) := Φ42s_ok L N N
def f64.b' {R : Type} (L N : Nat) (k : Bool → Option R) (x0 : Int) : Option R :=
  bif (decide (x0 ≥ (-4 : Int))) then
    k (decide (x0 ≤ (4 : Int)))
  else k false
def f64.b {R : Type} (L N : Nat) (k : Bool → Option R) (x0 : Int) : Option R :=
  f64.b' L N k x0
def f64 (L N : Nat) (x0 : Int) : Option (Bool) := f64.b L N some x0
def f64.ent (L N : Nat) := entRo [i64] (.one .bool) fun d => f64 L N d.1
noncomputable def E64 (L N : Nat) : Env := { P := Tryd.prog, ty := tyOf, Φ := (Φ42 L N), inl := inlT, live := lives, liveX := livesX, L := L, dp := none, prom := promT, heal := healT, ren := renT }
theorem f64.b_eq {R : Type} (L N : Nat) (κ : AV → Option R) (x0 : Int) :
    evBody (E64 L N) (evCallI (E64 L N) 1 2000) 1000 64 Tryd.f64 [(.tv i64 x0)] [] [] (finC (.one .bool) κ)
    = f64.b L N (fun a0 => κ (.tv .bool a0)) x0 := by kernel_rfl
theorem f64.ok (L N : Nat) (hΦ : TellsOk Tryd.prog ((Φ42 L N))) : EntOk Tryd.prog 64 (f64.ent L N) := entRo_ok (E := (E64 L N)) (dep := 1000) (f := Tryd.f64) (sound_of hΦ) okP (callI_sound (sound_of hΦ) okP 1 2000) rfl rfl fun d _ hy => (f64.b_eq L N (unR (.one .bool)) d.1).trans (Eq.trans (b := f64.b L N some d.1) (by kernel_rfl) hy)
def Φ64 (L N : Nat) : Tells := (addT (Φ42 L N) 64 (f64.ent L N))
theorem Φ64_ok (L N : Nat) : TellsOk Tryd.prog (Φ64 L N) := addT_ok (Φ42_ok L N) (f64.ok L N (Φ42_ok L N))
def f65.b' {R : Type} (L N : Nat) (k : Bool → Option R) (x0 : Int) : Option R :=
  bif (decide (x0 ≥ (0 : Int))) then
    k (decide (x0 < (4 : Int)))
  else k false
def f65.b {R : Type} (L N : Nat) (k : Bool → Option R) (x0 : Int) : Option R :=
  f65.b' L N k x0
def f65 (L N : Nat) (x0 : Int) : Option (Bool) := f65.b L N some x0
def f65.ent (L N : Nat) := entRo [i64] (.one .bool) fun d => f65 L N d.1
noncomputable def E65 (L N : Nat) : Env := { P := Tryd.prog, ty := tyOf, Φ := (Φ64 L N), inl := inlT, live := lives, liveX := livesX, L := L, dp := none, prom := promT, heal := healT, ren := renT }
theorem f65.b_eq {R : Type} (L N : Nat) (κ : AV → Option R) (x0 : Int) :
    evBody (E65 L N) (evCallI (E65 L N) 1 2000) 1000 65 Tryd.f65 [(.tv i64 x0)] [] [] (finC (.one .bool) κ)
    = f65.b L N (fun a0 => κ (.tv .bool a0)) x0 := by kernel_rfl
theorem f65.ok (L N : Nat) (hΦ : TellsOk Tryd.prog ((Φ64 L N))) : EntOk Tryd.prog 65 (f65.ent L N) := entRo_ok (E := (E65 L N)) (dep := 1000) (f := Tryd.f65) (sound_of hΦ) okP (callI_sound (sound_of hΦ) okP 1 2000) rfl rfl fun d _ hy => (f65.b_eq L N (unR (.one .bool)) d.1).trans (Eq.trans (b := f65.b L N some d.1) (by kernel_rfl) hy)
def Φ65 (L N : Nat) : Tells := (addT (Φ64 L N) 65 (f65.ent L N))
theorem Φ65_ok (L N : Nat) : TellsOk Tryd.prog (Φ65 L N) := addT_ok (Φ64_ok L N) (f65.ok L N (Φ64_ok L N))
def f43.j1' {R : Type} (L N : Nat) (self43 : Tree → Option (Bool)) (self66 : Tree → Option (Bool)) (self55_1 : LT → Option (Bool)) (self74_1 : LT → Option (Int)) (k : Bool → Option R) (v13 : Int) (v14 : Int) (v15 : Int) (v16 : LT) : Option R :=
  bif ((v16.length : Int) == v13) then
    (self55_1 v16).bind fun y17 =>
    k (!y17)
  else k false
def f43.j0' {R : Type} (L N : Nat) (self43 : Tree → Option (Bool)) (self66 : Tree → Option (Bool)) (self55_1 : LT → Option (Bool)) (self74_1 : LT → Option (Int)) (k : Bool → Option R) (v1 : Int) (v2 : Int) (v3 : Bool) (v4 : Int) (v5 : Int) (v6 : LT) : Option R :=
  bif v3 then
    bif (v5 != (0 : Int)) then
      k false
    else f43.j1' L N self43 self66 self55_1 self74_1 k (2 : Int) v4 v5 v6
  else bif (v2 == (4 : Int)) then
    (f65 L N v5).bind fun y7 =>
    bif (!y7) then
      k false
    else f43.j1' L N self43 self66 self55_1 self74_1 k (1 : Int) v4 v5 v6
  else bif (v2 == (5 : Int)) then
    bif (decide (v5 < (0 : Int))) then
      k false
    else bif (decide (v5 ≥ (3 : Int))) then
      k false
    else f43.j1' L N self43 self66 self55_1 self74_1 k v1 v4 v5 v6
  else k false
def f43.b' {R : Type} (L N : Nat) (self43 : Tree → Option (Bool)) (self66 : Tree → Option (Bool)) (self55_1 : LT → Option (Bool)) (self74_1 : LT → Option (Int)) (k : Bool → Option R) (x0 : Tree) : Option R :=
  bif (x0.op == (0 : Int)) then
    bif (x0.n != (0 : Int)) then
      k false
    else f43.j1' L N self43 self66 self55_1 self74_1 k (0 : Int) x0.op x0.n x0.parts
  else bif (x0.op == (1 : Int)) then
    (f64 L N x0.n).bind fun y0 =>
    bif (!y0) then
      k false
    else f43.j1' L N self43 self66 self55_1 self74_1 k (1 : Int) x0.op x0.n x0.parts
  else bif (x0.op == (2 : Int)) then
    f43.j0' L N self43 self66 self55_1 self74_1 k (0 : Int) x0.op (x0.op == (2 : Int)) x0.op x0.n x0.parts
  else f43.j0' L N self43 self66 self55_1 self74_1 k (0 : Int) x0.op (x0.op == (3 : Int)) x0.op x0.n x0.parts
def f43.b {R : Type} (L N : Nat) (self43 : Tree → Option (Bool)) (self66 : Tree → Option (Bool)) (self55_1 : LT → Option (Bool)) (self74_1 : LT → Option (Int)) (k : Bool → Option R) (x0 : Tree) : Option R :=
  f43.b' L N self43 self66 self55_1 self74_1 k x0
def f66.b' {R : Type} (L N : Nat) (self43 : Tree → Option (Bool)) (self66 : Tree → Option (Bool)) (self55_1 : LT → Option (Bool)) (self74_1 : LT → Option (Int)) (k : Bool → Option R) (x0 : Tree) : Option R :=
  (self43 (Tree.mk x0.op x0.n x0.parts)).bind fun y0 =>
  k (!y0)
def f66.b {R : Type} (L N : Nat) (self43 : Tree → Option (Bool)) (self66 : Tree → Option (Bool)) (self55_1 : LT → Option (Bool)) (self74_1 : LT → Option (Int)) (k : Bool → Option R) (x0 : Tree) : Option R :=
  f66.b' L N self43 self66 self55_1 self74_1 k x0
def f55_1.b' {R : Type} (L N : Nat) (self43 : Tree → Option (Bool)) (self66 : Tree → Option (Bool)) (self55_1 : LT → Option (Bool)) (self74_1 : LT → Option (Int)) (k : Bool → Option R) (x0 : LT) : Option R :=
  (self74_1 x0).bind fun y0 =>
  k (decide (y0 ≥ (0 : Int)))
def f55_1.b {R : Type} (L N : Nat) (self43 : Tree → Option (Bool)) (self66 : Tree → Option (Bool)) (self55_1 : LT → Option (Bool)) (self74_1 : LT → Option (Int)) (k : Bool → Option R) (x0 : LT) : Option R :=
  f55_1.b' L N self43 self66 self55_1 self74_1 k x0
def f74_1.s0' {R : Type} (L N : Nat) (self43 : Tree → Option (Bool)) (self66 : Tree → Option (Bool)) (self55_1 : LT → Option (Bool)) (self74_1 : LT → Option (Int)) (k0_e0 : Option R) (k0_r : Int → Option R) (rec0 : LT → Int → Int → Option R) (s0 : LT) (s1 : Int) (s2 : Int) : Option R :=
  bif (decide (s2 < s1)) then
    bif (decide (0 ≤ s2) && decide (s2 < (s0.length : Int))) then
      (self66 (listAt s0 (Ty.dflt (.st 1)) s2.toNat)).bind fun y3 =>
      bif y3 then
        k0_r s2
      else rec0 s0 s1 (wi (s2 + (1 : Int)))
    else none
  else k0_e0
def f74_1.s0 {R : Type} (L N : Nat) (self43 : Tree → Option (Bool)) (self66 : Tree → Option (Bool)) (self55_1 : LT → Option (Bool)) (self74_1 : LT → Option (Int)) (k0_e0 : Option R) (k0_r : Int → Option R) (rec0 : LT → Int → Int → Option R) (s0 : LT) (s1 : Int) (s2 : Int) : Option R :=
  f74_1.s0' L N self43 self66 self55_1 self74_1 k0_e0 k0_r rec0 s0 s1 s2
def f74_1.l0 {R : Type} (L N : Nat) (self43 : Tree → Option (Bool)) (self66 : Tree → Option (Bool)) (self55_1 : LT → Option (Bool)) (self74_1 : LT → Option (Int)) (k0_e0 : Option R) (k0_r : Int → Option R) : Nat → LT → Int → Int → Option R
  | 0, _, _, _ => none
  | n + 1, s0, s1, s2 => f74_1.s0 L N self43 self66 self55_1 self74_1 k0_e0 k0_r (f74_1.l0 L N self43 self66 self55_1 self74_1 k0_e0 k0_r n) s0 s1 s2
def f74_1.T0 (s0 : LT) (s1 : Int) (s2 : Int) : T := mkT 19 [(0, (.tv (.sl (.st 1)) s0)), (1, (.fn 66 [])), (7, (.tv i64 s1)), (8, (.tv i64 s2))]
def f74_1.H0 (s0 : LT) (s1 : Int) (s2 : Int) : H := []
def f74_1.T0_e0 : T := mkT 19 []
def f74_1.H0_e0 : H := []
def f74_1.T0_r (z4 : Int) : T := mkT 19 [(4, (.tv i64 z4))]
def f74_1.H0_r (z4 : Int) : H := []
def f74_1.p0_e0' {R : Type} (L N : Nat) (self43 : Tree → Option (Bool)) (self66 : Tree → Option (Bool)) (self55_1 : LT → Option (Bool)) (self74_1 : LT → Option (Int)) (k : Int → Option R) : Option R :=
  k (-1 : Int)
def f74_1.p0_e0 {R : Type} (L N : Nat) (self43 : Tree → Option (Bool)) (self66 : Tree → Option (Bool)) (self55_1 : LT → Option (Bool)) (self74_1 : LT → Option (Int)) (k : Int → Option R) : Option R :=
  f74_1.p0_e0' L N self43 self66 self55_1 self74_1 k
def f74_1.p0_r' {R : Type} (L N : Nat) (self43 : Tree → Option (Bool)) (self66 : Tree → Option (Bool)) (self55_1 : LT → Option (Bool)) (self74_1 : LT → Option (Int)) (k : Int → Option R) (z4 : Int) : Option R :=
  k z4
def f74_1.p0_r {R : Type} (L N : Nat) (self43 : Tree → Option (Bool)) (self66 : Tree → Option (Bool)) (self55_1 : LT → Option (Bool)) (self74_1 : LT → Option (Int)) (k : Int → Option R) (z4 : Int) : Option R :=
  f74_1.p0_r' L N self43 self66 self55_1 self74_1 k z4
def f74_1.b' {R : Type} (L N : Nat) (self43 : Tree → Option (Bool)) (self66 : Tree → Option (Bool)) (self55_1 : LT → Option (Bool)) (self74_1 : LT → Option (Int)) (k : Int → Option R) (w0 : LT → Int → Int → Option R) (x0 : LT) : Option R :=
  w0 x0 (x0.length : Int) (0 : Int)
def f74_1.b {R : Type} (L N : Nat) (self43 : Tree → Option (Bool)) (self66 : Tree → Option (Bool)) (self55_1 : LT → Option (Bool)) (self74_1 : LT → Option (Int)) (k : Int → Option R) (x0 : LT) : Option R :=
  f74_1.b' L N self43 self66 self55_1 self74_1 k (fun s0 s1 s2 => f74_1.l0 L N self43 self66 self55_1 self74_1 (f74_1.p0_e0 L N self43 self66 self55_1 self74_1 k) (fun z4 => f74_1.p0_r L N self43 self66 self55_1 self74_1 k z4) L s0 s1 s2) x0
mutual
def f43 (L N : Nat) : Nat → Tree → Option (Bool)
  | 0, _ => none
  | n + 1, x0 => f43.b L N (f43 L N n) (f66 L N n) (f55_1 L N n) (f74_1 L N n) some x0
def f66 (L N : Nat) : Nat → Tree → Option (Bool)
  | 0, _ => none
  | n + 1, x0 => f66.b L N (f43 L N n) (f66 L N n) (f55_1 L N n) (f74_1 L N n) some x0
def f55_1 (L N : Nat) : Nat → LT → Option (Bool)
  | 0, _ => none
  | n + 1, x0 => f55_1.b L N (f43 L N n) (f66 L N n) (f55_1 L N n) (f74_1 L N n) some x0
def f74_1 (L N : Nat) : Nat → LT → Option (Int)
  | 0, _ => none
  | n + 1, x0 => f74_1.b L N (f43 L N n) (f66 L N n) (f55_1 L N n) (f74_1 L N n) some x0
end
def f43.ent (L N m : Nat) := entRo [(.st 1)] (.one .bool) fun d => f43 L N m d.1
def f66.ent (L N m : Nat) := entRo [(.st 1)] (.one .bool) fun d => f66 L N m d.1
def f55_1.ent (L N m : Nat) := entRf [(.dat (.sl (.st 1))), (.fn 66 [])] (.one .bool) fun d => f55_1 L N m d.1
def f74_1.ent (L N m : Nat) := entRf [(.dat (.sl (.st 1))), (.fn 66 [])] (.one i64) fun d => f74_1 L N m d.1
def Φ43s (L N m : Nat) : Tells := (addO (addO (addT (addT (Φ65 L N) 43 (f43.ent L N m)) 66 (f66.ent L N m)) 55 (f55_1.ent L N m)) 74 (f74_1.ent L N m))
noncomputable def E43 (L N m : Nat) : Env := { P := Tryd.prog, ty := tyOf, Φ := Φ43s L N m, inl := inlT, live := lives, liveX := livesX, L := L, dp := none, prom := promT, heal := healT, ren := renT }
theorem f43.b_eq {R : Type} (L N m : Nat) (κ : AV → Option R) (x0 : Tree) :
    evBody (E43 L N m) (evCallI (E43 L N m) 1 2000) 1000 43 Tryd.f43 [(.tv (.st 1) x0)] [] [] (finC (.one .bool) κ)
    = f43.b L N (f43 L N m) (f66 L N m) (f55_1 L N m) (f74_1 L N m) (fun a0 => κ (.tv .bool a0)) x0 := by kernel_rfl
theorem f66.b_eq {R : Type} (L N m : Nat) (κ : AV → Option R) (x0 : Tree) :
    evBody (E43 L N m) (evCallI (E43 L N m) 1 2000) 1000 66 Tryd.f66 [(.tv (.st 1) x0)] [] [] (finC (.one .bool) κ)
    = f66.b L N (f43 L N m) (f66 L N m) (f55_1 L N m) (f74_1 L N m) (fun a0 => κ (.tv .bool a0)) x0 := by kernel_rfl
theorem f55_1.b_eq {R : Type} (L N m : Nat) (κ : AV → Option R) (x0 : LT) :
    evBody (E43 L N m) (evCallI (E43 L N m) 1 2000) 1000 55 Tryd.f55 [(.tv (.sl (.st 1)) x0), (.fn 66 [])] [] [] (finC (.one .bool) κ)
    = f55_1.b L N (f43 L N m) (f66 L N m) (f55_1 L N m) (f74_1 L N m) (fun a0 => κ (.tv .bool a0)) x0 := by kernel_rfl
noncomputable def f74_1.c0 : Code := loopAt 0 (codeOf Tryd.f74)
def f74_1.X0_e0 {R : Type} (κ : KX R) := κ (.exit 0) f74_1.T0_e0 f74_1.H0_e0
def f74_1.X0_r {R : Type} (κ : KX R) := fun z4 => κ .ret (f74_1.T0_r z4) (f74_1.H0_r z4)
def f74_1.R0 {R : Type} (rec : KT R) := fun s0 s1 s2 => rec (f74_1.T0 s0 s1 s2) (f74_1.H0 s0 s1 s2)
theorem f74_1.s0_eq {R : Type} (L N m : Nat) (κ : KX R) (rec : KT R) (s0 : LT) (s1 : Int) (s2 : Int) :
    evRd (E43 L N m) (evCallI (E43 L N m) 1 2000) 1000 74 19 0 f74_1.c0 κ rec (f74_1.T0 s0 s1 s2) (f74_1.H0 s0 s1 s2)
    = f74_1.s0 L N (f43 L N m) (f66 L N m) (f55_1 L N m) (f74_1 L N m) (f74_1.X0_e0 κ) (f74_1.X0_r κ) (f74_1.R0 rec) s0 s1 s2 := by kernel_rfl
theorem f74_1.l0_eq {R : Type} (L N m : Nat) (κ : KX R) : ∀ (n : Nat) (s0 : LT) (s1 : Int) (s2 : Int),
    evLp (E43 L N m) (evCallI (E43 L N m) 1 2000) 1000 74 19 0 f74_1.c0 κ n (f74_1.T0 s0 s1 s2) (f74_1.H0 s0 s1 s2)
    = f74_1.l0 L N (f43 L N m) (f66 L N m) (f55_1 L N m) (f74_1 L N m) (f74_1.X0_e0 κ) (f74_1.X0_r κ) n s0 s1 s2 := by
  intro n
  induction n with
  | zero => intros; rfl
  | succ n ih =>
    intro s0 s1 s2
    rw [evLp_succ, f74_1.s0_eq]
    delta f74_1.R0
    simp only [ih]
    rfl
theorem f74_1.p0_e0_eq {R : Type} (L N m : Nat) (κ : AV → Option R) :
    (contAt (E43 L N m) (evCallI (E43 L N m) 1 2000) 1000 74 19 0 (codeOf Tryd.f74) (finK (E43 L N m) 1000 Tryd.f74 (finC (.one i64) κ))) (.exit 0) f74_1.T0_e0 f74_1.H0_e0
    = f74_1.p0_e0 L N (f43 L N m) (f66 L N m) (f55_1 L N m) (f74_1 L N m) (fun a0 => κ (.tv i64 a0)) := by kernel_rfl
theorem f74_1.p0_r_eq {R : Type} (L N m : Nat) (κ : AV → Option R) (z4 : Int) :
    (contAt (E43 L N m) (evCallI (E43 L N m) 1 2000) 1000 74 19 0 (codeOf Tryd.f74) (finK (E43 L N m) 1000 Tryd.f74 (finC (.one i64) κ))) .ret (f74_1.T0_r z4) (f74_1.H0_r z4)
    = f74_1.p0_r L N (f43 L N m) (f66 L N m) (f55_1 L N m) (f74_1 L N m) (fun a0 => κ (.tv i64 a0)) z4 := by kernel_rfl
theorem f74_1.b_eq {R : Type} (L N m : Nat) (κ : AV → Option R) (x0 : LT) :
    evBody (E43 L N m) (evCallI (E43 L N m) 1 2000) 1000 74 Tryd.f74 [(.tv (.sl (.st 1)) x0), (.fn 66 [])] [] [] (finC (.one i64) κ)
    = f74_1.b L N (f43 L N m) (f66 L N m) (f55_1 L N m) (f74_1 L N m) (fun a0 => κ (.tv i64 a0)) x0 := by
  refine Eq.trans (b := f74_1.b' L N (f43 L N m) (f66 L N m) (f55_1 L N m) (f74_1 L N m) (fun a0 => κ (.tv i64 a0)) (fun s0 s1 s2 => evLp (E43 L N m) (evCallI (E43 L N m) 1 2000) 1000 74 19 0 f74_1.c0 (contAt (E43 L N m) (evCallI (E43 L N m) 1 2000) 1000 74 19 0 (codeOf Tryd.f74) (finK (E43 L N m) 1000 Tryd.f74 (finC (.one i64) κ))) L (f74_1.T0 s0 s1 s2) (f74_1.H0 s0 s1 s2)) x0) (by kernel_rfl) ?_
  unfold f74_1.b
  simp only [f74_1.l0_eq]
  delta f74_1.X0_e0 f74_1.X0_r
  simp only [f74_1.p0_e0_eq, f74_1.p0_r_eq]
theorem f43.ok (L N m : Nat) (hΦ : TellsOk Tryd.prog (Φ43s L N m)) : EntOk Tryd.prog 43 (f43.ent L N (m + 1)) := entRo_ok (E := (E43 L N m)) (dep := 1000) (f := Tryd.f43) (sound_of hΦ) okP (callI_sound (sound_of hΦ) okP 1 2000) rfl rfl fun d _ hy => (f43.b_eq L N m (unR (.one .bool)) d.1).trans (Eq.trans (b := f43.b L N (f43 L N m) (f66 L N m) (f55_1 L N m) (f74_1 L N m) some d.1) (by kernel_rfl) hy)
theorem f66.ok (L N m : Nat) (hΦ : TellsOk Tryd.prog (Φ43s L N m)) : EntOk Tryd.prog 66 (f66.ent L N (m + 1)) := entRo_ok (E := (E43 L N m)) (dep := 1000) (f := Tryd.f66) (sound_of hΦ) okP (callI_sound (sound_of hΦ) okP 1 2000) rfl rfl fun d _ hy => (f66.b_eq L N m (unR (.one .bool)) d.1).trans (Eq.trans (b := f66.b L N (f43 L N m) (f66 L N m) (f55_1 L N m) (f74_1 L N m) some d.1) (by kernel_rfl) hy)
theorem f55_1.ok (L N m : Nat) (hΦ : TellsOk Tryd.prog (Φ43s L N m)) : EntOkO Tryd.prog 55 (f55_1.ent L N (m + 1)) := entRf_ok (E := (E43 L N m)) (dep := 1000) (f := Tryd.f55) (sound_of hΦ) okP (callI_sound (sound_of hΦ) okP 1 2000) rfl rfl fun d _ hy => (f55_1.b_eq L N m (unR (.one .bool)) d.1).trans (Eq.trans (b := f55_1.b L N (f43 L N m) (f66 L N m) (f55_1 L N m) (f74_1 L N m) some d.1) (by kernel_rfl) hy)
theorem f74_1.ok (L N m : Nat) (hΦ : TellsOk Tryd.prog (Φ43s L N m)) : EntOkO Tryd.prog 74 (f74_1.ent L N (m + 1)) := entRf_ok (E := (E43 L N m)) (dep := 1000) (f := Tryd.f74) (sound_of hΦ) okP (callI_sound (sound_of hΦ) okP 1 2000) rfl rfl fun d _ hy => (f74_1.b_eq L N m (unR (.one i64)) d.1).trans (Eq.trans (b := f74_1.b L N (f43 L N m) (f66 L N m) (f55_1 L N m) (f74_1 L N m) some d.1) (by kernel_rfl) hy)
theorem Φ43s_ok (L N : Nat) : ∀ m, TellsOk Tryd.prog (Φ43s L N m) := by
  intro m
  induction m with
  | zero => exact (addO_ok (addO_ok (addT_ok (addT_ok (Φ65_ok L N) (entRo_no fun _ => rfl)) (entRo_no fun _ => rfl)) (entRf_no fun _ => rfl)) (entRf_no fun _ => rfl))
  | succ m ih => exact (addO_ok (addO_ok (addT_ok (addT_ok (Φ65_ok L N) (f43.ok L N m ih)) (f66.ok L N m ih)) (f55_1.ok L N m ih)) (f74_1.ok L N m ih))
def Φ43 (L N : Nat) : Tells := (addO (addO (addT (addT (Φ65 L N) 43 (f43.ent L N N)) 66 (f66.ent L N N)) 55 (f55_1.ent L N N)) 74 (f74_1.ent L N N))
theorem Φ43_ok (L N : Nat) : TellsOk Tryd.prog (Φ43 L N) := Φ43s_ok L N N
def f26.b' {R : Type} (L N : Nat) (k : Bool → Option R) (x0 : Tree) : Option R :=
  (f42 L N N (Tree.mk x0.op x0.n x0.parts) (24 : Int)).bind fun y0 =>
  bif (decide (y0 ≤ (24 : Int))) then
    (f43 L N N (Tree.mk x0.op x0.n x0.parts)).bind fun y1 =>
    k y1
  else k false
def f26.b {R : Type} (L N : Nat) (k : Bool → Option R) (x0 : Tree) : Option R :=
  f26.b' L N k x0
def f26 (L N : Nat) (x0 : Tree) : Option (Bool) := f26.b L N some x0
def f26.ent (L N : Nat) := entRo [(.st 1)] (.one .bool) fun d => f26 L N d.1
noncomputable def E26 (L N : Nat) : Env := { P := Tryd.prog, ty := tyOf, Φ := (Φ43 L N), inl := inlT, live := lives, liveX := livesX, L := L, dp := none, prom := promT, heal := healT, ren := renT }
theorem f26.b_eq {R : Type} (L N : Nat) (κ : AV → Option R) (x0 : Tree) :
    evBody (E26 L N) (evCallI (E26 L N) 1 2000) 1000 26 Tryd.f26 [(.tv (.st 1) x0)] [] [] (finC (.one .bool) κ)
    = f26.b L N (fun a0 => κ (.tv .bool a0)) x0 := by kernel_rfl
theorem f26.ok (L N : Nat) (hΦ : TellsOk Tryd.prog ((Φ43 L N))) : EntOk Tryd.prog 26 (f26.ent L N) := entRo_ok (E := (E26 L N)) (dep := 1000) (f := Tryd.f26) (sound_of hΦ) okP (callI_sound (sound_of hΦ) okP 1 2000) rfl rfl fun d _ hy => (f26.b_eq L N (unR (.one .bool)) d.1).trans (Eq.trans (b := f26.b L N some d.1) (by kernel_rfl) hy)
def Φ26 (L N : Nat) : Tells := (addT (Φ43 L N) 26 (f26.ent L N))
theorem Φ26_ok (L N : Nat) : TellsOk Tryd.prog (Φ26 L N) := addT_ok (Φ43_ok L N) (f26.ok L N (Φ43_ok L N))
def f28.s0' {R : Type} (L N : Nat) (self28 : Tree → Option (Tree)) (k0_e0 : Int → Int → Int → Int → LT → Option R) (rec0 : LT → Int → Int → Int → Int → Int → Int → LT → Option R) (s0 : LT) (s1 : Int) (s2 : Int) (s3 : Int) (s4 : Int) (s5 : Int) (s6 : Int) (s7 : LT) : Option R :=
  bif (decide (s2 < s1)) then
    bif (decide (0 ≤ s2) && decide (s2 < (s0.length : Int))) then
      (self28 (Tree.mk ((listAt s0 (Ty.dflt (.st 1)) s2.toNat).op) ((listAt s0 (Ty.dflt (.st 1)) s2.toNat).n) ((listAt s0 (Ty.dflt (.st 1)) s2.toNat).parts))).bind fun y13 =>
      bif (decide (s7.length + ([y13] : LT).length ≤ lim)) then
        rec0 s0 s1 (wi (s2 + (1 : Int))) s3 s4 s5 s6 (s7 ++ ([y13] : LT))
      else none
    else none
  else k0_e0 s3 s4 s5 s6 s7
def f28.s0 {R : Type} (L N : Nat) (self28 : Tree → Option (Tree)) (k0_e0 : Int → Int → Int → Int → LT → Option R) (rec0 : LT → Int → Int → Int → Int → Int → Int → LT → Option R) (s0 : LT) (s1 : Int) (s2 : Int) (s3 : Int) (s4 : Int) (s5 : Int) (s6 : Int) (s7 : LT) : Option R :=
  f28.s0' L N self28 k0_e0 rec0 s0 s1 s2 s3 s4 s5 s6 s7
def f28.l0 {R : Type} (L N : Nat) (self28 : Tree → Option (Tree)) (k0_e0 : Int → Int → Int → Int → LT → Option R) : Nat → LT → Int → Int → Int → Int → Int → Int → LT → Option R
  | 0, _, _, _, _, _, _, _, _ => none
  | n + 1, s0, s1, s2, s3, s4, s5, s6, s7 => f28.s0 L N self28 k0_e0 (f28.l0 L N self28 k0_e0 n) s0 s1 s2 s3 s4 s5 s6 s7
def f28.T0 (s0 : LT) (s1 : Int) (s2 : Int) (s3 : Int) (s4 : Int) (s5 : Int) (s6 : Int) (s7 : LT) : T := mkT 27 [(2, (.ptr 1002 0)), (3, (.ptr 1003 0)), (12, (.tv (.sl (.st 1)) s0)), (13, (.tv i64 s1)), (14, (.tv i64 s2))]
def f28.H0 (s0 : LT) (s1 : Int) (s2 : Int) (s3 : Int) (s4 : Int) (s5 : Int) (s6 : Int) (s7 : LT) : H := [(1002, (.box [(.tv i64 s3), (.tv i64 s4), .nil])), (1003, (.box [(.tv i64 s5), (.tv i64 s6), (.row 1900)])), (1900, (.row 29 (.st 1) s7))]
def f28.T0_e0 (z8 : Int) (z9 : Int) (z10 : Int) (z11 : Int) (z12 : LT) : T := mkT 27 [(2, (.ptr 1002 0)), (3, (.ptr 1003 0))]
def f28.H0_e0 (z8 : Int) (z9 : Int) (z10 : Int) (z11 : Int) (z12 : LT) : H := [(1002, (.box [(.tv i64 z8), (.tv i64 z9), .nil])), (1003, (.box [(.tv i64 z10), (.tv i64 z11), (.row 1900)])), (1900, (.row 29 (.st 1) z12))]
def f28.p0_e0' {R : Type} (L N : Nat) (self28 : Tree → Option (Tree)) (k : Tree → Option R) (z8 : Int) (z9 : Int) (z10 : Int) (z11 : Int) (z12 : LT) : Option R :=
  k (Tree.mk z10 z11 z12)
def f28.p0_e0 {R : Type} (L N : Nat) (self28 : Tree → Option (Tree)) (k : Tree → Option R) (z8 : Int) (z9 : Int) (z10 : Int) (z11 : Int) (z12 : LT) : Option R :=
  f28.p0_e0' L N self28 k z8 z9 z10 z11 z12
def f28.b' {R : Type} (L N : Nat) (self28 : Tree → Option (Tree)) (k : Tree → Option R) (w0 : LT → Int → Int → Int → Int → Int → Int → LT → Option R) (x0 : Tree) : Option R :=
  w0 x0.parts (x0.parts.length : Int) (0 : Int) (0 : Int) (0 : Int) x0.op x0.n ([] : LT)
def f28.b {R : Type} (L N : Nat) (self28 : Tree → Option (Tree)) (k : Tree → Option R) (x0 : Tree) : Option R :=
  f28.b' L N self28 k (fun s0 s1 s2 s3 s4 s5 s6 s7 => f28.l0 L N self28 (fun z8 z9 z10 z11 z12 => f28.p0_e0 L N self28 k z8 z9 z10 z11 z12) L s0 s1 s2 s3 s4 s5 s6 s7) x0
def f28 (L N : Nat) : Nat → Tree → Option (Tree)
  | 0, _ => none
  | n + 1, x0 => f28.b L N (f28 L N n) some x0
def f28.ent (L N m : Nat) := entDa [(.st 1)] (.one (.st 1)) fun d => f28 L N m d.1
def Φ28s (L N m : Nat) : Tells := (addT (Φ26 L N) 28 (f28.ent L N m))
noncomputable def E28 (L N m : Nat) : Env := { P := Tryd.prog, ty := tyOf, Φ := Φ28s L N m, inl := inlT, live := lives, liveX := livesX, L := L, dp := none, prom := promT, heal := healT, ren := renT }
noncomputable def f28.c0 : Code := loopAt 0 (codeOf Tryd.f28)
def f28.X0_e0 {R : Type} (κ : KX R) := fun z8 z9 z10 z11 z12 => κ (.exit 0) (f28.T0_e0 z8 z9 z10 z11 z12) (f28.H0_e0 z8 z9 z10 z11 z12)
def f28.R0 {R : Type} (rec : KT R) := fun s0 s1 s2 s3 s4 s5 s6 s7 => rec (f28.T0 s0 s1 s2 s3 s4 s5 s6 s7) (f28.H0 s0 s1 s2 s3 s4 s5 s6 s7)
theorem f28.s0_eq {R : Type} (L N m : Nat) (κ : KX R) (rec : KT R) (s0 : LT) (s1 : Int) (s2 : Int) (s3 : Int) (s4 : Int) (s5 : Int) (s6 : Int) (s7 : LT) :
    evRd (E28 L N m) (evCallI (E28 L N m) 1 2000) 1000 28 27 0 f28.c0 κ rec (f28.T0 s0 s1 s2 s3 s4 s5 s6 s7) (f28.H0 s0 s1 s2 s3 s4 s5 s6 s7)
    = f28.s0 L N (f28 L N m) (f28.X0_e0 κ) (f28.R0 rec) s0 s1 s2 s3 s4 s5 s6 s7 := by kernel_rfl
theorem f28.l0_eq {R : Type} (L N m : Nat) (κ : KX R) : ∀ (n : Nat) (s0 : LT) (s1 : Int) (s2 : Int) (s3 : Int) (s4 : Int) (s5 : Int) (s6 : Int) (s7 : LT),
    evLp (E28 L N m) (evCallI (E28 L N m) 1 2000) 1000 28 27 0 f28.c0 κ n (f28.T0 s0 s1 s2 s3 s4 s5 s6 s7) (f28.H0 s0 s1 s2 s3 s4 s5 s6 s7)
    = f28.l0 L N (f28 L N m) (f28.X0_e0 κ) n s0 s1 s2 s3 s4 s5 s6 s7 := by
  intro n
  induction n with
  | zero => intros; rfl
  | succ n ih =>
    intro s0 s1 s2 s3 s4 s5 s6 s7
    rw [evLp_succ, f28.s0_eq]
    delta f28.R0
    simp only [ih]
    rfl
theorem f28.p0_e0_eq {R : Type} (L N m : Nat) (κ : AV → Option R) (z8 : Int) (z9 : Int) (z10 : Int) (z11 : Int) (z12 : LT) :
    (contAt (E28 L N m) (evCallI (E28 L N m) 1 2000) 1000 28 27 0 (codeOf Tryd.f28) (finK (E28 L N m) 1000 Tryd.f28 (finC (.one (.st 1)) κ))) (.exit 0) (f28.T0_e0 z8 z9 z10 z11 z12) (f28.H0_e0 z8 z9 z10 z11 z12)
    = f28.p0_e0 L N (f28 L N m) (fun a0 => κ (.tv (.st 1) a0)) z8 z9 z10 z11 z12 := by kernel_rfl
theorem f28.b_eq {R : Type} (L N m : Nat) (κ : AV → Option R) (x0 : Tree) :
    evBody (E28 L N m) (evCallI (E28 L N m) 1 2000) 1000 28 Tryd.f28 [(.tv (.st 1) x0)] [] [] (finC (.one (.st 1)) κ)
    = f28.b L N (f28 L N m) (fun a0 => κ (.tv (.st 1) a0)) x0 := by
  refine Eq.trans (b := f28.b' L N (f28 L N m) (fun a0 => κ (.tv (.st 1) a0)) (fun s0 s1 s2 s3 s4 s5 s6 s7 => evLp (E28 L N m) (evCallI (E28 L N m) 1 2000) 1000 28 27 0 f28.c0 (contAt (E28 L N m) (evCallI (E28 L N m) 1 2000) 1000 28 27 0 (codeOf Tryd.f28) (finK (E28 L N m) 1000 Tryd.f28 (finC (.one (.st 1)) κ))) L (f28.T0 s0 s1 s2 s3 s4 s5 s6 s7) (f28.H0 s0 s1 s2 s3 s4 s5 s6 s7)) x0) (by kernel_rfl) ?_
  unfold f28.b
  simp only [f28.l0_eq]
  delta f28.X0_e0
  simp only [f28.p0_e0_eq]
theorem f28.ok (L N m : Nat) (hΦ : TellsOk Tryd.prog (Φ28s L N m)) : EntOk Tryd.prog 28 (f28.ent L N (m + 1)) := entDa_ok (E := (E28 L N m)) (dep := 1000) (f := Tryd.f28) (sound_of hΦ) okP (callI_sound (sound_of hΦ) okP 1 2000) rfl fun d _ hy => (f28.b_eq L N m (unR (.one (.st 1))) d.1).trans (Eq.trans (b := f28.b L N (f28 L N m) some d.1) (by kernel_rfl) hy)
theorem Φ28s_ok (L N : Nat) : ∀ m, TellsOk Tryd.prog (Φ28s L N m) := by
  intro m
  induction m with
  | zero => exact (addT_ok (Φ26_ok L N) (entDa_no fun _ => rfl))
  | succ m ih => exact (addT_ok (Φ26_ok L N) (f28.ok L N m ih))
def Φ28 (L N : Nat) : Tells := (addT (Φ26 L N) 28 (f28.ent L N N))
theorem Φ28_ok (L N : Nat) : TellsOk Tryd.prog (Φ28 L N) := Φ28s_ok L N N
def f36.b' {R : Type} (L N : Nat) (self36 : Tree → Option (Bool)) (self56 : Tree → Option (Bool)) (self55_2 : LT → Option (Bool)) (self74_2 : LT → Option (Int)) (k : Bool → Option R) (x0 : Tree) : Option R :=
  bif (x0.op != (5 : Int)) then
    (self55_2 x0.parts).bind fun y0 =>
    k (!y0)
  else k false
def f36.b {R : Type} (L N : Nat) (self36 : Tree → Option (Bool)) (self56 : Tree → Option (Bool)) (self55_2 : LT → Option (Bool)) (self74_2 : LT → Option (Int)) (k : Bool → Option R) (x0 : Tree) : Option R :=
  f36.b' L N self36 self56 self55_2 self74_2 k x0
def f56.b' {R : Type} (L N : Nat) (self36 : Tree → Option (Bool)) (self56 : Tree → Option (Bool)) (self55_2 : LT → Option (Bool)) (self74_2 : LT → Option (Int)) (k : Bool → Option R) (x0 : Tree) : Option R :=
  (self36 (Tree.mk x0.op x0.n x0.parts)).bind fun y0 =>
  k (!y0)
def f56.b {R : Type} (L N : Nat) (self36 : Tree → Option (Bool)) (self56 : Tree → Option (Bool)) (self55_2 : LT → Option (Bool)) (self74_2 : LT → Option (Int)) (k : Bool → Option R) (x0 : Tree) : Option R :=
  f56.b' L N self36 self56 self55_2 self74_2 k x0
def f55_2.b' {R : Type} (L N : Nat) (self36 : Tree → Option (Bool)) (self56 : Tree → Option (Bool)) (self55_2 : LT → Option (Bool)) (self74_2 : LT → Option (Int)) (k : Bool → Option R) (x0 : LT) : Option R :=
  (self74_2 x0).bind fun y0 =>
  k (decide (y0 ≥ (0 : Int)))
def f55_2.b {R : Type} (L N : Nat) (self36 : Tree → Option (Bool)) (self56 : Tree → Option (Bool)) (self55_2 : LT → Option (Bool)) (self74_2 : LT → Option (Int)) (k : Bool → Option R) (x0 : LT) : Option R :=
  f55_2.b' L N self36 self56 self55_2 self74_2 k x0
def f74_2.s0' {R : Type} (L N : Nat) (self36 : Tree → Option (Bool)) (self56 : Tree → Option (Bool)) (self55_2 : LT → Option (Bool)) (self74_2 : LT → Option (Int)) (k0_e0 : Option R) (k0_r : Int → Option R) (rec0 : LT → Int → Int → Option R) (s0 : LT) (s1 : Int) (s2 : Int) : Option R :=
  bif (decide (s2 < s1)) then
    bif (decide (0 ≤ s2) && decide (s2 < (s0.length : Int))) then
      (self56 (listAt s0 (Ty.dflt (.st 1)) s2.toNat)).bind fun y3 =>
      bif y3 then
        k0_r s2
      else rec0 s0 s1 (wi (s2 + (1 : Int)))
    else none
  else k0_e0
def f74_2.s0 {R : Type} (L N : Nat) (self36 : Tree → Option (Bool)) (self56 : Tree → Option (Bool)) (self55_2 : LT → Option (Bool)) (self74_2 : LT → Option (Int)) (k0_e0 : Option R) (k0_r : Int → Option R) (rec0 : LT → Int → Int → Option R) (s0 : LT) (s1 : Int) (s2 : Int) : Option R :=
  f74_2.s0' L N self36 self56 self55_2 self74_2 k0_e0 k0_r rec0 s0 s1 s2
def f74_2.l0 {R : Type} (L N : Nat) (self36 : Tree → Option (Bool)) (self56 : Tree → Option (Bool)) (self55_2 : LT → Option (Bool)) (self74_2 : LT → Option (Int)) (k0_e0 : Option R) (k0_r : Int → Option R) : Nat → LT → Int → Int → Option R
  | 0, _, _, _ => none
  | n + 1, s0, s1, s2 => f74_2.s0 L N self36 self56 self55_2 self74_2 k0_e0 k0_r (f74_2.l0 L N self36 self56 self55_2 self74_2 k0_e0 k0_r n) s0 s1 s2
def f74_2.T0 (s0 : LT) (s1 : Int) (s2 : Int) : T := mkT 19 [(0, (.tv (.sl (.st 1)) s0)), (1, (.fn 56 [])), (7, (.tv i64 s1)), (8, (.tv i64 s2))]
def f74_2.H0 (s0 : LT) (s1 : Int) (s2 : Int) : H := []
def f74_2.T0_e0 : T := mkT 19 []
def f74_2.H0_e0 : H := []
def f74_2.T0_r (z4 : Int) : T := mkT 19 [(4, (.tv i64 z4))]
def f74_2.H0_r (z4 : Int) : H := []
def f74_2.p0_e0' {R : Type} (L N : Nat) (self36 : Tree → Option (Bool)) (self56 : Tree → Option (Bool)) (self55_2 : LT → Option (Bool)) (self74_2 : LT → Option (Int)) (k : Int → Option R) : Option R :=
  k (-1 : Int)
def f74_2.p0_e0 {R : Type} (L N : Nat) (self36 : Tree → Option (Bool)) (self56 : Tree → Option (Bool)) (self55_2 : LT → Option (Bool)) (self74_2 : LT → Option (Int)) (k : Int → Option R) : Option R :=
  f74_2.p0_e0' L N self36 self56 self55_2 self74_2 k
def f74_2.p0_r' {R : Type} (L N : Nat) (self36 : Tree → Option (Bool)) (self56 : Tree → Option (Bool)) (self55_2 : LT → Option (Bool)) (self74_2 : LT → Option (Int)) (k : Int → Option R) (z4 : Int) : Option R :=
  k z4
def f74_2.p0_r {R : Type} (L N : Nat) (self36 : Tree → Option (Bool)) (self56 : Tree → Option (Bool)) (self55_2 : LT → Option (Bool)) (self74_2 : LT → Option (Int)) (k : Int → Option R) (z4 : Int) : Option R :=
  f74_2.p0_r' L N self36 self56 self55_2 self74_2 k z4
def f74_2.b' {R : Type} (L N : Nat) (self36 : Tree → Option (Bool)) (self56 : Tree → Option (Bool)) (self55_2 : LT → Option (Bool)) (self74_2 : LT → Option (Int)) (k : Int → Option R) (w0 : LT → Int → Int → Option R) (x0 : LT) : Option R :=
  w0 x0 (x0.length : Int) (0 : Int)
def f74_2.b {R : Type} (L N : Nat) (self36 : Tree → Option (Bool)) (self56 : Tree → Option (Bool)) (self55_2 : LT → Option (Bool)) (self74_2 : LT → Option (Int)) (k : Int → Option R) (x0 : LT) : Option R :=
  f74_2.b' L N self36 self56 self55_2 self74_2 k (fun s0 s1 s2 => f74_2.l0 L N self36 self56 self55_2 self74_2 (f74_2.p0_e0 L N self36 self56 self55_2 self74_2 k) (fun z4 => f74_2.p0_r L N self36 self56 self55_2 self74_2 k z4) L s0 s1 s2) x0
mutual
def f36 (L N : Nat) : Nat → Tree → Option (Bool)
  | 0, _ => none
  | n + 1, x0 => f36.b L N (f36 L N n) (f56 L N n) (f55_2 L N n) (f74_2 L N n) some x0
def f56 (L N : Nat) : Nat → Tree → Option (Bool)
  | 0, _ => none
  | n + 1, x0 => f56.b L N (f36 L N n) (f56 L N n) (f55_2 L N n) (f74_2 L N n) some x0
def f55_2 (L N : Nat) : Nat → LT → Option (Bool)
  | 0, _ => none
  | n + 1, x0 => f55_2.b L N (f36 L N n) (f56 L N n) (f55_2 L N n) (f74_2 L N n) some x0
def f74_2 (L N : Nat) : Nat → LT → Option (Int)
  | 0, _ => none
  | n + 1, x0 => f74_2.b L N (f36 L N n) (f56 L N n) (f55_2 L N n) (f74_2 L N n) some x0
end
def f36.ent (L N m : Nat) := entRo [(.st 1)] (.one .bool) fun d => f36 L N m d.1
def f56.ent (L N m : Nat) := entRo [(.st 1)] (.one .bool) fun d => f56 L N m d.1
def f55_2.ent (L N m : Nat) := entRf [(.dat (.sl (.st 1))), (.fn 56 [])] (.one .bool) fun d => f55_2 L N m d.1
def f74_2.ent (L N m : Nat) := entRf [(.dat (.sl (.st 1))), (.fn 56 [])] (.one i64) fun d => f74_2 L N m d.1
def Φ36s (L N m : Nat) : Tells := (addO (addO (addT (addT (Φ28 L N) 36 (f36.ent L N m)) 56 (f56.ent L N m)) 55 (f55_2.ent L N m)) 74 (f74_2.ent L N m))
noncomputable def E36 (L N m : Nat) : Env := { P := Tryd.prog, ty := tyOf, Φ := Φ36s L N m, inl := inlT, live := lives, liveX := livesX, L := L, dp := none, prom := promT, heal := healT, ren := renT }
theorem f36.b_eq {R : Type} (L N m : Nat) (κ : AV → Option R) (x0 : Tree) :
    evBody (E36 L N m) (evCallI (E36 L N m) 1 2000) 1000 36 Tryd.f36 [(.tv (.st 1) x0)] [] [] (finC (.one .bool) κ)
    = f36.b L N (f36 L N m) (f56 L N m) (f55_2 L N m) (f74_2 L N m) (fun a0 => κ (.tv .bool a0)) x0 := by kernel_rfl
theorem f56.b_eq {R : Type} (L N m : Nat) (κ : AV → Option R) (x0 : Tree) :
    evBody (E36 L N m) (evCallI (E36 L N m) 1 2000) 1000 56 Tryd.f56 [(.tv (.st 1) x0)] [] [] (finC (.one .bool) κ)
    = f56.b L N (f36 L N m) (f56 L N m) (f55_2 L N m) (f74_2 L N m) (fun a0 => κ (.tv .bool a0)) x0 := by kernel_rfl
theorem f55_2.b_eq {R : Type} (L N m : Nat) (κ : AV → Option R) (x0 : LT) :
    evBody (E36 L N m) (evCallI (E36 L N m) 1 2000) 1000 55 Tryd.f55 [(.tv (.sl (.st 1)) x0), (.fn 56 [])] [] [] (finC (.one .bool) κ)
    = f55_2.b L N (f36 L N m) (f56 L N m) (f55_2 L N m) (f74_2 L N m) (fun a0 => κ (.tv .bool a0)) x0 := by kernel_rfl
noncomputable def f74_2.c0 : Code := loopAt 0 (codeOf Tryd.f74)
def f74_2.X0_e0 {R : Type} (κ : KX R) := κ (.exit 0) f74_2.T0_e0 f74_2.H0_e0
def f74_2.X0_r {R : Type} (κ : KX R) := fun z4 => κ .ret (f74_2.T0_r z4) (f74_2.H0_r z4)
def f74_2.R0 {R : Type} (rec : KT R) := fun s0 s1 s2 => rec (f74_2.T0 s0 s1 s2) (f74_2.H0 s0 s1 s2)
theorem f74_2.s0_eq {R : Type} (L N m : Nat) (κ : KX R) (rec : KT R) (s0 : LT) (s1 : Int) (s2 : Int) :
    evRd (E36 L N m) (evCallI (E36 L N m) 1 2000) 1000 74 19 0 f74_2.c0 κ rec (f74_2.T0 s0 s1 s2) (f74_2.H0 s0 s1 s2)
    = f74_2.s0 L N (f36 L N m) (f56 L N m) (f55_2 L N m) (f74_2 L N m) (f74_2.X0_e0 κ) (f74_2.X0_r κ) (f74_2.R0 rec) s0 s1 s2 := by kernel_rfl
theorem f74_2.l0_eq {R : Type} (L N m : Nat) (κ : KX R) : ∀ (n : Nat) (s0 : LT) (s1 : Int) (s2 : Int),
    evLp (E36 L N m) (evCallI (E36 L N m) 1 2000) 1000 74 19 0 f74_2.c0 κ n (f74_2.T0 s0 s1 s2) (f74_2.H0 s0 s1 s2)
    = f74_2.l0 L N (f36 L N m) (f56 L N m) (f55_2 L N m) (f74_2 L N m) (f74_2.X0_e0 κ) (f74_2.X0_r κ) n s0 s1 s2 := by
  intro n
  induction n with
  | zero => intros; rfl
  | succ n ih =>
    intro s0 s1 s2
    rw [evLp_succ, f74_2.s0_eq]
    delta f74_2.R0
    simp only [ih]
    rfl
theorem f74_2.p0_e0_eq {R : Type} (L N m : Nat) (κ : AV → Option R) :
    (contAt (E36 L N m) (evCallI (E36 L N m) 1 2000) 1000 74 19 0 (codeOf Tryd.f74) (finK (E36 L N m) 1000 Tryd.f74 (finC (.one i64) κ))) (.exit 0) f74_2.T0_e0 f74_2.H0_e0
    = f74_2.p0_e0 L N (f36 L N m) (f56 L N m) (f55_2 L N m) (f74_2 L N m) (fun a0 => κ (.tv i64 a0)) := by kernel_rfl
theorem f74_2.p0_r_eq {R : Type} (L N m : Nat) (κ : AV → Option R) (z4 : Int) :
    (contAt (E36 L N m) (evCallI (E36 L N m) 1 2000) 1000 74 19 0 (codeOf Tryd.f74) (finK (E36 L N m) 1000 Tryd.f74 (finC (.one i64) κ))) .ret (f74_2.T0_r z4) (f74_2.H0_r z4)
    = f74_2.p0_r L N (f36 L N m) (f56 L N m) (f55_2 L N m) (f74_2 L N m) (fun a0 => κ (.tv i64 a0)) z4 := by kernel_rfl
theorem f74_2.b_eq {R : Type} (L N m : Nat) (κ : AV → Option R) (x0 : LT) :
    evBody (E36 L N m) (evCallI (E36 L N m) 1 2000) 1000 74 Tryd.f74 [(.tv (.sl (.st 1)) x0), (.fn 56 [])] [] [] (finC (.one i64) κ)
    = f74_2.b L N (f36 L N m) (f56 L N m) (f55_2 L N m) (f74_2 L N m) (fun a0 => κ (.tv i64 a0)) x0 := by
  refine Eq.trans (b := f74_2.b' L N (f36 L N m) (f56 L N m) (f55_2 L N m) (f74_2 L N m) (fun a0 => κ (.tv i64 a0)) (fun s0 s1 s2 => evLp (E36 L N m) (evCallI (E36 L N m) 1 2000) 1000 74 19 0 f74_2.c0 (contAt (E36 L N m) (evCallI (E36 L N m) 1 2000) 1000 74 19 0 (codeOf Tryd.f74) (finK (E36 L N m) 1000 Tryd.f74 (finC (.one i64) κ))) L (f74_2.T0 s0 s1 s2) (f74_2.H0 s0 s1 s2)) x0) (by kernel_rfl) ?_
  unfold f74_2.b
  simp only [f74_2.l0_eq]
  delta f74_2.X0_e0 f74_2.X0_r
  simp only [f74_2.p0_e0_eq, f74_2.p0_r_eq]
theorem f36.ok (L N m : Nat) (hΦ : TellsOk Tryd.prog (Φ36s L N m)) : EntOk Tryd.prog 36 (f36.ent L N (m + 1)) := entRo_ok (E := (E36 L N m)) (dep := 1000) (f := Tryd.f36) (sound_of hΦ) okP (callI_sound (sound_of hΦ) okP 1 2000) rfl rfl fun d _ hy => (f36.b_eq L N m (unR (.one .bool)) d.1).trans (Eq.trans (b := f36.b L N (f36 L N m) (f56 L N m) (f55_2 L N m) (f74_2 L N m) some d.1) (by kernel_rfl) hy)
theorem f56.ok (L N m : Nat) (hΦ : TellsOk Tryd.prog (Φ36s L N m)) : EntOk Tryd.prog 56 (f56.ent L N (m + 1)) := entRo_ok (E := (E36 L N m)) (dep := 1000) (f := Tryd.f56) (sound_of hΦ) okP (callI_sound (sound_of hΦ) okP 1 2000) rfl rfl fun d _ hy => (f56.b_eq L N m (unR (.one .bool)) d.1).trans (Eq.trans (b := f56.b L N (f36 L N m) (f56 L N m) (f55_2 L N m) (f74_2 L N m) some d.1) (by kernel_rfl) hy)
theorem f55_2.ok (L N m : Nat) (hΦ : TellsOk Tryd.prog (Φ36s L N m)) : EntOkO Tryd.prog 55 (f55_2.ent L N (m + 1)) := entRf_ok (E := (E36 L N m)) (dep := 1000) (f := Tryd.f55) (sound_of hΦ) okP (callI_sound (sound_of hΦ) okP 1 2000) rfl rfl fun d _ hy => (f55_2.b_eq L N m (unR (.one .bool)) d.1).trans (Eq.trans (b := f55_2.b L N (f36 L N m) (f56 L N m) (f55_2 L N m) (f74_2 L N m) some d.1) (by kernel_rfl) hy)
theorem f74_2.ok (L N m : Nat) (hΦ : TellsOk Tryd.prog (Φ36s L N m)) : EntOkO Tryd.prog 74 (f74_2.ent L N (m + 1)) := entRf_ok (E := (E36 L N m)) (dep := 1000) (f := Tryd.f74) (sound_of hΦ) okP (callI_sound (sound_of hΦ) okP 1 2000) rfl rfl fun d _ hy => (f74_2.b_eq L N m (unR (.one i64)) d.1).trans (Eq.trans (b := f74_2.b L N (f36 L N m) (f56 L N m) (f55_2 L N m) (f74_2 L N m) some d.1) (by kernel_rfl) hy)
theorem Φ36s_ok (L N : Nat) : ∀ m, TellsOk Tryd.prog (Φ36s L N m) := by
  intro m
  induction m with
  | zero => exact (addO_ok (addO_ok (addT_ok (addT_ok (Φ28_ok L N) (entRo_no fun _ => rfl)) (entRo_no fun _ => rfl)) (entRf_no fun _ => rfl)) (entRf_no fun _ => rfl))
  | succ m ih => exact (addO_ok (addO_ok (addT_ok (addT_ok (Φ28_ok L N) (f36.ok L N m ih)) (f56.ok L N m ih)) (f55_2.ok L N m ih)) (f74_2.ok L N m ih))
def Φ36 (L N : Nat) : Tells := (addO (addO (addT (addT (Φ28 L N) 36 (f36.ent L N N)) 56 (f56.ent L N N)) 55 (f55_2.ent L N N)) 74 (f74_2.ent L N N))
theorem Φ36_ok (L N : Nat) : TellsOk Tryd.prog (Φ36 L N) := Φ36s_ok L N N
def f50.b' {R : Type} (L N : Nat) (k : ByteArray → Option R) (x0 : Int) : Option R :=
  k (strOfNums ([(IntKind.wrap .u8 ((wi ((97 : Int) + x0))))] : LI))
def f50.b {R : Type} (L N : Nat) (k : ByteArray → Option R) (x0 : Int) : Option R :=
  f50.b' L N k x0
def f50 (L N : Nat) (x0 : Int) : Option (ByteArray) := f50.b L N some x0
def f50.ent (L N : Nat) := entRo [i64] (.one .str) fun d => f50 L N d.1
noncomputable def E50 (L N : Nat) : Env := { P := Tryd.prog, ty := tyOf, Φ := (Φ36 L N), inl := inlT, live := lives, liveX := livesX, L := L, dp := none, prom := promT, heal := healT, ren := renT }
theorem f50.b_eq {R : Type} (L N : Nat) (κ : AV → Option R) (x0 : Int) :
    evBody (E50 L N) (evCallI (E50 L N) 1 2000) 1000 50 Tryd.f50 [(.tv i64 x0)] [] [] (finC (.one .str) κ)
    = f50.b L N (fun a0 => κ (.tv .str a0)) x0 := by kernel_rfl
theorem f50.ok (L N : Nat) (hΦ : TellsOk Tryd.prog ((Φ36 L N))) : EntOk Tryd.prog 50 (f50.ent L N) := entRo_ok (E := (E50 L N)) (dep := 1000) (f := Tryd.f50) (sound_of hΦ) okP (callI_sound (sound_of hΦ) okP 1 2000) rfl rfl fun d _ hy => (f50.b_eq L N (unR (.one .str)) d.1).trans (Eq.trans (b := f50.b L N some d.1) (by kernel_rfl) hy)
def Φ50 (L N : Nat) : Tells := (addT (Φ36 L N) 50 (f50.ent L N))
theorem Φ50_ok (L N : Nat) : TellsOk Tryd.prog (Φ50 L N) := addT_ok (Φ36_ok L N) (f50.ok L N (Φ36_ok L N))
def f70.b' {R : Type} (L N : Nat) (k : Int → Option R) (x0 : Int) : Option R :=
  k (wi ((bif decide ((wi (0 - x0)) > x0) then (wi (0 - x0)) else x0) - (1 : Int)))
def f70.b {R : Type} (L N : Nat) (k : Int → Option R) (x0 : Int) : Option R :=
  f70.b' L N k x0
def f70 (L N : Nat) (x0 : Int) : Option (Int) := f70.b L N some x0
def f70.ent (L N : Nat) := entRo [i64] (.one i64) fun d => f70 L N d.1
noncomputable def E70 (L N : Nat) : Env := { P := Tryd.prog, ty := tyOf, Φ := (Φ50 L N), inl := inlT, live := lives, liveX := livesX, L := L, dp := none, prom := promT, heal := healT, ren := renT }
theorem f70.b_eq {R : Type} (L N : Nat) (κ : AV → Option R) (x0 : Int) :
    evBody (E70 L N) (evCallI (E70 L N) 1 2000) 1000 70 Tryd.f70 [(.tv i64 x0)] [] [] (finC (.one i64) κ)
    = f70.b L N (fun a0 => κ (.tv i64 a0)) x0 := by kernel_rfl
theorem f70.ok (L N : Nat) (hΦ : TellsOk Tryd.prog ((Φ50 L N))) : EntOk Tryd.prog 70 (f70.ent L N) := entRo_ok (E := (E70 L N)) (dep := 1000) (f := Tryd.f70) (sound_of hΦ) okP (callI_sound (sound_of hΦ) okP 1 2000) rfl rfl fun d _ hy => (f70.b_eq L N (unR (.one i64)) d.1).trans (Eq.trans (b := f70.b L N some d.1) (by kernel_rfl) hy)
def Φ70 (L N : Nat) : Tells := (addT (Φ50 L N) 70 (f70.ent L N))
theorem Φ70_ok (L N : Nat) : TellsOk Tryd.prog (Φ70 L N) := addT_ok (Φ50_ok L N) (f70.ok L N (Φ50_ok L N))
def f49.b' {R : Type} (L N : Nat) (k : ByteArray → Option R) (x0 : Int) : Option R :=
  (f64 L N x0).bind fun y0 =>
  bif (!y0) then
    k (ByteArray.mk #[])
  else bif (x0 == (0 : Int)) then
    k (ByteArray.mk #[116, 97, 117])
  else bif (decide (x0 > (0 : Int))) then
    (f70 L N x0).bind fun y1 =>
    (f50 L N y1).bind fun y2 =>
    k y2
  else (f70 L N x0).bind fun y3 =>
  (f50 L N y3).bind fun y4 =>
  bif (decide ((ByteArray.mk #[33]).size + y4.size ≤ 4611686018427387904)) then
    k ((ByteArray.mk #[33]) ++ y4)
  else none
def f49.b {R : Type} (L N : Nat) (k : ByteArray → Option R) (x0 : Int) : Option R :=
  f49.b' L N k x0
def f49 (L N : Nat) (x0 : Int) : Option (ByteArray) := f49.b L N some x0
def f49.ent (L N : Nat) := entRo [i64] (.one .str) fun d => f49 L N d.1
noncomputable def E49 (L N : Nat) : Env := { P := Tryd.prog, ty := tyOf, Φ := (Φ70 L N), inl := inlT, live := lives, liveX := livesX, L := L, dp := none, prom := promT, heal := healT, ren := renT }
theorem f49.b_eq {R : Type} (L N : Nat) (κ : AV → Option R) (x0 : Int) :
    evBody (E49 L N) (evCallI (E49 L N) 1 2000) 1000 49 Tryd.f49 [(.tv i64 x0)] [] [] (finC (.one .str) κ)
    = f49.b L N (fun a0 => κ (.tv .str a0)) x0 := by kernel_rfl
theorem f49.ok (L N : Nat) (hΦ : TellsOk Tryd.prog ((Φ70 L N))) : EntOk Tryd.prog 49 (f49.ent L N) := entRo_ok (E := (E49 L N)) (dep := 1000) (f := Tryd.f49) (sound_of hΦ) okP (callI_sound (sound_of hΦ) okP 1 2000) rfl rfl fun d _ hy => (f49.b_eq L N (unR (.one .str)) d.1).trans (Eq.trans (b := f49.b L N some d.1) (by kernel_rfl) hy)
def Φ49 (L N : Nat) : Tells := (addT (Φ70 L N) 49 (f49.ent L N))
theorem Φ49_ok (L N : Nat) : TellsOk Tryd.prog (Φ49 L N) := addT_ok (Φ70_ok L N) (f49.ok L N (Φ70_ok L N))
def f33.b' {R : Type} (L N : Nat) (self33 : Tree → Option (ByteArray)) (k : ByteArray → Option R) (x0 : Tree) : Option R :=
  bif (x0.op == (1 : Int)) then
    (f49 L N x0.n).bind fun y0 =>
    bif (decide ((ByteArray.mk #[40, 97, 99, 116, 32]).size + y0.size ≤ 4611686018427387904)) then
      bif (decide (((ByteArray.mk #[40, 97, 99, 116, 32]) ++ y0).size + (ByteArray.mk #[32]).size ≤ 4611686018427387904)) then
        bif (decide (0 ≤ (0 : Int)) && decide ((0 : Int) < (x0.parts.length : Int))) then
          (self33 (listAt x0.parts (Ty.dflt (.st 1)) (0 : Int).toNat)).bind fun y1 =>
          bif (decide ((((ByteArray.mk #[40, 97, 99, 116, 32]) ++ y0) ++ (ByteArray.mk #[32])).size + y1.size ≤ 4611686018427387904)) then
            bif (decide (((((ByteArray.mk #[40, 97, 99, 116, 32]) ++ y0) ++ (ByteArray.mk #[32])) ++ y1).size + (ByteArray.mk #[41]).size ≤ 4611686018427387904)) then
              k (((((ByteArray.mk #[40, 97, 99, 116, 32]) ++ y0) ++ (ByteArray.mk #[32])) ++ y1) ++ (ByteArray.mk #[41]))
            else none
          else none
        else none
      else none
    else none
  else bif (x0.op == (2 : Int)) then
    bif (decide (0 ≤ (0 : Int)) && decide ((0 : Int) < (x0.parts.length : Int))) then
      (self33 (listAt x0.parts (Ty.dflt (.st 1)) (0 : Int).toNat)).bind fun y2 =>
      bif (decide ((ByteArray.mk #[40, 115, 117, 109, 32]).size + y2.size ≤ 4611686018427387904)) then
        bif (decide (((ByteArray.mk #[40, 115, 117, 109, 32]) ++ y2).size + (ByteArray.mk #[32]).size ≤ 4611686018427387904)) then
          bif (decide (0 ≤ (1 : Int)) && decide ((1 : Int) < (x0.parts.length : Int))) then
            (self33 (listAt x0.parts (Ty.dflt (.st 1)) (1 : Int).toNat)).bind fun y3 =>
            bif (decide ((((ByteArray.mk #[40, 115, 117, 109, 32]) ++ y2) ++ (ByteArray.mk #[32])).size + y3.size ≤ 4611686018427387904)) then
              bif (decide (((((ByteArray.mk #[40, 115, 117, 109, 32]) ++ y2) ++ (ByteArray.mk #[32])) ++ y3).size + (ByteArray.mk #[41]).size ≤ 4611686018427387904)) then
                k (((((ByteArray.mk #[40, 115, 117, 109, 32]) ++ y2) ++ (ByteArray.mk #[32])) ++ y3) ++ (ByteArray.mk #[41]))
              else none
            else none
          else none
        else none
      else none
    else none
  else bif (x0.op == (3 : Int)) then
    bif (decide (0 ≤ (0 : Int)) && decide ((0 : Int) < (x0.parts.length : Int))) then
      (self33 (listAt x0.parts (Ty.dflt (.st 1)) (0 : Int).toNat)).bind fun y4 =>
      bif (decide ((ByteArray.mk #[40, 112, 97, 114, 32]).size + y4.size ≤ 4611686018427387904)) then
        bif (decide (((ByteArray.mk #[40, 112, 97, 114, 32]) ++ y4).size + (ByteArray.mk #[32]).size ≤ 4611686018427387904)) then
          bif (decide (0 ≤ (1 : Int)) && decide ((1 : Int) < (x0.parts.length : Int))) then
            (self33 (listAt x0.parts (Ty.dflt (.st 1)) (1 : Int).toNat)).bind fun y5 =>
            bif (decide ((((ByteArray.mk #[40, 112, 97, 114, 32]) ++ y4) ++ (ByteArray.mk #[32])).size + y5.size ≤ 4611686018427387904)) then
              bif (decide (((((ByteArray.mk #[40, 112, 97, 114, 32]) ++ y4) ++ (ByteArray.mk #[32])) ++ y5).size + (ByteArray.mk #[41]).size ≤ 4611686018427387904)) then
                k (((((ByteArray.mk #[40, 112, 97, 114, 32]) ++ y4) ++ (ByteArray.mk #[32])) ++ y5) ++ (ByteArray.mk #[41]))
              else none
            else none
          else none
        else none
      else none
    else none
  else bif (x0.op == (4 : Int)) then
    (f50 L N x0.n).bind fun y6 =>
    bif (decide ((ByteArray.mk #[40, 104, 105, 100, 101, 32]).size + y6.size ≤ 4611686018427387904)) then
      bif (decide (((ByteArray.mk #[40, 104, 105, 100, 101, 32]) ++ y6).size + (ByteArray.mk #[32]).size ≤ 4611686018427387904)) then
        bif (decide (0 ≤ (0 : Int)) && decide ((0 : Int) < (x0.parts.length : Int))) then
          (self33 (listAt x0.parts (Ty.dflt (.st 1)) (0 : Int).toNat)).bind fun y7 =>
          bif (decide ((((ByteArray.mk #[40, 104, 105, 100, 101, 32]) ++ y6) ++ (ByteArray.mk #[32])).size + y7.size ≤ 4611686018427387904)) then
            bif (decide (((((ByteArray.mk #[40, 104, 105, 100, 101, 32]) ++ y6) ++ (ByteArray.mk #[32])) ++ y7).size + (ByteArray.mk #[41]).size ≤ 4611686018427387904)) then
              k (((((ByteArray.mk #[40, 104, 105, 100, 101, 32]) ++ y6) ++ (ByteArray.mk #[32])) ++ y7) ++ (ByteArray.mk #[41]))
            else none
          else none
        else none
      else none
    else none
  else bif (x0.op == (5 : Int)) then
    ((fitoa x0.n)).bind fun y8 =>
    bif (decide ((ByteArray.mk #[88]).size + y8.size ≤ 4611686018427387904)) then
      k ((ByteArray.mk #[88]) ++ y8)
    else none
  else k (ByteArray.mk #[48])
def f33.b {R : Type} (L N : Nat) (self33 : Tree → Option (ByteArray)) (k : ByteArray → Option R) (x0 : Tree) : Option R :=
  f33.b' L N self33 k x0
def f33 (L N : Nat) : Nat → Tree → Option (ByteArray)
  | 0, _ => none
  | n + 1, x0 => f33.b L N (f33 L N n) some x0
def f33.ent (L N m : Nat) := entRo [(.st 1)] (.one .str) fun d => f33 L N m d.1
def Φ33s (L N m : Nat) : Tells := (addT (Φ49 L N) 33 (f33.ent L N m))
noncomputable def E33 (L N m : Nat) : Env := { P := Tryd.prog, ty := tyOf, Φ := Φ33s L N m, inl := inlT, live := lives, liveX := livesX, L := L, dp := none, prom := promT, heal := healT, ren := renT }
theorem f33.b_eq {R : Type} (L N m : Nat) (κ : AV → Option R) (x0 : Tree) :
    evBody (E33 L N m) (evCallI (E33 L N m) 1 2000) 1000 33 Tryd.f33 [(.tv (.st 1) x0)] [] [] (finC (.one .str) κ)
    = f33.b L N (f33 L N m) (fun a0 => κ (.tv .str a0)) x0 := by kernel_rfl
theorem f33.ok (L N m : Nat) (hΦ : TellsOk Tryd.prog (Φ33s L N m)) : EntOk Tryd.prog 33 (f33.ent L N (m + 1)) := entRo_ok (E := (E33 L N m)) (dep := 1000) (f := Tryd.f33) (sound_of hΦ) okP (callI_sound (sound_of hΦ) okP 1 2000) rfl rfl fun d _ hy => (f33.b_eq L N m (unR (.one .str)) d.1).trans (Eq.trans (b := f33.b L N (f33 L N m) some d.1) (by kernel_rfl) hy)
theorem Φ33s_ok (L N : Nat) : ∀ m, TellsOk Tryd.prog (Φ33s L N m) := by
  intro m
  induction m with
  | zero => exact (addT_ok (Φ49_ok L N) (entRo_no fun _ => rfl))
  | succ m ih => exact (addT_ok (Φ49_ok L N) (f33.ok L N m ih))
def Φ33 (L N : Nat) : Tells := (addT (Φ49 L N) 33 (f33.ent L N N))
theorem Φ33_ok (L N : Nat) : TellsOk Tryd.prog (Φ33 L N) := Φ33s_ok L N N
def f69.b' {R : Type} (L N : Nat) (k : Tree → Option R) (x0 : Int) (x1 : Tree) : Option R :=
  k (Tree.mk (4 : Int) x0 ([(Tree.mk x1.op x1.n x1.parts)] : LT))
def f69.b {R : Type} (L N : Nat) (k : Tree → Option R) (x0 : Int) (x1 : Tree) : Option R :=
  f69.b' L N k x0 x1
def f69 (L N : Nat) (x0 : Int) (x1 : Tree) : Option (Tree) := f69.b L N some x0 x1
def f69.ent (L N : Nat) := entDa [i64, (.st 1)] (.one (.st 1)) fun d => f69 L N d.1 d.2.1
noncomputable def E69 (L N : Nat) : Env := { P := Tryd.prog, ty := tyOf, Φ := (Φ33 L N), inl := inlT, live := lives, liveX := livesX, L := L, dp := none, prom := promT, heal := healT, ren := renT }
theorem f69.b_eq {R : Type} (L N : Nat) (κ : AV → Option R) (x0 : Int) (x1 : Tree) :
    evBody (E69 L N) (evCallI (E69 L N) 1 2000) 1000 69 Tryd.f69 [(.tv i64 x0), (.tv (.st 1) x1)] [] [] (finC (.one (.st 1)) κ)
    = f69.b L N (fun a0 => κ (.tv (.st 1) a0)) x0 x1 := by kernel_rfl
theorem f69.ok (L N : Nat) (hΦ : TellsOk Tryd.prog ((Φ33 L N))) : EntOk Tryd.prog 69 (f69.ent L N) := entDa_ok (E := (E69 L N)) (dep := 1000) (f := Tryd.f69) (sound_of hΦ) okP (callI_sound (sound_of hΦ) okP 1 2000) rfl fun d _ hy => (f69.b_eq L N (unR (.one (.st 1))) d.1 d.2.1).trans (Eq.trans (b := f69.b L N some d.1 d.2.1) (by kernel_rfl) hy)
def Φ69 (L N : Nat) : Tells := (addT (Φ33 L N) 69 (f69.ent L N))
theorem Φ69_ok (L N : Nat) : TellsOk Tryd.prog (Φ69 L N) := addT_ok (Φ33_ok L N) (f69.ok L N (Φ33_ok L N))
def f75.b' {R : Type} (L N : Nat) (k : Tree → Option R) (x0 : Tree) (x1 : Tree) : Option R :=
  k (Tree.mk (3 : Int) (0 : Int) ([(Tree.mk x0.op x0.n x0.parts), (Tree.mk x1.op x1.n x1.parts)] : LT))
def f75.b {R : Type} (L N : Nat) (k : Tree → Option R) (x0 : Tree) (x1 : Tree) : Option R :=
  f75.b' L N k x0 x1
def f75 (L N : Nat) (x0 : Tree) (x1 : Tree) : Option (Tree) := f75.b L N some x0 x1
def f75.ent (L N : Nat) := entDa [(.st 1), (.st 1)] (.one (.st 1)) fun d => f75 L N d.1 d.2.1
noncomputable def E75 (L N : Nat) : Env := { P := Tryd.prog, ty := tyOf, Φ := (Φ69 L N), inl := inlT, live := lives, liveX := livesX, L := L, dp := none, prom := promT, heal := healT, ren := renT }
theorem f75.b_eq {R : Type} (L N : Nat) (κ : AV → Option R) (x0 : Tree) (x1 : Tree) :
    evBody (E75 L N) (evCallI (E75 L N) 1 2000) 1000 75 Tryd.f75 [(.tv (.st 1) x0), (.tv (.st 1) x1)] [] [] (finC (.one (.st 1)) κ)
    = f75.b L N (fun a0 => κ (.tv (.st 1) a0)) x0 x1 := by kernel_rfl
theorem f75.ok (L N : Nat) (hΦ : TellsOk Tryd.prog ((Φ69 L N))) : EntOk Tryd.prog 75 (f75.ent L N) := entDa_ok (E := (E75 L N)) (dep := 1000) (f := Tryd.f75) (sound_of hΦ) okP (callI_sound (sound_of hΦ) okP 1 2000) rfl fun d _ hy => (f75.b_eq L N (unR (.one (.st 1))) d.1 d.2.1).trans (Eq.trans (b := f75.b L N some d.1 d.2.1) (by kernel_rfl) hy)
def Φ75 (L N : Nat) : Tells := (addT (Φ69 L N) 75 (f75.ent L N))
theorem Φ75_ok (L N : Nat) : TellsOk Tryd.prog (Φ75 L N) := addT_ok (Φ69_ok L N) (f75.ok L N (Φ69_ok L N))
def f57.s0' {R : Type} (L N : Nat) (self57 : Tree → LT → Option (LS)) (k0_e1 : Int → Int → LT → LS → LS → LS → Option R) (rec0 : Int → Int → Int → Int → LT → LS → LS → LS → Option R) (s4 : Int) (s5 : Int) (s6 : Int) (s7 : Int) (s8 : LT) (s9 : LS) (s10 : LS) (s11 : LS) : Option R :=
  bif (decide (s5 < s4)) then
    bif (decide (0 ≤ s5) && decide (s5 < (s9.length : Int))) then
      bif (decide (0 ≤ (1 : Int)) && decide ((1 : Int) < (s8.length : Int))) then
        (f75 L N (Tree.mk ((listAt s9 (Ty.dflt (.st 3)) s5.toNat).thn.op) ((listAt s9 (Ty.dflt (.st 3)) s5.toNat).thn.n) ((listAt s9 (Ty.dflt (.st 3)) s5.toNat).thn.parts)) (listAt s8 (Ty.dflt (.st 1)) (1 : Int).toNat)).bind fun y18 =>
        bif (decide (s11.length + ([(Step.mk ((listAt s9 (Ty.dflt (.st 3)) s5.toNat).act) (Tree.mk y18.op y18.n y18.parts))] : LS).length ≤ lim)) then
          rec0 s4 (wi (s5 + (1 : Int))) s6 s7 s8 s9 s10 (s11 ++ ([(Step.mk ((listAt s9 (Ty.dflt (.st 3)) s5.toNat).act) (Tree.mk y18.op y18.n y18.parts))] : LS))
        else none
      else none
    else none
  else k0_e1 s6 s7 s8 s9 s10 s11
def f57.s0 {R : Type} (L N : Nat) (self57 : Tree → LT → Option (LS)) (k0_e1 : Int → Int → LT → LS → LS → LS → Option R) (rec0 : Int → Int → Int → Int → LT → LS → LS → LS → Option R) (s4 : Int) (s5 : Int) (s6 : Int) (s7 : Int) (s8 : LT) (s9 : LS) (s10 : LS) (s11 : LS) : Option R :=
  f57.s0' L N self57 k0_e1 rec0 s4 s5 s6 s7 s8 s9 s10 s11
def f57.l0 {R : Type} (L N : Nat) (self57 : Tree → LT → Option (LS)) (k0_e1 : Int → Int → LT → LS → LS → LS → Option R) : Nat → Int → Int → Int → Int → LT → LS → LS → LS → Option R
  | 0, _, _, _, _, _, _, _, _ => none
  | n + 1, s4, s5, s6, s7, s8, s9, s10, s11 => f57.s0 L N self57 k0_e1 (f57.l0 L N self57 k0_e1 n) s4 s5 s6 s7 s8 s9 s10 s11
def f57.T0 (s4 : Int) (s5 : Int) (s6 : Int) (s7 : Int) (s8 : LT) (s9 : LS) (s10 : LS) (s11 : LS) : T := mkT 183 [(2, (.ptr 1002 0)), (5, (.row 1053)), (6, (.row 1059)), (7, (.row 1060)), (61, (.row 1053)), (62, (.tv i64 s4)), (63, (.tv i64 s5))]
def f57.H0 (s4 : Int) (s5 : Int) (s6 : Int) (s7 : Int) (s8 : LT) (s9 : LS) (s10 : LS) (s11 : LS) : H := [(1002, (.box [(.tv i64 s6), (.tv i64 s7), (.tv (.sl (.st 1)) s8)])), (1053, (.row 66 (.st 3) s9)), (1059, (.row 66 (.st 3) s10)), (1060, (.row 66 (.st 3) s11))]
def f57.T0_e1 (z12 : Int) (z13 : Int) (z14 : LT) (z15 : LS) (z16 : LS) (z17 : LS) : T := mkT 183 [(2, (.ptr 1002 0)), (5, (.row 1053)), (6, (.row 1059)), (7, (.row 1060))]
def f57.H0_e1 (z12 : Int) (z13 : Int) (z14 : LT) (z15 : LS) (z16 : LS) (z17 : LS) : H := [(1002, (.box [(.tv i64 z12), (.tv i64 z13), (.tv (.sl (.st 1)) z14)])), (1053, (.row 66 (.st 3) z15)), (1059, (.row 66 (.st 3) z16)), (1060, (.row 66 (.st 3) z17))]
def f57.s1' {R : Type} (L N : Nat) (self57 : Tree → LT → Option (LS)) (k1_e3 : LS → LS → LS → Option R) (rec1 : Int → Int → Int → Int → LT → LS → LS → LS → Option R) (s19 : Int) (s20 : Int) (s21 : Int) (s22 : Int) (s23 : LT) (s24 : LS) (s25 : LS) (s26 : LS) : Option R :=
  bif (decide (s20 < s19)) then
    bif (decide (0 ≤ s20) && decide (s20 < (s25.length : Int))) then
      bif (decide (0 ≤ (0 : Int)) && decide ((0 : Int) < (s23.length : Int))) then
        (f75 L N (listAt s23 (Ty.dflt (.st 1)) (0 : Int).toNat) (Tree.mk ((listAt s25 (Ty.dflt (.st 3)) s20.toNat).thn.op) ((listAt s25 (Ty.dflt (.st 3)) s20.toNat).thn.n) ((listAt s25 (Ty.dflt (.st 3)) s20.toNat).thn.parts))).bind fun y30 =>
        bif (decide (s26.length + ([(Step.mk ((listAt s25 (Ty.dflt (.st 3)) s20.toNat).act) (Tree.mk y30.op y30.n y30.parts))] : LS).length ≤ lim)) then
          rec1 s19 (wi (s20 + (1 : Int))) s21 s22 s23 s24 s25 (s26 ++ ([(Step.mk ((listAt s25 (Ty.dflt (.st 3)) s20.toNat).act) (Tree.mk y30.op y30.n y30.parts))] : LS))
        else none
      else none
    else none
  else k1_e3 s24 s25 s26
def f57.s1 {R : Type} (L N : Nat) (self57 : Tree → LT → Option (LS)) (k1_e3 : LS → LS → LS → Option R) (rec1 : Int → Int → Int → Int → LT → LS → LS → LS → Option R) (s19 : Int) (s20 : Int) (s21 : Int) (s22 : Int) (s23 : LT) (s24 : LS) (s25 : LS) (s26 : LS) : Option R :=
  f57.s1' L N self57 k1_e3 rec1 s19 s20 s21 s22 s23 s24 s25 s26
def f57.l1 {R : Type} (L N : Nat) (self57 : Tree → LT → Option (LS)) (k1_e3 : LS → LS → LS → Option R) : Nat → Int → Int → Int → Int → LT → LS → LS → LS → Option R
  | 0, _, _, _, _, _, _, _, _ => none
  | n + 1, s19, s20, s21, s22, s23, s24, s25, s26 => f57.s1 L N self57 k1_e3 (f57.l1 L N self57 k1_e3 n) s19 s20 s21 s22 s23 s24 s25 s26
def f57.T1 (s19 : Int) (s20 : Int) (s21 : Int) (s22 : Int) (s23 : LT) (s24 : LS) (s25 : LS) (s26 : LS) : T := mkT 183 [(2, (.ptr 1002 0)), (5, (.row 1053)), (6, (.row 1059)), (7, (.row 1060)), (81, (.row 1059)), (82, (.tv i64 s19)), (83, (.tv i64 s20))]
def f57.H1 (s19 : Int) (s20 : Int) (s21 : Int) (s22 : Int) (s23 : LT) (s24 : LS) (s25 : LS) (s26 : LS) : H := [(1002, (.box [(.tv i64 s21), (.tv i64 s22), (.tv (.sl (.st 1)) s23)])), (1053, (.row 66 (.st 3) s24)), (1059, (.row 66 (.st 3) s25)), (1060, (.row 66 (.st 3) s26))]
def f57.T1_e3 (z27 : LS) (z28 : LS) (z29 : LS) : T := mkT 183 [(5, (.row 1053)), (6, (.row 1059)), (7, (.row 1060))]
def f57.H1_e3 (z27 : LS) (z28 : LS) (z29 : LS) : H := [(1053, (.row 66 (.st 3) z27)), (1059, (.row 66 (.st 3) z28)), (1060, (.row 66 (.st 3) z29))]
def f57.j0' {R : Type} (L N : Nat) (self57 : Tree → LT → Option (LS)) (k3_e7 : Int → Int → LS → LS → LS → Option R) (rec3 : Int → Int → Int → Int → Int → Int → Int → LT → LS → LS → LS → Option R) (v53 : Int) (v54 : Int) (v55 : Int) (v56 : Int) (v57 : Bool) (v58 : Int) (v59 : Int) (v60 : Int) (v61 : LT) (v62 : Int) (v63 : Int) (v64 : Int) (v65 : LT) (v66 : LS) (v67 : LS) (v68 : LS) : Option R :=
  bif v57 then
    (f75 L N (Tree.mk v59 v60 v61) (Tree.mk v63 v64 v65)).bind fun y69 =>
    bif (decide (v68.length + ([(Step.mk (0 : Int) (Tree.mk y69.op y69.n y69.parts))] : LS).length ≤ lim)) then
      rec3 v53 v54 v55 (wi (v56 + (1 : Int))) v58 v59 v60 v61 v66 v67 (v68 ++ ([(Step.mk (0 : Int) (Tree.mk y69.op y69.n y69.parts))] : LS))
    else none
  else rec3 v53 v54 v55 (wi (v56 + (1 : Int))) v58 v59 v60 v61 v66 v67 v68
def f57.s3' {R : Type} (L N : Nat) (self57 : Tree → LT → Option (LS)) (k3_e7 : Int → Int → LS → LS → LS → Option R) (rec3 : Int → Int → Int → Int → Int → Int → Int → LT → LS → LS → LS → Option R) (s37 : Int) (s38 : Int) (s39 : Int) (s40 : Int) (s41 : Int) (s42 : Int) (s43 : Int) (s44 : LT) (s45 : LS) (s46 : LS) (s47 : LS) : Option R :=
  bif (decide (s40 < s39)) then
    bif (decide (0 ≤ s40) && decide (s40 < (s46.length : Int))) then
      bif (s41 != (0 : Int)) then
        f57.j0' L N self57 k3_e7 rec3 s37 s38 s39 s40 (s41 == (wi (0 - (listAt s46 (Ty.dflt (.st 3)) s40.toNat).act))) s41 s42 s43 s44 ((listAt s46 (Ty.dflt (.st 3)) s40.toNat).act) ((listAt s46 (Ty.dflt (.st 3)) s40.toNat).thn.op) ((listAt s46 (Ty.dflt (.st 3)) s40.toNat).thn.n) ((listAt s46 (Ty.dflt (.st 3)) s40.toNat).thn.parts) s45 s46 s47
      else f57.j0' L N self57 k3_e7 rec3 s37 s38 s39 s40 false s41 s42 s43 s44 ((listAt s46 (Ty.dflt (.st 3)) s40.toNat).act) ((listAt s46 (Ty.dflt (.st 3)) s40.toNat).thn.op) ((listAt s46 (Ty.dflt (.st 3)) s40.toNat).thn.n) ((listAt s46 (Ty.dflt (.st 3)) s40.toNat).thn.parts) s45 s46 s47
    else none
  else k3_e7 s37 s38 s45 s46 s47
def f57.s3 {R : Type} (L N : Nat) (self57 : Tree → LT → Option (LS)) (k3_e7 : Int → Int → LS → LS → LS → Option R) (rec3 : Int → Int → Int → Int → Int → Int → Int → LT → LS → LS → LS → Option R) (s37 : Int) (s38 : Int) (s39 : Int) (s40 : Int) (s41 : Int) (s42 : Int) (s43 : Int) (s44 : LT) (s45 : LS) (s46 : LS) (s47 : LS) : Option R :=
  f57.s3' L N self57 k3_e7 rec3 s37 s38 s39 s40 s41 s42 s43 s44 s45 s46 s47
def f57.l3 {R : Type} (L N : Nat) (self57 : Tree → LT → Option (LS)) (k3_e7 : Int → Int → LS → LS → LS → Option R) : Nat → Int → Int → Int → Int → Int → Int → Int → LT → LS → LS → LS → Option R
  | 0, _, _, _, _, _, _, _, _, _, _, _ => none
  | n + 1, s37, s38, s39, s40, s41, s42, s43, s44, s45, s46, s47 => f57.s3 L N self57 k3_e7 (f57.l3 L N self57 k3_e7 n) s37 s38 s39 s40 s41 s42 s43 s44 s45 s46 s47
def f57.T3 (s37 : Int) (s38 : Int) (s39 : Int) (s40 : Int) (s41 : Int) (s42 : Int) (s43 : Int) (s44 : LT) (s45 : LS) (s46 : LS) (s47 : LS) : T := mkT 183 [(6, (.row 1059)), (7, (.row 1060)), (13, (.ptr 1013 0)), (101, (.row 1053)), (102, (.tv i64 s37)), (103, (.tv i64 s38)), (107, (.row 1059)), (108, (.tv i64 s39)), (109, (.tv i64 s40))]
def f57.H3 (s37 : Int) (s38 : Int) (s39 : Int) (s40 : Int) (s41 : Int) (s42 : Int) (s43 : Int) (s44 : LT) (s45 : LS) (s46 : LS) (s47 : LS) : H := [(1013, (.box [(.tv i64 s41), (.tv i64 s42), (.tv i64 s43), (.tv (.sl (.st 1)) s44)])), (1053, (.row 66 (.st 3) s45)), (1059, (.row 66 (.st 3) s46)), (1060, (.row 66 (.st 3) s47))]
def f57.T3_e7 (z48 : Int) (z49 : Int) (z50 : LS) (z51 : LS) (z52 : LS) : T := mkT 183 [(6, (.row 1059)), (7, (.row 1060)), (101, (.row 1053)), (102, (.tv i64 z48)), (103, (.tv i64 z49))]
def f57.H3_e7 (z48 : Int) (z49 : Int) (z50 : LS) (z51 : LS) (z52 : LS) : H := [(1053, (.row 66 (.st 3) z50)), (1059, (.row 66 (.st 3) z51)), (1060, (.row 66 (.st 3) z52))]
def f57.p3_e7' {R : Type} (L N : Nat) (self57 : Tree → LT → Option (LS)) (k2_e5 : LS → Option R) (rec2 : Int → Int → LS → LS → LS → Option R) (z48 : Int) (z49 : Int) (z50 : LS) (z51 : LS) (z52 : LS) : Option R :=
  rec2 z48 (wi (z49 + (1 : Int))) z50 z51 z52
def f57.p3_e7 {R : Type} (L N : Nat) (self57 : Tree → LT → Option (LS)) (k2_e5 : LS → Option R) (rec2 : Int → Int → LS → LS → LS → Option R) (z48 : Int) (z49 : Int) (z50 : LS) (z51 : LS) (z52 : LS) : Option R :=
  f57.p3_e7' L N self57 k2_e5 rec2 z48 z49 z50 z51 z52
def f57.s2' {R : Type} (L N : Nat) (self57 : Tree → LT → Option (LS)) (k2_e5 : LS → Option R) (rec2 : Int → Int → LS → LS → LS → Option R) (w3 : Int → Int → Int → Int → Int → Int → Int → LT → LS → LS → LS → Option R) (s31 : Int) (s32 : Int) (s33 : LS) (s34 : LS) (s35 : LS) : Option R :=
  bif (decide (s32 < s31)) then
    bif (decide (0 ≤ s32) && decide (s32 < (s33.length : Int))) then
      w3 s31 s32 (s34.length : Int) (0 : Int) ((listAt s33 (Ty.dflt (.st 3)) s32.toNat).act) ((listAt s33 (Ty.dflt (.st 3)) s32.toNat).thn.op) ((listAt s33 (Ty.dflt (.st 3)) s32.toNat).thn.n) ((listAt s33 (Ty.dflt (.st 3)) s32.toNat).thn.parts) s33 s34 s35
    else none
  else k2_e5 s35
def f57.s2 {R : Type} (L N : Nat) (self57 : Tree → LT → Option (LS)) (k2_e5 : LS → Option R) (rec2 : Int → Int → LS → LS → LS → Option R) (s31 : Int) (s32 : Int) (s33 : LS) (s34 : LS) (s35 : LS) : Option R :=
  f57.s2' L N self57 k2_e5 rec2 (fun s37 s38 s39 s40 s41 s42 s43 s44 s45 s46 s47 => f57.l3 L N self57 (fun z48 z49 z50 z51 z52 => f57.p3_e7 L N self57 k2_e5 rec2 z48 z49 z50 z51 z52) L s37 s38 s39 s40 s41 s42 s43 s44 s45 s46 s47) s31 s32 s33 s34 s35
def f57.l2 {R : Type} (L N : Nat) (self57 : Tree → LT → Option (LS)) (k2_e5 : LS → Option R) : Nat → Int → Int → LS → LS → LS → Option R
  | 0, _, _, _, _, _ => none
  | n + 1, s31, s32, s33, s34, s35 => f57.s2 L N self57 k2_e5 (f57.l2 L N self57 k2_e5 n) s31 s32 s33 s34 s35
def f57.T2 (s31 : Int) (s32 : Int) (s33 : LS) (s34 : LS) (s35 : LS) : T := mkT 183 [(6, (.row 1059)), (7, (.row 1060)), (101, (.row 1053)), (102, (.tv i64 s31)), (103, (.tv i64 s32))]
def f57.H2 (s31 : Int) (s32 : Int) (s33 : LS) (s34 : LS) (s35 : LS) : H := [(1053, (.row 66 (.st 3) s33)), (1059, (.row 66 (.st 3) s34)), (1060, (.row 66 (.st 3) s35))]
def f57.T2_e5 (z36 : LS) : T := mkT 183 [(7, (.row 1060))]
def f57.H2_e5 (z36 : LS) : H := [(1060, (.row 66 (.st 3) z36))]
def f57.p2_e5' {R : Type} (L N : Nat) (self57 : Tree → LT → Option (LS)) (k : LS → Option R) (z36 : LS) : Option R :=
  k z36
def f57.p2_e5 {R : Type} (L N : Nat) (self57 : Tree → LT → Option (LS)) (k : LS → Option R) (z36 : LS) : Option R :=
  f57.p2_e5' L N self57 k z36
def f57.p1_e3' {R : Type} (L N : Nat) (self57 : Tree → LT → Option (LS)) (k : LS → Option R) (w2 : Int → Int → LS → LS → LS → Option R) (z27 : LS) (z28 : LS) (z29 : LS) : Option R :=
  w2 (z27.length : Int) (0 : Int) z27 z28 z29
def f57.p1_e3 {R : Type} (L N : Nat) (self57 : Tree → LT → Option (LS)) (k : LS → Option R) (z27 : LS) (z28 : LS) (z29 : LS) : Option R :=
  f57.p1_e3' L N self57 k (fun s31 s32 s33 s34 s35 => f57.l2 L N self57 (fun z36 => f57.p2_e5 L N self57 k z36) L s31 s32 s33 s34 s35) z27 z28 z29
def f57.p0_e1' {R : Type} (L N : Nat) (self57 : Tree → LT → Option (LS)) (k : LS → Option R) (w1 : Int → Int → Int → Int → LT → LS → LS → LS → Option R) (z12 : Int) (z13 : Int) (z14 : LT) (z15 : LS) (z16 : LS) (z17 : LS) : Option R :=
  w1 (z16.length : Int) (0 : Int) z12 z13 z14 z15 z16 z17
def f57.p0_e1 {R : Type} (L N : Nat) (self57 : Tree → LT → Option (LS)) (k : LS → Option R) (z12 : Int) (z13 : Int) (z14 : LT) (z15 : LS) (z16 : LS) (z17 : LS) : Option R :=
  f57.p0_e1' L N self57 k (fun s19 s20 s21 s22 s23 s24 s25 s26 => f57.l1 L N self57 (fun z27 z28 z29 => f57.p1_e3 L N self57 k z27 z28 z29) L s19 s20 s21 s22 s23 s24 s25 s26) z12 z13 z14 z15 z16 z17
def f57.j1' {R : Type} (L N : Nat) (self57 : Tree → LT → Option (LS)) (k4_e9 : LS → Option R) (rec4 : Int → Int → Int → Int → LT → LS → LS → Option R) (v91 : Int) (v92 : Int) (v93 : Bool) (v94 : Int) (v95 : Int) (v96 : LT) (v97 : Int) (v98 : Int) (v99 : Int) (v100 : LT) (v101 : LS) (v102 : LS) : Option R :=
  bif v93 then
    (f69 L N v95 (Tree.mk v98 v99 v100)).bind fun y103 =>
    bif (decide (v101.length + ([(Step.mk v97 (Tree.mk y103.op y103.n y103.parts))] : LS).length ≤ lim)) then
      rec4 v91 (wi (v92 + (1 : Int))) v94 v95 v96 (v101 ++ ([(Step.mk v97 (Tree.mk y103.op y103.n y103.parts))] : LS)) v102
    else none
  else rec4 v91 (wi (v92 + (1 : Int))) v94 v95 v96 v101 v102
def f57.s4' {R : Type} (L N : Nat) (self57 : Tree → LT → Option (LS)) (k4_e9 : LS → Option R) (rec4 : Int → Int → Int → Int → LT → LS → LS → Option R) (s82 : Int) (s83 : Int) (s84 : Int) (s85 : Int) (s86 : LT) (s87 : LS) (s88 : LS) : Option R :=
  bif (decide (s83 < s82)) then
    bif (decide (0 ≤ s83) && decide (s83 < (s88.length : Int))) then
      bif ((listAt s88 (Ty.dflt (.st 3)) s83.toNat).act == (0 : Int)) then
        f57.j1' L N self57 k4_e9 rec4 s82 s83 true s84 s85 s86 ((listAt s88 (Ty.dflt (.st 3)) s83.toNat).act) ((listAt s88 (Ty.dflt (.st 3)) s83.toNat).thn.op) ((listAt s88 (Ty.dflt (.st 3)) s83.toNat).thn.n) ((listAt s88 (Ty.dflt (.st 3)) s83.toNat).thn.parts) s87 s88
      else (f70 L N ((listAt s88 (Ty.dflt (.st 3)) s83.toNat).act)).bind fun y90 =>
      f57.j1' L N self57 k4_e9 rec4 s82 s83 (y90 != s85) s84 s85 s86 ((listAt s88 (Ty.dflt (.st 3)) s83.toNat).act) ((listAt s88 (Ty.dflt (.st 3)) s83.toNat).thn.op) ((listAt s88 (Ty.dflt (.st 3)) s83.toNat).thn.n) ((listAt s88 (Ty.dflt (.st 3)) s83.toNat).thn.parts) s87 s88
    else none
  else k4_e9 s87
def f57.s4 {R : Type} (L N : Nat) (self57 : Tree → LT → Option (LS)) (k4_e9 : LS → Option R) (rec4 : Int → Int → Int → Int → LT → LS → LS → Option R) (s82 : Int) (s83 : Int) (s84 : Int) (s85 : Int) (s86 : LT) (s87 : LS) (s88 : LS) : Option R :=
  f57.s4' L N self57 k4_e9 rec4 s82 s83 s84 s85 s86 s87 s88
def f57.l4 {R : Type} (L N : Nat) (self57 : Tree → LT → Option (LS)) (k4_e9 : LS → Option R) : Nat → Int → Int → Int → Int → LT → LS → LS → Option R
  | 0, _, _, _, _, _, _, _ => none
  | n + 1, s82, s83, s84, s85, s86, s87, s88 => f57.s4 L N self57 k4_e9 (f57.l4 L N self57 k4_e9 n) s82 s83 s84 s85 s86 s87 s88
def f57.T4 (s82 : Int) (s83 : Int) (s84 : Int) (s85 : Int) (s86 : LT) (s87 : LS) (s88 : LS) : T := mkT 183 [(2, (.ptr 1002 0)), (16, (.row 1138)), (144, (.row 1144)), (145, (.tv i64 s82)), (146, (.tv i64 s83))]
def f57.H4 (s82 : Int) (s83 : Int) (s84 : Int) (s85 : Int) (s86 : LT) (s87 : LS) (s88 : LS) : H := [(1002, (.box [(.tv i64 s84), (.tv i64 s85), (.tv (.sl (.st 1)) s86)])), (1138, (.row 66 (.st 3) s87)), (1144, (.row 66 (.st 3) s88))]
def f57.T4_e9 (z89 : LS) : T := mkT 183 [(16, (.row 1138))]
def f57.H4_e9 (z89 : LS) : H := [(1138, (.row 66 (.st 3) z89))]
def f57.p4_e9' {R : Type} (L N : Nat) (self57 : Tree → LT → Option (LS)) (k : LS → Option R) (z89 : LS) : Option R :=
  k z89
def f57.p4_e9 {R : Type} (L N : Nat) (self57 : Tree → LT → Option (LS)) (k : LS → Option R) (z89 : LS) : Option R :=
  f57.p4_e9' L N self57 k z89
def f57.b' {R : Type} (L N : Nat) (self57 : Tree → LT → Option (LS)) (k : LS → Option R) (w0 : Int → Int → Int → Int → LT → LS → LS → LS → Option R) (w4 : Int → Int → Int → Int → LT → LS → LS → Option R) (x0 : Tree) (x1 : LT) : Option R :=
  bif (x0.op == (1 : Int)) then
    bif (decide (0 ≤ (0 : Int)) && decide ((0 : Int) < (x0.parts.length : Int))) then
      k ([(Step.mk x0.n (Tree.mk ((listAt x0.parts (Ty.dflt (.st 1)) (0 : Int).toNat).op) ((listAt x0.parts (Ty.dflt (.st 1)) (0 : Int).toNat).n) ((listAt x0.parts (Ty.dflt (.st 1)) (0 : Int).toNat).parts)))] : LS)
    else none
  else bif (x0.op == (2 : Int)) then
    bif (decide (0 ≤ (0 : Int)) && decide ((0 : Int) < (x0.parts.length : Int))) then
      (self57 (listAt x0.parts (Ty.dflt (.st 1)) (0 : Int).toNat) x1).bind fun y0 =>
      bif (decide (0 ≤ (1 : Int)) && decide ((1 : Int) < (x0.parts.length : Int))) then
        (self57 (listAt x0.parts (Ty.dflt (.st 1)) (1 : Int).toNat) x1).bind fun y1 =>
        bif (decide (y0.length + y1.length ≤ lim)) then
          k (y0 ++ y1)
        else none
      else none
    else none
  else bif (x0.op == (3 : Int)) then
    bif (decide (0 ≤ (0 : Int)) && decide ((0 : Int) < (x0.parts.length : Int))) then
      (self57 (listAt x0.parts (Ty.dflt (.st 1)) (0 : Int).toNat) x1).bind fun y2 =>
      bif (decide (0 ≤ (1 : Int)) && decide ((1 : Int) < (x0.parts.length : Int))) then
        (self57 (listAt x0.parts (Ty.dflt (.st 1)) (1 : Int).toNat) x1).bind fun y3 =>
        w0 (y2.length : Int) (0 : Int) x0.op x0.n x0.parts y2 y3 ([] : LS)
      else none
    else none
  else bif (x0.op == (4 : Int)) then
    bif (decide (0 ≤ (0 : Int)) && decide ((0 : Int) < (x0.parts.length : Int))) then
      (self57 (listAt x0.parts (Ty.dflt (.st 1)) (0 : Int).toNat) x1).bind fun y81 =>
      w4 (y81.length : Int) (0 : Int) x0.op x0.n x0.parts ([] : LS) y81
    else none
  else bif (x0.op == (5 : Int)) then
    bif (decide (0 ≤ x0.n) && decide (x0.n < (x1.length : Int))) then
      (self57 (listAt x1 (Ty.dflt (.st 1)) x0.n.toNat) x1).bind fun y111 =>
      k y111
    else none
  else k []
def f57.b {R : Type} (L N : Nat) (self57 : Tree → LT → Option (LS)) (k : LS → Option R) (x0 : Tree) (x1 : LT) : Option R :=
  f57.b' L N self57 k (fun s4 s5 s6 s7 s8 s9 s10 s11 => f57.l0 L N self57 (fun z12 z13 z14 z15 z16 z17 => f57.p0_e1 L N self57 k z12 z13 z14 z15 z16 z17) L s4 s5 s6 s7 s8 s9 s10 s11) (fun s82 s83 s84 s85 s86 s87 s88 => f57.l4 L N self57 (fun z89 => f57.p4_e9 L N self57 k z89) L s82 s83 s84 s85 s86 s87 s88) x0 x1
def f57 (L N : Nat) : Nat → Tree → LT → Option (LS)
  | 0, _, _ => none
  | n + 1, x0, x1 => f57.b L N (f57 L N n) some x0 x1
def f57.ent (L N m : Nat) (args : List AV) (vw : View) (site : Nat) : Ans := match coeD [(.st 1), (.sl (.st 1))] vw args with
  | some (d, u) => ⟨LS, f57 L N m d.1 d.2.1, fun y => (.row site, u ++ [(site, some (.row 66 (.st 3) y))], [])⟩
  | none => Ans.no
def Φ57s (L N m : Nat) : Tells := (addT (Φ75 L N) 57 (f57.ent L N m))
noncomputable def E57 (L N m : Nat) : Env := { P := Tryd.prog, ty := tyOf, Φ := Φ57s L N m, inl := inlT, live := lives, liveX := livesX, L := L, dp := none, prom := promT, heal := healT, ren := renT }
noncomputable def f57.c0 : Code := loopAt 1 (codeOf Tryd.f57)
def f57.X0_e1 {R : Type} (κ : KX R) := fun z12 z13 z14 z15 z16 z17 => κ (.exit 1) (f57.T0_e1 z12 z13 z14 z15 z16 z17) (f57.H0_e1 z12 z13 z14 z15 z16 z17)
def f57.R0 {R : Type} (rec : KT R) := fun s4 s5 s6 s7 s8 s9 s10 s11 => rec (f57.T0 s4 s5 s6 s7 s8 s9 s10 s11) (f57.H0 s4 s5 s6 s7 s8 s9 s10 s11)
theorem f57.s0_eq {R : Type} (L N m : Nat) (κ : KX R) (rec : KT R) (s4 : Int) (s5 : Int) (s6 : Int) (s7 : Int) (s8 : LT) (s9 : LS) (s10 : LS) (s11 : LS) :
    evRd (E57 L N m) (evCallI (E57 L N m) 1 2000) 1000 57 183 1 f57.c0 κ rec (f57.T0 s4 s5 s6 s7 s8 s9 s10 s11) (f57.H0 s4 s5 s6 s7 s8 s9 s10 s11)
    = f57.s0 L N (f57 L N m) (f57.X0_e1 κ) (f57.R0 rec) s4 s5 s6 s7 s8 s9 s10 s11 := by kernel_rfl
theorem f57.l0_eq {R : Type} (L N m : Nat) (κ : KX R) : ∀ (n : Nat) (s4 : Int) (s5 : Int) (s6 : Int) (s7 : Int) (s8 : LT) (s9 : LS) (s10 : LS) (s11 : LS),
    evLp (E57 L N m) (evCallI (E57 L N m) 1 2000) 1000 57 183 1 f57.c0 κ n (f57.T0 s4 s5 s6 s7 s8 s9 s10 s11) (f57.H0 s4 s5 s6 s7 s8 s9 s10 s11)
    = f57.l0 L N (f57 L N m) (f57.X0_e1 κ) n s4 s5 s6 s7 s8 s9 s10 s11 := by
  intro n
  induction n with
  | zero => intros; rfl
  | succ n ih =>
    intro s4 s5 s6 s7 s8 s9 s10 s11
    rw [evLp_succ, f57.s0_eq]
    delta f57.R0
    simp only [ih]
    rfl
noncomputable def f57.c1 : Code := loopAt 3 (codeOf Tryd.f57)
def f57.X1_e3 {R : Type} (κ : KX R) := fun z27 z28 z29 => κ (.exit 3) (f57.T1_e3 z27 z28 z29) (f57.H1_e3 z27 z28 z29)
def f57.R1 {R : Type} (rec : KT R) := fun s19 s20 s21 s22 s23 s24 s25 s26 => rec (f57.T1 s19 s20 s21 s22 s23 s24 s25 s26) (f57.H1 s19 s20 s21 s22 s23 s24 s25 s26)
theorem f57.s1_eq {R : Type} (L N m : Nat) (κ : KX R) (rec : KT R) (s19 : Int) (s20 : Int) (s21 : Int) (s22 : Int) (s23 : LT) (s24 : LS) (s25 : LS) (s26 : LS) :
    evRd (E57 L N m) (evCallI (E57 L N m) 1 2000) 1000 57 183 3 f57.c1 κ rec (f57.T1 s19 s20 s21 s22 s23 s24 s25 s26) (f57.H1 s19 s20 s21 s22 s23 s24 s25 s26)
    = f57.s1 L N (f57 L N m) (f57.X1_e3 κ) (f57.R1 rec) s19 s20 s21 s22 s23 s24 s25 s26 := by kernel_rfl
theorem f57.l1_eq {R : Type} (L N m : Nat) (κ : KX R) : ∀ (n : Nat) (s19 : Int) (s20 : Int) (s21 : Int) (s22 : Int) (s23 : LT) (s24 : LS) (s25 : LS) (s26 : LS),
    evLp (E57 L N m) (evCallI (E57 L N m) 1 2000) 1000 57 183 3 f57.c1 κ n (f57.T1 s19 s20 s21 s22 s23 s24 s25 s26) (f57.H1 s19 s20 s21 s22 s23 s24 s25 s26)
    = f57.l1 L N (f57 L N m) (f57.X1_e3 κ) n s19 s20 s21 s22 s23 s24 s25 s26 := by
  intro n
  induction n with
  | zero => intros; rfl
  | succ n ih =>
    intro s19 s20 s21 s22 s23 s24 s25 s26
    rw [evLp_succ, f57.s1_eq]
    delta f57.R1
    simp only [ih]
    rfl
noncomputable def f57.c2 : Code := loopAt 5 (codeOf Tryd.f57)
noncomputable def f57.c3 : Code := loopAt 7 f57.c2
def f57.X3_e7 {R : Type} (κ : KX R) := fun z48 z49 z50 z51 z52 => κ (.exit 7) (f57.T3_e7 z48 z49 z50 z51 z52) (f57.H3_e7 z48 z49 z50 z51 z52)
def f57.R3 {R : Type} (rec : KT R) := fun s37 s38 s39 s40 s41 s42 s43 s44 s45 s46 s47 => rec (f57.T3 s37 s38 s39 s40 s41 s42 s43 s44 s45 s46 s47) (f57.H3 s37 s38 s39 s40 s41 s42 s43 s44 s45 s46 s47)
theorem f57.s3_eq {R : Type} (L N m : Nat) (κ : KX R) (rec : KT R) (s37 : Int) (s38 : Int) (s39 : Int) (s40 : Int) (s41 : Int) (s42 : Int) (s43 : Int) (s44 : LT) (s45 : LS) (s46 : LS) (s47 : LS) :
    evRd (E57 L N m) (evCallI (E57 L N m) 1 2000) 1000 57 183 7 f57.c3 κ rec (f57.T3 s37 s38 s39 s40 s41 s42 s43 s44 s45 s46 s47) (f57.H3 s37 s38 s39 s40 s41 s42 s43 s44 s45 s46 s47)
    = f57.s3 L N (f57 L N m) (f57.X3_e7 κ) (f57.R3 rec) s37 s38 s39 s40 s41 s42 s43 s44 s45 s46 s47 := by kernel_rfl
theorem f57.l3_eq {R : Type} (L N m : Nat) (κ : KX R) : ∀ (n : Nat) (s37 : Int) (s38 : Int) (s39 : Int) (s40 : Int) (s41 : Int) (s42 : Int) (s43 : Int) (s44 : LT) (s45 : LS) (s46 : LS) (s47 : LS),
    evLp (E57 L N m) (evCallI (E57 L N m) 1 2000) 1000 57 183 7 f57.c3 κ n (f57.T3 s37 s38 s39 s40 s41 s42 s43 s44 s45 s46 s47) (f57.H3 s37 s38 s39 s40 s41 s42 s43 s44 s45 s46 s47)
    = f57.l3 L N (f57 L N m) (f57.X3_e7 κ) n s37 s38 s39 s40 s41 s42 s43 s44 s45 s46 s47 := by
  intro n
  induction n with
  | zero => intros; rfl
  | succ n ih =>
    intro s37 s38 s39 s40 s41 s42 s43 s44 s45 s46 s47
    rw [evLp_succ, f57.s3_eq]
    delta f57.R3
    simp only [ih]
    rfl
end Go.Proofs.YthidlhjjnaldhaaDoor.Ev
