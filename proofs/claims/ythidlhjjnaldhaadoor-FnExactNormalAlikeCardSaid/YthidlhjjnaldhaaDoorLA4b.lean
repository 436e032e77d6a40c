/- The seat's functions as plain functions, continued: made by program (wip/gen/gen.py). -/
import Derived.Test.YthidlhjjnaldhaaDoorLA4a
namespace Go.Proofs.YthidlhjjnaldhaaDoor.Ev
open Go
set_option linter.unusedVariables false
set_option maxRecDepth 20000
def f57.X2_e5 {R : Type} (κ : KX R) := fun z36 => κ (.exit 5) (f57.T2_e5 z36) (f57.H2_e5 z36)
def f57.R2 {R : Type} (rec : KT R) := fun s31 s32 s33 s34 s35 => rec (f57.T2 s31 s32 s33 s34 s35) (f57.H2 s31 s32 s33 s34 s35)
theorem f57.p3_e7_eq {R : Type} (L N m : Nat) (κ : KX R) (rec : KT R) (z48 : Int) (z49 : Int) (z50 : LS) (z51 : LS) (z52 : LS) :
    (contAt (E57 L N m) (evCallI (E57 L N m) 1 2000) 1000 57 183 7 f57.c2 (rdK (E57 L N m) 1000 57 183 5 κ rec)) (.exit 7) (f57.T3_e7 z48 z49 z50 z51 z52) (f57.H3_e7 z48 z49 z50 z51 z52)
    = f57.p3_e7 L N (f57 L N m) (f57.X2_e5 κ) (f57.R2 rec) z48 z49 z50 z51 z52 := by kernel_rfl
theorem f57.s2_eq {R : Type} (L N m : Nat) (κ : KX R) (rec : KT R) (s31 : Int) (s32 : Int) (s33 : LS) (s34 : LS) (s35 : LS) :
    evRd (E57 L N m) (evCallI (E57 L N m) 1 2000) 1000 57 183 5 f57.c2 κ rec (f57.T2 s31 s32 s33 s34 s35) (f57.H2 s31 s32 s33 s34 s35)
    = f57.s2 L N (f57 L N m) (f57.X2_e5 κ) (f57.R2 rec) s31 s32 s33 s34 s35 := by
  refine Eq.trans (b := f57.s2' L N (f57 L N m) (f57.X2_e5 κ) (f57.R2 rec) (fun s37 s38 s39 s40 s41 s42 s43 s44 s45 s46 s47 => evLp (E57 L N m) (evCallI (E57 L N m) 1 2000) 1000 57 183 7 f57.c3 (contAt (E57 L N m) (evCallI (E57 L N m) 1 2000) 1000 57 183 7 f57.c2 (rdK (E57 L N m) 1000 57 183 5 κ rec)) L (f57.T3 s37 s38 s39 s40 s41 s42 s43 s44 s45 s46 s47) (f57.H3 s37 s38 s39 s40 s41 s42 s43 s44 s45 s46 s47)) s31 s32 s33 s34 s35) (by kernel_rfl) ?_
  unfold f57.s2
  simp only [f57.l3_eq]
  delta f57.X3_e7
  simp only [f57.p3_e7_eq]
theorem f57.l2_eq {R : Type} (L N m : Nat) (κ : KX R) : ∀ (n : Nat) (s31 : Int) (s32 : Int) (s33 : LS) (s34 : LS) (s35 : LS),
    evLp (E57 L N m) (evCallI (E57 L N m) 1 2000) 1000 57 183 5 f57.c2 κ n (f57.T2 s31 s32 s33 s34 s35) (f57.H2 s31 s32 s33 s34 s35)
    = f57.l2 L N (f57 L N m) (f57.X2_e5 κ) n s31 s32 s33 s34 s35 := by
  intro n
  induction n with
  | zero => intros; rfl
  | succ n ih =>
    intro s31 s32 s33 s34 s35
    rw [evLp_succ, f57.s2_eq]
    delta f57.R2
    simp only [ih]
    rfl
theorem f57.p2_e5_eq {R : Type} (L N m : Nat) (κ : List Step → Option R) (z36 : LS) :
    (contAt (E57 L N m) (evCallI (E57 L N m) 1 2000) 1000 57 183 5 (codeOf Tryd.f57) (finK (E57 L N m) 1000 Tryd.f57 (finRow 66 (.st 3) κ))) (.exit 5) (f57.T2_e5 z36) (f57.H2_e5 z36)
    = f57.p2_e5 L N (f57 L N m) κ z36 := by kernel_rfl
theorem f57.p1_e3_eq {R : Type} (L N m : Nat) (κ : List Step → Option R) (z27 : LS) (z28 : LS) (z29 : LS) :
    (contAt (E57 L N m) (evCallI (E57 L N m) 1 2000) 1000 57 183 3 (codeOf Tryd.f57) (finK (E57 L N m) 1000 Tryd.f57 (finRow 66 (.st 3) κ))) (.exit 3) (f57.T1_e3 z27 z28 z29) (f57.H1_e3 z27 z28 z29)
    = f57.p1_e3 L N (f57 L N m) κ z27 z28 z29 := by
  refine Eq.trans (b := f57.p1_e3' L N (f57 L N m) κ (fun s31 s32 s33 s34 s35 => evLp (E57 L N m) (evCallI (E57 L N m) 1 2000) 1000 57 183 5 f57.c2 (contAt (E57 L N m) (evCallI (E57 L N m) 1 2000) 1000 57 183 5 (codeOf Tryd.f57) (finK (E57 L N m) 1000 Tryd.f57 (finRow 66 (.st 3) κ))) L (f57.T2 s31 s32 s33 s34 s35) (f57.H2 s31 s32 s33 s34 s35)) z27 z28 z29) (by kernel_rfl) ?_
  unfold f57.p1_e3
  simp only [f57.l2_eq]
  delta f57.X2_e5
  simp only [f57.p2_e5_eq]
theorem f57.p0_e1_eq {R : Type} (L N m : Nat) (κ : List Step → Option R) (z12 : Int) (z13 : Int) (z14 : LT) (z15 : LS) (z16 : LS) (z17 : LS) :
    (contAt (E57 L N m) (evCallI (E57 L N m) 1 2000) 1000 57 183 1 (codeOf Tryd.f57) (finK (E57 L N m) 1000 Tryd.f57 (finRow 66 (.st 3) κ))) (.exit 1) (f57.T0_e1 z12 z13 z14 z15 z16 z17) (f57.H0_e1 z12 z13 z14 z15 z16 z17)
    = f57.p0_e1 L N (f57 L N m) κ z12 z13 z14 z15 z16 z17 := by
  refine Eq.trans (b := f57.p0_e1' L N (f57 L N m) κ (fun s19 s20 s21 s22 s23 s24 s25 s26 => evLp (E57 L N m) (evCallI (E57 L N m) 1 2000) 1000 57 183 3 f57.c1 (contAt (E57 L N m) (evCallI (E57 L N m) 1 2000) 1000 57 183 3 (codeOf Tryd.f57) (finK (E57 L N m) 1000 Tryd.f57 (finRow 66 (.st 3) κ))) L (f57.T1 s19 s20 s21 s22 s23 s24 s25 s26) (f57.H1 s19 s20 s21 s22 s23 s24 s25 s26)) z12 z13 z14 z15 z16 z17) (by kernel_rfl) ?_
  unfold f57.p0_e1
  simp only [f57.l1_eq]
  delta f57.X1_e3
  simp only [f57.p1_e3_eq]
noncomputable def f57.c4 : Code := loopAt 9 (codeOf Tryd.f57)
def f57.X4_e9 {R : Type} (κ : KX R) := fun z89 => κ (.exit 9) (f57.T4_e9 z89) (f57.H4_e9 z89)
def f57.R4 {R : Type} (rec : KT R) := fun s82 s83 s84 s85 s86 s87 s88 => rec (f57.T4 s82 s83 s84 s85 s86 s87 s88) (f57.H4 s82 s83 s84 s85 s86 s87 s88)
theorem f57.s4_eq {R : Type} (L N m : Nat) (κ : KX R) (rec : KT R) (s82 : Int) (s83 : Int) (s84 : Int) (s85 : Int) (s86 : LT) (s87 : LS) (s88 : LS) :
    evRd (E57 L N m) (evCallI (E57 L N m) 1 2000) 1000 57 183 9 f57.c4 κ rec (f57.T4 s82 s83 s84 s85 s86 s87 s88) (f57.H4 s82 s83 s84 s85 s86 s87 s88)
    = f57.s4 L N (f57 L N m) (f57.X4_e9 κ) (f57.R4 rec) s82 s83 s84 s85 s86 s87 s88 := by kernel_rfl
theorem f57.l4_eq {R : Type} (L N m : Nat) (κ : KX R) : ∀ (n : Nat) (s82 : Int) (s83 : Int) (s84 : Int) (s85 : Int) (s86 : LT) (s87 : LS) (s88 : LS),
    evLp (E57 L N m) (evCallI (E57 L N m) 1 2000) 1000 57 183 9 f57.c4 κ n (f57.T4 s82 s83 s84 s85 s86 s87 s88) (f57.H4 s82 s83 s84 s85 s86 s87 s88)
    = f57.l4 L N (f57 L N m) (f57.X4_e9 κ) n s82 s83 s84 s85 s86 s87 s88 := by
  intro n
  induction n with
  | zero => intros; rfl
  | succ n ih =>
    intro s82 s83 s84 s85 s86 s87 s88
    rw [evLp_succ, f57.s4_eq]
    delta f57.R4
    simp only [ih]
    rfl
theorem f57.p4_e9_eq {R : Type} (L N m : Nat) (κ : List Step → Option R) (z89 : LS) :
    (contAt (E57 L N m) (evCallI (E57 L N m) 1 2000) 1000 57 183 9 (codeOf Tryd.f57) (finK (E57 L N m) 1000 Tryd.f57 (finRow 66 (.st 3) κ))) (.exit 9) (f57.T4_e9 z89) (f57.H4_e9 z89)
    = f57.p4_e9 L N (f57 L N m) κ z89 := by kernel_rfl
theorem f57.b_eq {R : Type} (L N m : Nat) (κ : List Step → Option R) (x0 : Tree) (x1 : LT) :
    evBody (E57 L N m) (evCallI (E57 L N m) 1 2000) 1000 57 Tryd.f57 [(.tv (.st 1) x0), (.tv (.sl (.st 1)) x1)] [] [] (finRow 66 (.st 3) κ)
    = f57.b L N (f57 L N m) κ x0 x1 := by
  refine Eq.trans (b := f57.b' L N (f57 L N m) κ (fun s4 s5 s6 s7 s8 s9 s10 s11 => evLp (E57 L N m) (evCallI (E57 L N m) 1 2000) 1000 57 183 1 f57.c0 (contAt (E57 L N m) (evCallI (E57 L N m) 1 2000) 1000 57 183 1 (codeOf Tryd.f57) (finK (E57 L N m) 1000 Tryd.f57 (finRow 66 (.st 3) κ))) L (f57.T0 s4 s5 s6 s7 s8 s9 s10 s11) (f57.H0 s4 s5 s6 s7 s8 s9 s10 s11)) (fun s82 s83 s84 s85 s86 s87 s88 => evLp (E57 L N m) (evCallI (E57 L N m) 1 2000) 1000 57 183 9 f57.c4 (contAt (E57 L N m) (evCallI (E57 L N m) 1 2000) 1000 57 183 9 (codeOf Tryd.f57) (finK (E57 L N m) 1000 Tryd.f57 (finRow 66 (.st 3) κ))) L (f57.T4 s82 s83 s84 s85 s86 s87 s88) (f57.H4 s82 s83 s84 s85 s86 s87 s88)) x0 x1) (by kernel_rfl) ?_
  unfold f57.b
  simp only [f57.l0_eq, f57.l4_eq]
  delta f57.X0_e1 f57.X4_e9
  simp only [f57.p0_e1_eq, f57.p4_e9_eq]
theorem f57.ok (L N m : Nat) (hΦ : TellsOk Tryd.prog (Φ57s L N m)) : EntOk Tryd.prog 57 (f57.ent L N (m + 1)) := by
  intro args vw site h
  unfold f57.ent
  split
  · rename_i d u ha
    intro y hy hs
    refine call_row (dep := 1000) (E := (E57 L N m)) (sound_of hΦ) okP (callI_sound (sound_of hΦ) okP 1 2000) (f := Tryd.f57) rfl hs ha ?_ site
    exact (f57.b_eq L N m some d.1 d.2.1).trans hy
  · intro y hy
    cases hy
theorem Φ57s_ok (L N : Nat) : ∀ m, TellsOk Tryd.prog (Φ57s L N m) := by
  intro m
  induction m with
  | zero => exact (addT_ok (Φ75_ok L N) (fun args vw site h => by unfold f57.ent; split <;> (intro y hy; cases hy)))
  | succ m ih => exact (addT_ok (Φ75_ok L N) (f57.ok L N m ih))
def Φ57 (L N : Nat) : Tells := (addT (Φ75 L N) 57 (f57.ent L N N))
theorem Φ57_ok (L N : Nat) : TellsOk Tryd.prog (Φ57 L N) := Φ57s_ok L N N
def f58.b' {R : Type} (L N : Nat) (k : Tree → Option R) (x0 : Int) (x1 : Tree) : Option R :=
  k (Tree.mk (1 : Int) x0 ([(Tree.mk x1.op x1.n x1.parts)] : LT))
def f58.b {R : Type} (L N : Nat) (k : Tree → Option R) (x0 : Int) (x1 : Tree) : Option R :=
  f58.b' L N k x0 x1
def f58 (L N : Nat) (x0 : Int) (x1 : Tree) : Option (Tree) := f58.b L N some x0 x1
def f58.ent (L N : Nat) := entDa [i64, (.st 1)] (.one (.st 1)) fun d => f58 L N d.1 d.2.1
noncomputable def E58 (L N : Nat) : Env := { P := Tryd.prog, ty := tyOf, Φ := (Φ57 L N), inl := inlT, live := lives, liveX := livesX, L := L, dp := none, prom := promT, heal := healT, ren := renT }
theorem f58.b_eq {R : Type} (L N : Nat) (κ : AV → Option R) (x0 : Int) (x1 : Tree) :
    evBody (E58 L N) (evCallI (E58 L N) 1 2000) 1000 58 Tryd.f58 [(.tv i64 x0), (.tv (.st 1) x1)] [] [] (finC (.one (.st 1)) κ)
    = f58.b L N (fun a0 => κ (.tv (.st 1) a0)) x0 x1 := by kernel_rfl
theorem f58.ok (L N : Nat) (hΦ : TellsOk Tryd.prog ((Φ57 L N))) : EntOk Tryd.prog 58 (f58.ent L N) := entDa_ok (E := (E58 L N)) (dep := 1000) (f := Tryd.f58) (sound_of hΦ) okP (callI_sound (sound_of hΦ) okP 1 2000) rfl fun d _ hy => (f58.b_eq L N (unR (.one (.st 1))) d.1 d.2.1).trans (Eq.trans (b := f58.b L N some d.1 d.2.1) (by kernel_rfl) hy)
def Φ58 (L N : Nat) : Tells := (addT (Φ57 L N) 58 (f58.ent L N))
theorem Φ58_ok (L N : Nat) : TellsOk Tryd.prog (Φ58 L N) := addT_ok (Φ57_ok L N) (f58.ok L N (Φ57_ok L N))
def f60.s0' {R : Type} (L N : Nat) (k0_e0 : Int → Int → Int → Int → LT → Option R) (rec0 : LT → Int → Int → Int → Int → Int → LT → Option R) (s0 : LT) (s1 : Int) (s2 : Int) (s3 : Int) (s4 : Int) (s5 : Int) (s6 : LT) : Option R :=
  bif (decide (s1 ≥ (0 : Int))) then
    bif (decide (0 ≤ s1) && decide (s1 < (s0.length : Int))) then
      rec0 s0 (wi (s1 - (1 : Int))) s2 s3 ((Tree.mk (2 : Int) (0 : Int) ([(listAt s0 (Ty.dflt (.st 1)) s1.toNat), (Tree.mk s4 s5 s6)] : LT)).op) ((Tree.mk (2 : Int) (0 : Int) ([(listAt s0 (Ty.dflt (.st 1)) s1.toNat), (Tree.mk s4 s5 s6)] : LT)).n) ((Tree.mk (2 : Int) (0 : Int) ([(listAt s0 (Ty.dflt (.st 1)) s1.toNat), (Tree.mk s4 s5 s6)] : LT)).parts)
    else none
  else k0_e0 s2 s3 s4 s5 s6
def f60.s0 {R : Type} (L N : Nat) (k0_e0 : Int → Int → Int → Int → LT → Option R) (rec0 : LT → Int → Int → Int → Int → Int → LT → Option R) (s0 : LT) (s1 : Int) (s2 : Int) (s3 : Int) (s4 : Int) (s5 : Int) (s6 : LT) : Option R :=
  f60.s0' L N k0_e0 rec0 s0 s1 s2 s3 s4 s5 s6
def f60.l0 {R : Type} (L N : Nat) (k0_e0 : Int → Int → Int → Int → LT → Option R) : Nat → LT → Int → Int → Int → Int → Int → LT → Option R
  | 0, _, _, _, _, _, _, _ => none
  | n + 1, s0, s1, s2, s3, s4, s5, s6 => f60.s0 L N k0_e0 (f60.l0 L N k0_e0 n) s0 s1 s2 s3 s4 s5 s6
def f60.T0 (s0 : LT) (s1 : Int) (s2 : Int) (s3 : Int) (s4 : Int) (s5 : Int) (s6 : LT) : T := mkT 30 [(0, (.tv (.sl (.st 1)) s0)), (2, (.ptr 1002 0)), (3, (.ptr 1003 0)), (4, (.tv i64 s1))]
def f60.H0 (s0 : LT) (s1 : Int) (s2 : Int) (s3 : Int) (s4 : Int) (s5 : Int) (s6 : LT) : H := [(1002, (.box [(.tv i64 s2), (.tv i64 s3), .nil])), (1003, (.box [(.tv i64 s4), (.tv i64 s5), (.tv (.sl (.st 1)) s6)]))]
def f60.T0_e0 (z7 : Int) (z8 : Int) (z9 : Int) (z10 : Int) (z11 : LT) : T := mkT 30 [(2, (.ptr 1002 0)), (3, (.ptr 1003 0))]
def f60.H0_e0 (z7 : Int) (z8 : Int) (z9 : Int) (z10 : Int) (z11 : LT) : H := [(1002, (.box [(.tv i64 z7), (.tv i64 z8), .nil])), (1003, (.box [(.tv i64 z9), (.tv i64 z10), (.tv (.sl (.st 1)) z11)]))]
def f60.p0_e0' {R : Type} (L N : Nat) (k : Tree → Option R) (z7 : Int) (z8 : Int) (z9 : Int) (z10 : Int) (z11 : LT) : Option R :=
  k (Tree.mk ((Tree.mk z9 z10 z11).op) ((Tree.mk z9 z10 z11).n) ((Tree.mk z9 z10 z11).parts))
def f60.p0_e0 {R : Type} (L N : Nat) (k : Tree → Option R) (z7 : Int) (z8 : Int) (z9 : Int) (z10 : Int) (z11 : LT) : Option R :=
  f60.p0_e0' L N k z7 z8 z9 z10 z11
def f60.b' {R : Type} (L N : Nat) (k : Tree → Option R) (w0 : LT → Int → Int → Int → Int → Int → LT → Option R) (x0 : LT) : Option R :=
  bif ((x0.length : Int) == (0 : Int)) then
    k (Tree.mk ((Tree.mk (0 : Int) (0 : Int) []).op) ((Tree.mk (0 : Int) (0 : Int) []).n) ((Tree.mk (0 : Int) (0 : Int) []).parts))
  else bif (decide (0 ≤ (wi ((x0.length : Int) - (1 : Int)))) && decide ((wi ((x0.length : Int) - (1 : Int))) < (x0.length : Int))) then
    w0 x0 (wi ((x0.length : Int) - (2 : Int))) (0 : Int) (0 : Int) ((listAt x0 (Ty.dflt (.st 1)) (wi ((x0.length : Int) - (1 : Int))).toNat).op) ((listAt x0 (Ty.dflt (.st 1)) (wi ((x0.length : Int) - (1 : Int))).toNat).n) ((listAt x0 (Ty.dflt (.st 1)) (wi ((x0.length : Int) - (1 : Int))).toNat).parts)
  else none
def f60.b {R : Type} (L N : Nat) (k : Tree → Option R) (x0 : LT) : Option R :=
  f60.b' L N k (fun s0 s1 s2 s3 s4 s5 s6 => f60.l0 L N (fun z7 z8 z9 z10 z11 => f60.p0_e0 L N k z7 z8 z9 z10 z11) L s0 s1 s2 s3 s4 s5 s6) x0
def f60 (L N : Nat) (x0 : LT) : Option (Tree) := f60.b L N some x0
def f60.ent (L N : Nat) := entDa [(.sl (.st 1))] (.one (.st 1)) fun d => f60 L N d.1
noncomputable def E60 (L N : Nat) : Env := { P := Tryd.prog, ty := tyOf, Φ := (Φ58 L N), inl := inlT, live := lives, liveX := livesX, L := L, dp := none, prom := promT, heal := healT, ren := renT, zd := true }
noncomputable def f60.c0 : Code := loopAt 0 (codeOf Tryd.f60)
def f60.X0_e0 {R : Type} (κ : KX R) := fun z7 z8 z9 z10 z11 => κ (.exit 0) (f60.T0_e0 z7 z8 z9 z10 z11) (f60.H0_e0 z7 z8 z9 z10 z11)
def f60.R0 {R : Type} (rec : KT R) := fun s0 s1 s2 s3 s4 s5 s6 => rec (f60.T0 s0 s1 s2 s3 s4 s5 s6) (f60.H0 s0 s1 s2 s3 s4 s5 s6)
theorem f60.s0_eq {R : Type} (L N : Nat) (κ : KX R) (rec : KT R) (s0 : LT) (s1 : Int) (s2 : Int) (s3 : Int) (s4 : Int) (s5 : Int) (s6 : LT) :
    evRd (E60 L N) (evCallI (E60 L N) 1 2000) 1000 60 30 0 f60.c0 κ rec (f60.T0 s0 s1 s2 s3 s4 s5 s6) (f60.H0 s0 s1 s2 s3 s4 s5 s6)
    = f60.s0 L N (f60.X0_e0 κ) (f60.R0 rec) s0 s1 s2 s3 s4 s5 s6 := by kernel_rfl
theorem f60.l0_eq {R : Type} (L N : Nat) (κ : KX R) : ∀ (n : Nat) (s0 : LT) (s1 : Int) (s2 : Int) (s3 : Int) (s4 : Int) (s5 : Int) (s6 : LT),
    evLp (E60 L N) (evCallI (E60 L N) 1 2000) 1000 60 30 0 f60.c0 κ n (f60.T0 s0 s1 s2 s3 s4 s5 s6) (f60.H0 s0 s1 s2 s3 s4 s5 s6)
    = f60.l0 L N (f60.X0_e0 κ) n s0 s1 s2 s3 s4 s5 s6 := by
  intro n
  induction n with
  | zero => intros; rfl
  | succ n ih =>
    intro s0 s1 s2 s3 s4 s5 s6
    rw [evLp_succ, f60.s0_eq]
    delta f60.R0
    simp only [ih]
    rfl
theorem f60.p0_e0_eq {R : Type} (L N : Nat) (κ : AV → Option R) (z7 : Int) (z8 : Int) (z9 : Int) (z10 : Int) (z11 : LT) :
    (contAt (E60 L N) (evCallI (E60 L N) 1 2000) 1000 60 30 0 (codeOf Tryd.f60) (finK (E60 L N) 1000 Tryd.f60 (finC (.one (.st 1)) κ))) (.exit 0) (f60.T0_e0 z7 z8 z9 z10 z11) (f60.H0_e0 z7 z8 z9 z10 z11)
    = f60.p0_e0 L N (fun a0 => κ (.tv (.st 1) a0)) z7 z8 z9 z10 z11 := by kernel_rfl
theorem f60.b_eq {R : Type} (L N : Nat) (κ : AV → Option R) (x0 : LT) :
    evBody (E60 L N) (evCallI (E60 L N) 1 2000) 1000 60 Tryd.f60 [(.tv (.sl (.st 1)) x0)] [] [] (finC (.one (.st 1)) κ)
    = f60.b L N (fun a0 => κ (.tv (.st 1) a0)) x0 := by
  refine Eq.trans (b := f60.b' L N (fun a0 => κ (.tv (.st 1) a0)) (fun s0 s1 s2 s3 s4 s5 s6 => evLp (E60 L N) (evCallI (E60 L N) 1 2000) 1000 60 30 0 f60.c0 (contAt (E60 L N) (evCallI (E60 L N) 1 2000) 1000 60 30 0 (codeOf Tryd.f60) (finK (E60 L N) 1000 Tryd.f60 (finC (.one (.st 1)) κ))) L (f60.T0 s0 s1 s2 s3 s4 s5 s6) (f60.H0 s0 s1 s2 s3 s4 s5 s6)) x0) (by kernel_rfl) ?_
  unfold f60.b
  simp only [f60.l0_eq]
  delta f60.X0_e0
  simp only [f60.p0_e0_eq]
theorem f60.ok (L N : Nat) (hΦ : TellsOk Tryd.prog ((Φ58 L N))) : EntOk Tryd.prog 60 (f60.ent L N) := entDa_ok (E := (E60 L N)) (dep := 1000) (f := Tryd.f60) (sound_of hΦ) okP (callI_sound (sound_of hΦ) okP 1 2000) rfl fun d _ hy => (f60.b_eq L N (unR (.one (.st 1))) d.1).trans (Eq.trans (b := f60.b L N some d.1) (by kernel_rfl) hy)
def Φ60 (L N : Nat) : Tells := (addT (Φ58 L N) 60 (f60.ent L N))
theorem Φ60_ok (L N : Nat) : TellsOk Tryd.prog (Φ60 L N) := addT_ok (Φ58_ok L N) (f60.ok L N (Φ58_ok L N))
def f37_1.s0' {R : Type} (L N : Nat) (self37_1 : (List (ByteArray × Tree)) → Tree → Option (Tree × Bool × (List (ByteArray × Tree)))) (k0_e0 : ByteArray → (List (ByteArray × Tree)) → Int → Int → (List (ByteArray × Tree)) → LY → Option R) (k0_r : Bool → ByteArray → (List (ByteArray × Tree)) → Int → Int → (List (ByteArray × Tree)) → LY → Option R) (rec0 : ByteArray → Int → Int → (List (ByteArray × Tree)) → Int → Int → (List (ByteArray × Tree)) → LY → LS → Option R) (s2 : ByteArray) (s3 : Int) (s4 : Int) (s5 : (List (ByteArray × Tree))) (s6 : Int) (s7 : Int) (s8 : (List (ByteArray × Tree))) (s9 : LY) (s10 : LS) : Option R :=
  bif (decide (s4 < s3)) then
    bif (decide (0 ≤ s4) && decide (s4 < (s10.length : Int))) then
      (self37_1 s5 (Tree.mk ((listAt s10 (Ty.dflt (.st 3)) s4.toNat).thn.op) ((listAt s10 (Ty.dflt (.st 3)) s4.toNat).thn.n) ((listAt s10 (Ty.dflt (.st 3)) s4.toNat).thn.parts))).bind fun y17 =>
      bif (!y17.2.1) then
        k0_r false s2 y17.2.2 (0 : Int) (0 : Int) s8 s9
      else (f58 L N ((listAt s10 (Ty.dflt (.st 3)) s4.toNat).act) (Tree.mk y17.1.op y17.1.n y17.1.parts)).bind fun y25 =>
      (f33 L N N (Tree.mk y25.op y25.n y25.parts)).bind fun y26 =>
      bif (!(Option.isSome (mapFind .str (.st 1) y26 s8))) then
        bif (decide (s9.length + ([y26] : LY).length ≤ lim)) then
          rec0 s2 s3 (wi (s4 + (1 : Int))) y17.2.2 s6 s7 (mapPut .str (.st 1) y26 (Tree.mk y25.op y25.n y25.parts) s8) (s9 ++ ([y26] : LY)) s10
        else none
      else rec0 s2 s3 (wi (s4 + (1 : Int))) y17.2.2 s6 s7 s8 s9 s10
    else none
  else k0_e0 s2 s5 s6 s7 s8 s9
def f37_1.s0 {R : Type} (L N : Nat) (self37_1 : (List (ByteArray × Tree)) → Tree → Option (Tree × Bool × (List (ByteArray × Tree)))) (k0_e0 : ByteArray → (List (ByteArray × Tree)) → Int → Int → (List (ByteArray × Tree)) → LY → Option R) (k0_r : Bool → ByteArray → (List (ByteArray × Tree)) → Int → Int → (List (ByteArray × Tree)) → LY → Option R) (rec0 : ByteArray → Int → Int → (List (ByteArray × Tree)) → Int → Int → (List (ByteArray × Tree)) → LY → LS → Option R) (s2 : ByteArray) (s3 : Int) (s4 : Int) (s5 : (List (ByteArray × Tree))) (s6 : Int) (s7 : Int) (s8 : (List (ByteArray × Tree))) (s9 : LY) (s10 : LS) : Option R :=
  f37_1.s0' L N self37_1 k0_e0 k0_r rec0 s2 s3 s4 s5 s6 s7 s8 s9 s10
def f37_1.l0 {R : Type} (L N : Nat) (self37_1 : (List (ByteArray × Tree)) → Tree → Option (Tree × Bool × (List (ByteArray × Tree)))) (k0_e0 : ByteArray → (List (ByteArray × Tree)) → Int → Int → (List (ByteArray × Tree)) → LY → Option R) (k0_r : Bool → ByteArray → (List (ByteArray × Tree)) → Int → Int → (List (ByteArray × Tree)) → LY → Option R) : Nat → ByteArray → Int → Int → (List (ByteArray × Tree)) → Int → Int → (List (ByteArray × Tree)) → LY → LS → Option R
  | 0, _, _, _, _, _, _, _, _, _ => none
  | n + 1, s2, s3, s4, s5, s6, s7, s8, s9, s10 => f37_1.s0 L N self37_1 k0_e0 k0_r (f37_1.l0 L N self37_1 k0_e0 k0_r n) s2 s3 s4 s5 s6 s7 s8 s9 s10
def f37_1.T0 (s2 : ByteArray) (s3 : Int) (s4 : Int) (s5 : (List (ByteArray × Tree))) (s6 : Int) (s7 : Int) (s8 : (List (ByteArray × Tree))) (s9 : LY) (s10 : LS) : T := mkT 99 [(1, (.mp 0)), (4, (.ptr 1004 0)), (6, (.tv .str s2)), (9, (.mp 1032)), (10, (.row 1033)), (35, (.row 1035)), (36, (.tv i64 s3)), (37, (.tv i64 s4))] ++ [.mp 0]
def f37_1.H0 (s2 : ByteArray) (s3 : Int) (s4 : Int) (s5 : (List (ByteArray × Tree))) (s6 : Int) (s7 : Int) (s8 : (List (ByteArray × Tree))) (s9 : LY) (s10 : LS) : H := [(0, (.map .str (.st 1) s5)), (1004, (.box [(.tv i64 s6), (.tv i64 s7), .nil])), (1032, (.map .str (.st 1) s8)), (1033, (.row 9 .str s9)), (1035, (.row 66 (.st 3) s10))]
def f37_1.T0_e0 (z11 : ByteArray) (z12 : (List (ByteArray × Tree))) (z13 : Int) (z14 : Int) (z15 : (List (ByteArray × Tree))) (z16 : LY) : T := mkT 99 [(1, (.mp 0)), (4, (.ptr 1004 0)), (6, (.tv .str z11)), (9, (.mp 1032)), (10, (.row 1033))] ++ [.mp 0]
def f37_1.H0_e0 (z11 : ByteArray) (z12 : (List (ByteArray × Tree))) (z13 : Int) (z14 : Int) (z15 : (List (ByteArray × Tree))) (z16 : LY) : H := [(0, (.map .str (.st 1) z12)), (1004, (.box [(.tv i64 z13), (.tv i64 z14), .nil])), (1032, (.map .str (.st 1) z15)), (1033, (.row 9 .str z16))]
def f37_1.T0_r (z18 : Bool) (z19 : ByteArray) (z20 : (List (ByteArray × Tree))) (z21 : Int) (z22 : Int) (z23 : (List (ByteArray × Tree))) (z24 : LY) : T := mkT 99 [(1, (.mp 0)), (4, (.ptr 1004 0)), (5, (.tv .bool z18)), (6, (.tv .str z19)), (9, (.mp 1032)), (10, (.row 1033))] ++ [.mp 0]
def f37_1.H0_r (z18 : Bool) (z19 : ByteArray) (z20 : (List (ByteArray × Tree))) (z21 : Int) (z22 : Int) (z23 : (List (ByteArray × Tree))) (z24 : LY) : H := [(0, (.map .str (.st 1) z20)), (1004, (.box [(.tv i64 z21), (.tv i64 z22), .nil])), (1032, (.map .str (.st 1) z23)), (1033, (.row 9 .str z24))]
def f37_1.s1' {R : Type} (L N : Nat) (self37_1 : (List (ByteArray × Tree)) → Tree → Option (Tree × Bool × (List (ByteArray × Tree)))) (k1_e2 : ByteArray → (List (ByteArray × Tree)) → Int → Int → LT → Option R) (rec1 : ByteArray → Int → Int → (List (ByteArray × Tree)) → Int → Int → (List (ByteArray × Tree)) → LY → LT → Option R) (s37 : ByteArray) (s38 : Int) (s39 : Int) (s40 : (List (ByteArray × Tree))) (s41 : Int) (s42 : Int) (s43 : (List (ByteArray × Tree))) (s44 : LY) (s45 : LT) : Option R :=
  bif (decide (s39 < s38)) then
    bif (decide (0 ≤ s39) && decide (s39 < (s44.length : Int))) then
      bif (decide (s45.length + ([((mapFind .str (.st 1) (listAt s44 ByteArray.empty s39.toNat) s43).getD (Ty.dflt (.st 1)))] : LT).length ≤ lim)) then
        rec1 s37 s38 (wi (s39 + (1 : Int))) s40 s41 s42 s43 s44 (s45 ++ ([((mapFind .str (.st 1) (listAt s44 ByteArray.empty s39.toNat) s43).getD (Ty.dflt (.st 1)))] : LT))
      else none
    else none
  else k1_e2 s37 s40 s41 s42 s45
def f37_1.s1 {R : Type} (L N : Nat) (self37_1 : (List (ByteArray × Tree)) → Tree → Option (Tree × Bool × (List (ByteArray × Tree)))) (k1_e2 : ByteArray → (List (ByteArray × Tree)) → Int → Int → LT → Option R) (rec1 : ByteArray → Int → Int → (List (ByteArray × Tree)) → Int → Int → (List (ByteArray × Tree)) → LY → LT → Option R) (s37 : ByteArray) (s38 : Int) (s39 : Int) (s40 : (List (ByteArray × Tree))) (s41 : Int) (s42 : Int) (s43 : (List (ByteArray × Tree))) (s44 : LY) (s45 : LT) : Option R :=
  f37_1.s1' L N self37_1 k1_e2 rec1 s37 s38 s39 s40 s41 s42 s43 s44 s45
def f37_1.l1 {R : Type} (L N : Nat) (self37_1 : (List (ByteArray × Tree)) → Tree → Option (Tree × Bool × (List (ByteArray × Tree)))) (k1_e2 : ByteArray → (List (ByteArray × Tree)) → Int → Int → LT → Option R) : Nat → ByteArray → Int → Int → (List (ByteArray × Tree)) → Int → Int → (List (ByteArray × Tree)) → LY → LT → Option R
  | 0, _, _, _, _, _, _, _, _, _ => none
  | n + 1, s37, s38, s39, s40, s41, s42, s43, s44, s45 => f37_1.s1 L N self37_1 k1_e2 (f37_1.l1 L N self37_1 k1_e2 n) s37 s38 s39 s40 s41 s42 s43 s44 s45
def f37_1.T1 (s37 : ByteArray) (s38 : Int) (s39 : Int) (s40 : (List (ByteArray × Tree))) (s41 : Int) (s42 : Int) (s43 : (List (ByteArray × Tree))) (s44 : LY) (s45 : LT) : T := mkT 99 [(1, (.mp 0)), (4, (.ptr 1004 0)), (6, (.tv .str s37)), (9, (.mp 1032)), (18, (.row 1075)), (76, (.row 1033)), (77, (.tv i64 s38)), (78, (.tv i64 s39))] ++ [.mp 0]
def f37_1.H1 (s37 : ByteArray) (s38 : Int) (s39 : Int) (s40 : (List (ByteArray × Tree))) (s41 : Int) (s42 : Int) (s43 : (List (ByteArray × Tree))) (s44 : LY) (s45 : LT) : H := [(0, (.map .str (.st 1) s40)), (1004, (.box [(.tv i64 s41), (.tv i64 s42), .nil])), (1032, (.map .str (.st 1) s43)), (1033, (.row 9 .str s44)), (1075, (.row 29 (.st 1) s45))]
def f37_1.T1_e2 (z46 : ByteArray) (z47 : (List (ByteArray × Tree))) (z48 : Int) (z49 : Int) (z50 : LT) : T := mkT 99 [(1, (.mp 0)), (4, (.ptr 1004 0)), (6, (.tv .str z46)), (18, (.row 1075))] ++ [.mp 0]
def f37_1.H1_e2 (z46 : ByteArray) (z47 : (List (ByteArray × Tree))) (z48 : Int) (z49 : Int) (z50 : LT) : H := [(0, (.map .str (.st 1) z47)), (1004, (.box [(.tv i64 z48), (.tv i64 z49), .nil])), (1075, (.row 29 (.st 1) z50))]
def f37_1.p1_e2' {R : Type} (L N : Nat) (self37_1 : (List (ByteArray × Tree)) → Tree → Option (Tree × Bool × (List (ByteArray × Tree)))) (k : Tree → Bool → (List (ByteArray × Tree)) → Option R) (z46 : ByteArray) (z47 : (List (ByteArray × Tree))) (z48 : Int) (z49 : Int) (z50 : LT) : Option R :=
  (f60 L N z50).bind fun y51 =>
  (f42 L N N (Tree.mk y51.op y51.n y51.parts) (24 : Int)).bind fun y52 =>
  bif (decide (y52 > (24 : Int))) then
    k (Tree.mk (0 : Int) (0 : Int) []) false z47
  else k (Tree.mk ((Tree.mk y51.op y51.n y51.parts).op) ((Tree.mk y51.op y51.n y51.parts).n) ((Tree.mk y51.op y51.n y51.parts).parts)) true (mapPut .str (.st 1) z46 (Tree.mk y51.op y51.n y51.parts) z47)
def f37_1.p1_e2 {R : Type} (L N : Nat) (self37_1 : (List (ByteArray × Tree)) → Tree → Option (Tree × Bool × (List (ByteArray × Tree)))) (k : Tree → Bool → (List (ByteArray × Tree)) → Option R) (z46 : ByteArray) (z47 : (List (ByteArray × Tree))) (z48 : Int) (z49 : Int) (z50 : LT) : Option R :=
  f37_1.p1_e2' L N self37_1 k z46 z47 z48 z49 z50
def f37_1.p0_e0' {R : Type} (L N : Nat) (self37_1 : (List (ByteArray × Tree)) → Tree → Option (Tree × Bool × (List (ByteArray × Tree)))) (k : Tree → Bool → (List (ByteArray × Tree)) → Option R) (w1 : ByteArray → Int → Int → (List (ByteArray × Tree)) → Int → Int → (List (ByteArray × Tree)) → LY → LT → Option R) (z11 : ByteArray) (z12 : (List (ByteArray × Tree))) (z13 : Int) (z14 : Int) (z15 : (List (ByteArray × Tree))) (z16 : LY) : Option R :=
  ((fsortS z16)).bind fun y36 =>
  w1 z11 ((sortS z16).length : Int) (0 : Int) z12 z13 z14 z15 (sortS z16) ([] : LT)
def f37_1.p0_e0 {R : Type} (L N : Nat) (self37_1 : (List (ByteArray × Tree)) → Tree → Option (Tree × Bool × (List (ByteArray × Tree)))) (k : Tree → Bool → (List (ByteArray × Tree)) → Option R) (z11 : ByteArray) (z12 : (List (ByteArray × Tree))) (z13 : Int) (z14 : Int) (z15 : (List (ByteArray × Tree))) (z16 : LY) : Option R :=
  f37_1.p0_e0' L N self37_1 k (fun s37 s38 s39 s40 s41 s42 s43 s44 s45 => f37_1.l1 L N self37_1 (fun z46 z47 z48 z49 z50 => f37_1.p1_e2 L N self37_1 k z46 z47 z48 z49 z50) L s37 s38 s39 s40 s41 s42 s43 s44 s45) z11 z12 z13 z14 z15 z16
def f37_1.p0_r' {R : Type} (L N : Nat) (self37_1 : (List (ByteArray × Tree)) → Tree → Option (Tree × Bool × (List (ByteArray × Tree)))) (k : Tree → Bool → (List (ByteArray × Tree)) → Option R) (z18 : Bool) (z19 : ByteArray) (z20 : (List (ByteArray × Tree))) (z21 : Int) (z22 : Int) (z23 : (List (ByteArray × Tree))) (z24 : LY) : Option R :=
  k (Tree.mk z21 z22 []) z18 z20
def f37_1.p0_r {R : Type} (L N : Nat) (self37_1 : (List (ByteArray × Tree)) → Tree → Option (Tree × Bool × (List (ByteArray × Tree)))) (k : Tree → Bool → (List (ByteArray × Tree)) → Option R) (z18 : Bool) (z19 : ByteArray) (z20 : (List (ByteArray × Tree))) (z21 : Int) (z22 : Int) (z23 : (List (ByteArray × Tree))) (z24 : LY) : Option R :=
  f37_1.p0_r' L N self37_1 k z18 z19 z20 z21 z22 z23 z24
def f37_1.b' {R : Type} (L N : Nat) (self37_1 : (List (ByteArray × Tree)) → Tree → Option (Tree × Bool × (List (ByteArray × Tree)))) (k : Tree → Bool → (List (ByteArray × Tree)) → Option R) (w0 : ByteArray → Int → Int → (List (ByteArray × Tree)) → Int → Int → (List (ByteArray × Tree)) → LY → LS → Option R) (c0 : (List (ByteArray × Tree))) (x0 : Tree) : Option R :=
  (f33 L N N (Tree.mk x0.op x0.n x0.parts)).bind fun y0 =>
  bif (Option.isSome (mapFind .str (.st 1) y0 c0)) then
    k (Tree.mk ((Tree.mk (((mapFind .str (.st 1) y0 c0).getD (Ty.dflt (.st 1))).op) (((mapFind .str (.st 1) y0 c0).getD (Ty.dflt (.st 1))).n) (((mapFind .str (.st 1) y0 c0).getD (Ty.dflt (.st 1))).parts)).op) ((Tree.mk (((mapFind .str (.st 1) y0 c0).getD (Ty.dflt (.st 1))).op) (((mapFind .str (.st 1) y0 c0).getD (Ty.dflt (.st 1))).n) (((mapFind .str (.st 1) y0 c0).getD (Ty.dflt (.st 1))).parts)).n) ((Tree.mk (((mapFind .str (.st 1) y0 c0).getD (Ty.dflt (.st 1))).op) (((mapFind .str (.st 1) y0 c0).getD (Ty.dflt (.st 1))).n) (((mapFind .str (.st 1) y0 c0).getD (Ty.dflt (.st 1))).parts)).parts)) true c0
  else (f57 L N N (Tree.mk x0.op x0.n x0.parts) []).bind fun y1 =>
  w0 y0 (y1.length : Int) (0 : Int) c0 (0 : Int) (0 : Int) ([] : (List (ByteArray × Tree))) ([] : LY) y1
def f37_1.b {R : Type} (L N : Nat) (self37_1 : (List (ByteArray × Tree)) → Tree → Option (Tree × Bool × (List (ByteArray × Tree)))) (k : Tree → Bool → (List (ByteArray × Tree)) → Option R) (c0 : (List (ByteArray × Tree))) (x0 : Tree) : Option R :=
  f37_1.b' L N self37_1 k (fun s2 s3 s4 s5 s6 s7 s8 s9 s10 => f37_1.l0 L N self37_1 (fun z11 z12 z13 z14 z15 z16 => f37_1.p0_e0 L N self37_1 k z11 z12 z13 z14 z15 z16) (fun z18 z19 z20 z21 z22 z23 z24 => f37_1.p0_r L N self37_1 k z18 z19 z20 z21 z22 z23 z24) L s2 s3 s4 s5 s6 s7 s8 s9 s10) c0 x0
def f37_1 (L N : Nat) : Nat → (List (ByteArray × Tree)) → Tree → Option (Tree × Bool × (List (ByteArray × Tree)))
  | 0, _, _ => none
  | n + 1, c0, x0 => f37_1.b L N (f37_1 L N n) (fun a0 a1 a2 => some (a0, a1, a2)) c0 x0
def f37_1.ent (L N m : Nat) (args : List AV) (vw : View) (_ : Nat) : Option Ans := match mutDM .str (.st 1) [(.sh (.dat (.st 1))), (.mmp 0)] vw args with
  | some (o, d0, d, u) => some ⟨Tree × Bool × (List (ByteArray × Tree)), f37_1 L N m d0 d.1, fun y => ((.tup [(.tv (.st 1) y.1), (.tv .bool y.2.1)]), u ++ [(o, some (.map .str (.st 1) y.2.2))], [])⟩
  | none => none
def Φ37_1s (L N m : Nat) : Tells := (addO (Φ60 L N) 37 (f37_1.ent L N m))
noncomputable def E37_1 (L N m : Nat) : Env := { P := Tryd.prog, ty := tyOf, Φ := Φ37_1s L N m, inl := inlT, live := lives, liveX := livesX, L := L, dp := none, prom := promT, heal := healT, ren := renT }
noncomputable def f37_1.c0 : Code := loopAt 0 (codeOf Tryd.f37)
def f37_1.X0_e0 {R : Type} (κ : KX R) := fun z11 z12 z13 z14 z15 z16 => κ (.exit 0) (f37_1.T0_e0 z11 z12 z13 z14 z15 z16) (f37_1.H0_e0 z11 z12 z13 z14 z15 z16)
def f37_1.X0_r {R : Type} (κ : KX R) := fun z18 z19 z20 z21 z22 z23 z24 => κ .ret (f37_1.T0_r z18 z19 z20 z21 z22 z23 z24) (f37_1.H0_r z18 z19 z20 z21 z22 z23 z24)
def f37_1.R0 {R : Type} (rec : KT R) := fun s2 s3 s4 s5 s6 s7 s8 s9 s10 => rec (f37_1.T0 s2 s3 s4 s5 s6 s7 s8 s9 s10) (f37_1.H0 s2 s3 s4 s5 s6 s7 s8 s9 s10)
theorem f37_1.s0_eq {R : Type} (L N m : Nat) (κ : KX R) (rec : KT R) (s2 : ByteArray) (s3 : Int) (s4 : Int) (s5 : (List (ByteArray × Tree))) (s6 : Int) (s7 : Int) (s8 : (List (ByteArray × Tree))) (s9 : LY) (s10 : LS) :
    evRd (E37_1 L N m) (evCallI (E37_1 L N m) 1 2000) 1000 37 99 0 f37_1.c0 κ rec (f37_1.T0 s2 s3 s4 s5 s6 s7 s8 s9 s10) (f37_1.H0 s2 s3 s4 s5 s6 s7 s8 s9 s10)
    = f37_1.s0 L N (f37_1 L N m) (f37_1.X0_e0 κ) (f37_1.X0_r κ) (f37_1.R0 rec) s2 s3 s4 s5 s6 s7 s8 s9 s10 := by kernel_rfl
theorem f37_1.l0_eq {R : Type} (L N m : Nat) (κ : KX R) : ∀ (n : Nat) (s2 : ByteArray) (s3 : Int) (s4 : Int) (s5 : (List (ByteArray × Tree))) (s6 : Int) (s7 : Int) (s8 : (List (ByteArray × Tree))) (s9 : LY) (s10 : LS),
    evLp (E37_1 L N m) (evCallI (E37_1 L N m) 1 2000) 1000 37 99 0 f37_1.c0 κ n (f37_1.T0 s2 s3 s4 s5 s6 s7 s8 s9 s10) (f37_1.H0 s2 s3 s4 s5 s6 s7 s8 s9 s10)
    = f37_1.l0 L N (f37_1 L N m) (f37_1.X0_e0 κ) (f37_1.X0_r κ) n s2 s3 s4 s5 s6 s7 s8 s9 s10 := by
  intro n
  induction n with
  | zero => intros; rfl
  | succ n ih =>
    intro s2 s3 s4 s5 s6 s7 s8 s9 s10
    rw [evLp_succ, f37_1.s0_eq]
    delta f37_1.R0
    simp only [ih]
    rfl
noncomputable def f37_1.c1 : Code := loopAt 2 (codeOf Tryd.f37)
def f37_1.X1_e2 {R : Type} (κ : KX R) := fun z46 z47 z48 z49 z50 => κ (.exit 2) (f37_1.T1_e2 z46 z47 z48 z49 z50) (f37_1.H1_e2 z46 z47 z48 z49 z50)
def f37_1.R1 {R : Type} (rec : KT R) := fun s37 s38 s39 s40 s41 s42 s43 s44 s45 => rec (f37_1.T1 s37 s38 s39 s40 s41 s42 s43 s44 s45) (f37_1.H1 s37 s38 s39 s40 s41 s42 s43 s44 s45)
theorem f37_1.s1_eq {R : Type} (L N m : Nat) (κ : KX R) (rec : KT R) (s37 : ByteArray) (s38 : Int) (s39 : Int) (s40 : (List (ByteArray × Tree))) (s41 : Int) (s42 : Int) (s43 : (List (ByteArray × Tree))) (s44 : LY) (s45 : LT) :
    evRd (E37_1 L N m) (evCallI (E37_1 L N m) 1 2000) 1000 37 99 2 f37_1.c1 κ rec (f37_1.T1 s37 s38 s39 s40 s41 s42 s43 s44 s45) (f37_1.H1 s37 s38 s39 s40 s41 s42 s43 s44 s45)
    = f37_1.s1 L N (f37_1 L N m) (f37_1.X1_e2 κ) (f37_1.R1 rec) s37 s38 s39 s40 s41 s42 s43 s44 s45 := by kernel_rfl
theorem f37_1.l1_eq {R : Type} (L N m : Nat) (κ : KX R) : ∀ (n : Nat) (s37 : ByteArray) (s38 : Int) (s39 : Int) (s40 : (List (ByteArray × Tree))) (s41 : Int) (s42 : Int) (s43 : (List (ByteArray × Tree))) (s44 : LY) (s45 : LT),
    evLp (E37_1 L N m) (evCallI (E37_1 L N m) 1 2000) 1000 37 99 2 f37_1.c1 κ n (f37_1.T1 s37 s38 s39 s40 s41 s42 s43 s44 s45) (f37_1.H1 s37 s38 s39 s40 s41 s42 s43 s44 s45)
    = f37_1.l1 L N (f37_1 L N m) (f37_1.X1_e2 κ) n s37 s38 s39 s40 s41 s42 s43 s44 s45 := by
  intro n
  induction n with
  | zero => intros; rfl
  | succ n ih =>
    intro s37 s38 s39 s40 s41 s42 s43 s44 s45
    rw [evLp_succ, f37_1.s1_eq]
    delta f37_1.R1
    simp only [ih]
    rfl
theorem f37_1.p1_e2_eq {R : Type} (L N m : Nat) (κ : AV → (List (ByteArray × Tree)) → Option R) (z46 : ByteArray) (z47 : (List (ByteArray × Tree))) (z48 : Int) (z49 : Int) (z50 : LT) :
    (contAt (E37_1 L N m) (evCallI (E37_1 L N m) 1 2000) 1000 37 99 2 (codeOf Tryd.f37) (finK (E37_1 L N m) 1000 Tryd.f37 (finMM (.many [(.st 1), .bool]) .str (.st 1) κ))) (.exit 2) (f37_1.T1_e2 z46 z47 z48 z49 z50) (f37_1.H1_e2 z46 z47 z48 z49 z50)
    = f37_1.p1_e2 L N (f37_1 L N m) (fun a0 a1 a2 => κ (.tup [(.tv (.st 1) a0), (.tv .bool a1)]) a2) z46 z47 z48 z49 z50 := by kernel_rfl
theorem f37_1.p0_e0_eq {R : Type} (L N m : Nat) (κ : AV → (List (ByteArray × Tree)) → Option R) (z11 : ByteArray) (z12 : (List (ByteArray × Tree))) (z13 : Int) (z14 : Int) (z15 : (List (ByteArray × Tree))) (z16 : LY) :
    (contAt (E37_1 L N m) (evCallI (E37_1 L N m) 1 2000) 1000 37 99 0 (codeOf Tryd.f37) (finK (E37_1 L N m) 1000 Tryd.f37 (finMM (.many [(.st 1), .bool]) .str (.st 1) κ))) (.exit 0) (f37_1.T0_e0 z11 z12 z13 z14 z15 z16) (f37_1.H0_e0 z11 z12 z13 z14 z15 z16)
    = f37_1.p0_e0 L N (f37_1 L N m) (fun a0 a1 a2 => κ (.tup [(.tv (.st 1) a0), (.tv .bool a1)]) a2) z11 z12 z13 z14 z15 z16 := by
  refine Eq.trans (b := f37_1.p0_e0' L N (f37_1 L N m) (fun a0 a1 a2 => κ (.tup [(.tv (.st 1) a0), (.tv .bool a1)]) a2) (fun s37 s38 s39 s40 s41 s42 s43 s44 s45 => evLp (E37_1 L N m) (evCallI (E37_1 L N m) 1 2000) 1000 37 99 2 f37_1.c1 (contAt (E37_1 L N m) (evCallI (E37_1 L N m) 1 2000) 1000 37 99 2 (codeOf Tryd.f37) (finK (E37_1 L N m) 1000 Tryd.f37 (finMM (.many [(.st 1), .bool]) .str (.st 1) κ))) L (f37_1.T1 s37 s38 s39 s40 s41 s42 s43 s44 s45) (f37_1.H1 s37 s38 s39 s40 s41 s42 s43 s44 s45)) z11 z12 z13 z14 z15 z16) (by kernel_rfl) ?_
  unfold f37_1.p0_e0
  simp only [f37_1.l1_eq]
  delta f37_1.X1_e2
  simp only [f37_1.p1_e2_eq]
theorem f37_1.p0_r_eq {R : Type} (L N m : Nat) (κ : AV → (List (ByteArray × Tree)) → Option R) (z18 : Bool) (z19 : ByteArray) (z20 : (List (ByteArray × Tree))) (z21 : Int) (z22 : Int) (z23 : (List (ByteArray × Tree))) (z24 : LY) :
    (contAt (E37_1 L N m) (evCallI (E37_1 L N m) 1 2000) 1000 37 99 0 (codeOf Tryd.f37) (finK (E37_1 L N m) 1000 Tryd.f37 (finMM (.many [(.st 1), .bool]) .str (.st 1) κ))) .ret (f37_1.T0_r z18 z19 z20 z21 z22 z23 z24) (f37_1.H0_r z18 z19 z20 z21 z22 z23 z24)
    = f37_1.p0_r L N (f37_1 L N m) (fun a0 a1 a2 => κ (.tup [(.tv (.st 1) a0), (.tv .bool a1)]) a2) z18 z19 z20 z21 z22 z23 z24 := by kernel_rfl
theorem f37_1.b_eq {R : Type} (L N m : Nat) (κ : AV → (List (ByteArray × Tree)) → Option R) (c0 : (List (ByteArray × Tree))) (x0 : Tree) :
    evBody (E37_1 L N m) (evCallI (E37_1 L N m) 1 2000) 1000 37 Tryd.f37 [(.tv (.st 1) x0), (.mp 0)] [.mp 0] [(0, (.map .str (.st 1) c0))] (finMM (.many [(.st 1), .bool]) .str (.st 1) κ)
    = f37_1.b L N (f37_1 L N m) (fun a0 a1 a2 => κ (.tup [(.tv (.st 1) a0), (.tv .bool a1)]) a2) c0 x0 := by
  refine Eq.trans (b := f37_1.b' L N (f37_1 L N m) (fun a0 a1 a2 => κ (.tup [(.tv (.st 1) a0), (.tv .bool a1)]) a2) (fun s2 s3 s4 s5 s6 s7 s8 s9 s10 => evLp (E37_1 L N m) (evCallI (E37_1 L N m) 1 2000) 1000 37 99 0 f37_1.c0 (contAt (E37_1 L N m) (evCallI (E37_1 L N m) 1 2000) 1000 37 99 0 (codeOf Tryd.f37) (finK (E37_1 L N m) 1000 Tryd.f37 (finMM (.many [(.st 1), .bool]) .str (.st 1) κ))) L (f37_1.T0 s2 s3 s4 s5 s6 s7 s8 s9 s10) (f37_1.H0 s2 s3 s4 s5 s6 s7 s8 s9 s10)) c0 x0) (by kernel_rfl) ?_
  unfold f37_1.b
  simp only [f37_1.l0_eq]
  delta f37_1.X0_e0 f37_1.X0_r
  simp only [f37_1.p0_e0_eq, f37_1.p0_r_eq]
theorem f37_1.ok (L N m : Nat) (hΦ : TellsOk Tryd.prog (Φ37_1s L N m)) : EntOkO Tryd.prog 37 (f37_1.ent L N (m + 1)) := by
  intro args vw site h a ha
  unfold f37_1.ent at ha
  split at ha
  · rename_i o d0 d u hd
    obtain rfl := Option.some.inj ha
    intro y hy hs
    obtain ⟨ho, hr⟩ := mutDM_some hd
    refine call_mutM (y := y) (dep := 1000) (v' := (.tup [(.tv (.st 1) y.1), (.tv .bool y.2.1)])) (d1 := y.2.2) (E := (E37_1 L N m)) (kt := .str) (vt := (.st 1)) (rs := (.many [(.st 1), .bool])) (κ := (fun v d => (unR (.many [(.st 1), .bool]) v).bind fun x => some (x.1, x.2, d))) (sound_of hΦ) okP (callI_sound (sound_of hΦ) okP 1 2000) (f := Tryd.f37) rfl hs ho hr ?_ (fun _ _ h => by obtain ⟨x, h1, h2⟩ := unR_bind h; obtain rfl := Option.some.inj h2; exact ⟨h1, rfl⟩) site
    exact (f37_1.b_eq L N m (fun v d => (unR (.many [(.st 1), .bool]) v).bind fun x => some (x.1, x.2, d)) d0 d.1).trans (Eq.trans (b := f37_1.b L N (f37_1 L N m) (fun a0 a1 a2 => some (a0, a1, a2)) d0 d.1) (by kernel_rfl) hy)
  · cases ha
theorem Φ37_1s_ok (L N : Nat) : ∀ m, TellsOk Tryd.prog (Φ37_1s L N m) := by
  intro m
  induction m with
  | zero => exact (addO_ok (Φ60_ok L N) (fun args vw site h a ha => by unfold f37_1.ent at ha; split at ha <;> first | (cases ha; done) | (obtain rfl := Option.some.inj ha; intro y hy; cases hy)))
  | succ m ih => exact (addO_ok (Φ60_ok L N) (f37_1.ok L N m ih))
def Φ37_1 (L N : Nat) : Tells := (addO (Φ60 L N) 37 (f37_1.ent L N N))
theorem Φ37_1_ok (L N : Nat) : TellsOk Tryd.prog (Φ37_1 L N) := Φ37_1s_ok L N N
def f19.j0' {R : Type} (L N : Nat) (k : Tree → Bool → Option R) (v8 : Int) (v9 : Int) (v10 : LT) (v11 : Int) (v12 : Int) : Option R :=
  (f37_1 L N N ([] : (List (ByteArray × Tree))) (Tree.mk v8 v9 v10)).bind fun y13 =>
  bif (!y13.2.1) then
    k (Tree.mk (0 : Int) (0 : Int) []) false
  else (f28 L N N (Tree.mk y13.1.op y13.1.n y13.1.parts)).bind fun y14 =>
  k (Tree.mk y14.op y14.n y14.parts) true
def f19.b' {R : Type} (L N : Nat) (k : Tree → Bool → Option R) (x0 : Tree) : Option R :=
  (f26 L N (Tree.mk x0.op x0.n x0.parts)).bind fun y0 =>
  bif (!y0) then
    k (Tree.mk (0 : Int) (0 : Int) []) false
  else (f36 L N N (Tree.mk x0.op x0.n x0.parts)).bind fun y1 =>
  bif (!y1) then
    k (Tree.mk (0 : Int) (0 : Int) []) false
  else f19.j0' L N k x0.op x0.n x0.parts (0 : Int) (0 : Int)
def f19.b {R : Type} (L N : Nat) (k : Tree → Bool → Option R) (x0 : Tree) : Option R :=
  f19.b' L N k x0
def f19 (L N : Nat) (x0 : Tree) : Option (Tree × Bool) := f19.b L N (fun a0 a1 => some (a0, a1)) x0
def f19.ent (L N : Nat) := entDa [(.st 1)] (.many [(.st 1), .bool]) fun d => f19 L N d.1
noncomputable def E19 (L N : Nat) : Env := { P := Tryd.prog, ty := tyOf, Φ := (Φ37_1 L N), inl := inlT, live := lives, liveX := livesX, L := L, dp := none, prom := promT, heal := healT, ren := renT }
theorem f19.b_eq {R : Type} (L N : Nat) (κ : AV → Option R) (x0 : Tree) :
    evBody (E19 L N) (evCallI (E19 L N) 1 2000) 1000 19 Tryd.f19 [(.tv (.st 1) x0)] [] [] (finC (.many [(.st 1), .bool]) κ)
    = f19.b L N (fun a0 a1 => κ (.tup [(.tv (.st 1) a0), (.tv .bool a1)])) x0 := by kernel_rfl
theorem f19.ok (L N : Nat) (hΦ : TellsOk Tryd.prog ((Φ37_1 L N))) : EntOk Tryd.prog 19 (f19.ent L N) := entDa_ok (E := (E19 L N)) (dep := 1000) (f := Tryd.f19) (sound_of hΦ) okP (callI_sound (sound_of hΦ) okP 1 2000) rfl fun d _ hy => (f19.b_eq L N (unR (.many [(.st 1), .bool])) d.1).trans (Eq.trans (b := f19.b L N (fun a0 a1 => some (a0, a1)) d.1) (by kernel_rfl) hy)
def Φ19 (L N : Nat) : Tells := (addT (Φ37_1 L N) 19 (f19.ent L N))
theorem Φ19_ok (L N : Nat) : TellsOk Tryd.prog (Φ19 L N) := addT_ok (Φ37_1_ok L N) (f19.ok L N (Φ37_1_ok L N))
def f17.b' {R : Type} (L N : Nat) (k : Bool → Bool → Option R) (x0 : Tree) (x1 : Tree) : Option R :=
  (f19 L N (Tree.mk x0.op x0.n x0.parts)).bind fun y0 =>
  (f19 L N (Tree.mk x1.op x1.n x1.parts)).bind fun y1 =>
  bif (!y0.2) then
    k false false
  else bif (!y1.2) then
    k false false
  else (f33 L N N (Tree.mk y0.1.op y0.1.n y0.1.parts)).bind fun y19 =>
  (f33 L N N (Tree.mk y1.1.op y1.1.n y1.1.parts)).bind fun y20 =>
  k (y19.toList == y20.toList) true
def f17.b {R : Type} (L N : Nat) (k : Bool → Bool → Option R) (x0 : Tree) (x1 : Tree) : Option R :=
  f17.b' L N k x0 x1
def f17 (L N : Nat) (x0 : Tree) (x1 : Tree) : Option (Bool × Bool) := f17.b L N (fun a0 a1 => some (a0, a1)) x0 x1
def f17.ent (L N : Nat) := entRo [(.st 1), (.st 1)] (.many [.bool, .bool]) fun d => f17 L N d.1 d.2.1
noncomputable def E17 (L N : Nat) : Env := { P := Tryd.prog, ty := tyOf, Φ := (Φ19 L N), inl := inlT, live := lives, liveX := livesX, L := L, dp := none, prom := promT, heal := healT, ren := renT }
theorem f17.b_eq {R : Type} (L N : Nat) (κ : AV → Option R) (x0 : Tree) (x1 : Tree) :
    evBody (E17 L N) (evCallI (E17 L N) 1 2000) 1000 17 Tryd.f17 [(.tv (.st 1) x0), (.tv (.st 1) x1)] [] [] (finC (.many [.bool, .bool]) κ)
    = f17.b L N (fun a0 a1 => κ (.tup [(.tv .bool a0), (.tv .bool a1)])) x0 x1 := by kernel_rfl
theorem f17.ok (L N : Nat) (hΦ : TellsOk Tryd.prog ((Φ19 L N))) : EntOk Tryd.prog 17 (f17.ent L N) := entRo_ok (E := (E17 L N)) (dep := 1000) (f := Tryd.f17) (sound_of hΦ) okP (callI_sound (sound_of hΦ) okP 1 2000) rfl rfl fun d _ hy => (f17.b_eq L N (unR (.many [.bool, .bool])) d.1 d.2.1).trans (Eq.trans (b := f17.b L N (fun a0 a1 => some (a0, a1)) d.1 d.2.1) (by kernel_rfl) hy)
def Φ17 (L N : Nat) : Tells := (addT (Φ19 L N) 17 (f17.ent L N))
theorem Φ17_ok (L N : Nat) : TellsOk Tryd.prog (Φ17 L N) := addT_ok (Φ19_ok L N) (f17.ok L N (Φ19_ok L N))
def f4.j0' {R : Type} (L N : Nat) (k : Bool → Option R) (v21 : Int) (v22 : Int) (v23 : LT) (v24 : Int) (v25 : Int) (v26 : LT) (v27 : Int) (v28 : Int) (v29 : Int) (v30 : Int) (v31 : LT) (v32 : LT) : Option R :=
  (f8 L N N (Tree.mk v21 v22 v23)).bind fun y33 =>
  (f11 L N N (Tree.mk v27 v28 v31) (Tree.mk y33.1 y33.2.1 y33.2.2)).bind fun y34 =>
  bif (!y34) then
    k false
  else (f8 L N N (Tree.mk v24 v25 v26)).bind fun y35 =>
  (f11 L N N (Tree.mk v29 v30 v32) (Tree.mk y35.1 y35.2.1 y35.2.2)).bind fun y36 =>
  bif (!y36) then
    k false
  else k true
def f4.b' {R : Type} (L N : Nat) (k : Bool → Option R) (x0 : Tree) (x1 : Tree) : Option R :=
  (f6 L N N (Tree.mk x0.op x0.n x0.parts) (1048576 : Int)).bind fun y0 =>
  bif (decide (y0 < (0 : Int))) then
    k true
  else (f6 L N N (Tree.mk x1.op x1.n x1.parts) y0).bind fun y1 =>
  bif (decide (y1 < (0 : Int))) then
    k true
  else (f8 L N N (Tree.mk x0.op x0.n x0.parts)).bind fun y2 =>
  (f8 L N N (Tree.mk x1.op x1.n x1.parts)).bind fun y3 =>
  (f16 L N (Tree.mk y2.1 y2.2.1 y2.2.2) (Tree.mk y3.1 y3.2.1 y3.2.2)).bind fun y4 =>
  (f8 L N N (Tree.mk x0.op x0.n x0.parts)).bind fun y5 =>
  (f8 L N N (Tree.mk x1.op x1.n x1.parts)).bind fun y6 =>
  (f17 L N (Tree.mk y5.1 y5.2.1 y5.2.2) (Tree.mk y6.1 y6.2.1 y6.2.2)).bind fun y7 =>
  bif (!(y7.1 == y4.1)) then
    k false
  else bif (!(y7.2 == y4.2)) then
    k false
  else f4.j0' L N k x0.op x0.n x0.parts x1.op x1.n x1.parts y5.1 y5.2.1 y6.1 y6.2.1 y5.2.2 y6.2.2
def f4.b {R : Type} (L N : Nat) (k : Bool → Option R) (x0 : Tree) (x1 : Tree) : Option R :=
  f4.b' L N k x0 x1
def f4 (L N : Nat) (x0 : Tree) (x1 : Tree) : Option (Bool) := f4.b L N some x0 x1
def f4.ent (L N : Nat) := entRo [(.st 1), (.st 1)] (.one .bool) fun d => f4 L N d.1 d.2.1
noncomputable def E4 (L N : Nat) : Env := { P := Tryd.prog, ty := tyOf, Φ := (Φ17 L N), inl := inlT, live := lives, liveX := livesX, L := L, dp := none, prom := promT, heal := healT, ren := renT }
theorem f4.b_eq {R : Type} (L N : Nat) (κ : AV → Option R) (x0 : Tree) (x1 : Tree) :
    evBody (E4 L N) (evCallI (E4 L N) 1 2000) 1000 4 Tryd.f4 [(.tv (.st 1) x0), (.tv (.st 1) x1)] [] [] (finC (.one .bool) κ)
    = f4.b L N (fun a0 => κ (.tv .bool a0)) x0 x1 := by kernel_rfl
theorem f4.ok (L N : Nat) (hΦ : TellsOk Tryd.prog ((Φ17 L N))) : EntOk Tryd.prog 4 (f4.ent L N) := entRo_ok (E := (E4 L N)) (dep := 1000) (f := Tryd.f4) (sound_of hΦ) okP (callI_sound (sound_of hΦ) okP 1 2000) rfl rfl fun d _ hy => (f4.b_eq L N (unR (.one .bool)) d.1 d.2.1).trans (Eq.trans (b := f4.b L N some d.1 d.2.1) (by kernel_rfl) hy)
def Φ4 (L N : Nat) : Tells := (addT (Φ17 L N) 4 (f4.ent L N))
theorem Φ4_ok (L N : Nat) : TellsOk Tryd.prog (Φ4 L N) := addT_ok (Φ17_ok L N) (f4.ok L N (Φ17_ok L N))
end Go.Proofs.YthidlhjjnaldhaaDoor.Ev
