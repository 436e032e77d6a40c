/- The seat's functions as plain functions, continued: made by program (wip/gen/gen.py). -/
import Derived.Test.YthidlhjjnaldhaaDoorLA3a
namespace Go.Proofs.YthidlhjjnaldhaaDoor.Ev
open Go
set_option linter.unusedVariables false
set_option maxRecDepth 20000
def f57.b {R : Type} (L N : Nat) (self57 : Tree → LT → Option (LS)) (k : LS → Option R) (x0 : Tree) (x1 : LT) : Option R :=
  f57.b' L N self57 k (fun s4 s5 s6 s7 s8 s9 s10 s11 => f57.l0 L N self57 (fun z12 z13 z14 z15 z16 z17 => f57.p0_e1 L N self57 k z12 z13 z14 z15 z16 z17) L s4 s5 s6 s7 s8 s9 s10 s11) (fun s82 s83 s84 s85 s86 s87 s88 => f57.l4 L N self57 (fun z89 => f57.p4_e9 L N self57 k z89) L s82 s83 s84 s85 s86 s87 s88) x0 x1
def f57 (L N : Nat) : Nat → Tree → LT → Option (LS)
  | 0, _, _ => none
  | n + 1, x0, x1 => f57.b L N (f57 L N n) some x0 x1
def f57.ent (L N m : Nat) (args : List AV) (vw : View) (site : Nat) : Ans := match coeD [(.st 1), (.sl (.st 1))] vw args with
  | some (d, u) => ⟨LS, f57 L N m d.1 d.2.1, fun y => (.row site, u ++ [(site, some (.row 66 (.st 3) y))], [])⟩
  | none => Ans.no
def Φ57s (L N m : Nat) : Tells := (addT (Φ75 L N) 57 (f57.ent L N m))
noncomputable def E57 (L N m : Nat) : Env := { P := Tryd.prog, ty := tyOf, Φ := Φ57s L N m, inl := inlT, live := lives, liveX := livesX, L := L, dp := none, prom := promT, heal := healT, ren := renT }
noncomputable def f57.c0 : Code := loopAt 1 (codeOf Tryd.f57)
def f57.X0_e1 {R : Type} (κ : KX R) := fun z12 z13 z14 z15 z16 z17 => κ (.exit 1) (f57.T0_e1 z12 z13 z14 z15 z16 z17) (f57.H0_e1 z12 z13 z14 z15 z16 z17)
def f57.R0 {R : Type} (rec : KT R) := fun s4 s5 s6 s7 s8 s9 s10 s11 => rec (f57.T0 s4 s5 s6 s7 s8 s9 s10 s11) (f57.H0 s4 s5 s6 s7 s8 s9 s10 s11)
theorem f57.s0_eq {R : Type} (L N m : Nat) (κ : KX R) (rec : KT R) (s4 : Int) (s5 : Int) (s6 : Int) (s7 : Int) (s8 : LT) (s9 : LS) (s10 : LS) (s11 : LS) :
    evRd (E57 L N m) (evCallI (E57 L N m) 1 2000) 1000 57 183 1 f57.c0 κ rec (f57.T0 s4 s5 s6 s7 s8 s9 s10 s11) (f57.H0 s4 s5 s6 s7 s8 s9 s10 s11)
    = f57.s0 L N (f57 L N m) (f57.X0_e1 κ) (f57.R0 rec) s4 s5 s6 s7 s8 s9 s10 s11 := by kernel_rfl
theorem f57.l0_eq {R : Type} (L N m : Nat) (κ : KX R) : ∀ (n : Nat) (s4 : Int) (s5 : Int) (s6 : Int) (s7 : Int) (s8 : LT) (s9 : LS) (s10 : LS) (s11 : LS),
    evLp (E57 L N m) (evCallI (E57 L N m) 1 2000) 1000 57 183 1 f57.c0 κ n (f57.T0 s4 s5 s6 s7 s8 s9 s10 s11) (f57.H0 s4 s5 s6 s7 s8 s9 s10 s11)
    = f57.l0 L N (f57 L N m) (f57.X0_e1 κ) n s4 s5 s6 s7 s8 s9 s10 s11 := by
  intro n
  induction n with
  | zero => intros; rfl
  | succ n ih =>
    intro s4 s5 s6 s7 s8 s9 s10 s11
    rw [evLp_succ, f57.s0_eq]
    delta f57.R0
    simp only [ih]
    rfl
noncomputable def f57.c1 : Code := loopAt 3 (codeOf Tryd.f57)
def f57.X1_e3 {R : Type} (κ : KX R) := fun z27 z28 z29 => κ (.exit 3) (f57.T1_e3 z27 z28 z29) (f57.H1_e3 z27 z28 z29)
def f57.R1 {R : Type} (rec : KT R) := fun s19 s20 s21 s22 s23 s24 s25 s26 => rec (f57.T1 s19 s20 s21 s22 s23 s24 s25 s26) (f57.H1 s19 s20 s21 s22 s23 s24 s25 s26)
theorem f57.s1_eq {R : Type} (L N m : Nat) (κ : KX R) (rec : KT R) (s19 : Int) (s20 : Int) (s21 : Int) (s22 : Int) (s23 : LT) (s24 : LS) (s25 : LS) (s26 : LS) :
    evRd (E57 L N m) (evCallI (E57 L N m) 1 2000) 1000 57 183 3 f57.c1 κ rec (f57.T1 s19 s20 s21 s22 s23 s24 s25 s26) (f57.H1 s19 s20 s21 s22 s23 s24 s25 s26)
    = f57.s1 L N (f57 L N m) (f57.X1_e3 κ) (f57.R1 rec) s19 s20 s21 s22 s23 s24 s25 s26 := by kernel_rfl
theorem f57.l1_eq {R : Type} (L N m : Nat) (κ : KX R) : ∀ (n : Nat) (s19 : Int) (s20 : Int) (s21 : Int) (s22 : Int) (s23 : LT) (s24 : LS) (s25 : LS) (s26 : LS),
    evLp (E57 L N m) (evCallI (E57 L N m) 1 2000) 1000 57 183 3 f57.c1 κ n (f57.T1 s19 s20 s21 s22 s23 s24 s25 s26) (f57.H1 s19 s20 s21 s22 s23 s24 s25 s26)
    = f57.l1 L N (f57 L N m) (f57.X1_e3 κ) n s19 s20 s21 s22 s23 s24 s25 s26 := by
  intro n
  induction n with
  | zero => intros; rfl
  | succ n ih =>
    intro s19 s20 s21 s22 s23 s24 s25 s26
    rw [evLp_succ, f57.s1_eq]
    delta f57.R1
    simp only [ih]
    rfl
noncomputable def f57.c2 : Code := loopAt 5 (codeOf Tryd.f57)
noncomputable def f57.c3 : Code := loopAt 7 f57.c2
def f57.X3_e7 {R : Type} (κ : KX R) := fun z48 z49 z50 z51 z52 => κ (.exit 7) (f57.T3_e7 z48 z49 z50 z51 z52) (f57.H3_e7 z48 z49 z50 z51 z52)
def f57.R3 {R : Type} (rec : KT R) := fun s37 s38 s39 s40 s41 s42 s43 s44 s45 s46 s47 => rec (f57.T3 s37 s38 s39 s40 s41 s42 s43 s44 s45 s46 s47) (f57.H3 s37 s38 s39 s40 s41 s42 s43 s44 s45 s46 s47)
theorem f57.s3_eq {R : Type} (L N m : Nat) (κ : KX R) (rec : KT R) (s37 : Int) (s38 : Int) (s39 : Int) (s40 : Int) (s41 : Int) (s42 : Int) (s43 : Int) (s44 : LT) (s45 : LS) (s46 : LS) (s47 : LS) :
    evRd (E57 L N m) (evCallI (E57 L N m) 1 2000) 1000 57 183 7 f57.c3 κ rec (f57.T3 s37 s38 s39 s40 s41 s42 s43 s44 s45 s46 s47) (f57.H3 s37 s38 s39 s40 s41 s42 s43 s44 s45 s46 s47)
    = f57.s3 L N (f57 L N m) (f57.X3_e7 κ) (f57.R3 rec) s37 s38 s39 s40 s41 s42 s43 s44 s45 s46 s47 := by kernel_rfl
theorem f57.l3_eq {R : Type} (L N m : Nat) (κ : KX R) : ∀ (n : Nat) (s37 : Int) (s38 : Int) (s39 : Int) (s40 : Int) (s41 : Int) (s42 : Int) (s43 : Int) (s44 : LT) (s45 : LS) (s46 : LS) (s47 : LS),
    evLp (E57 L N m) (evCallI (E57 L N m) 1 2000) 1000 57 183 7 f57.c3 κ n (f57.T3 s37 s38 s39 s40 s41 s42 s43 s44 s45 s46 s47) (f57.H3 s37 s38 s39 s40 s41 s42 s43 s44 s45 s46 s47)
    = f57.l3 L N (f57 L N m) (f57.X3_e7 κ) n s37 s38 s39 s40 s41 s42 s43 s44 s45 s46 s47 := by
  intro n
  induction n with
  | zero => intros; rfl
  | succ n ih =>
    intro s37 s38 s39 s40 s41 s42 s43 s44 s45 s46 s47
    rw [evLp_succ, f57.s3_eq]
    delta f57.R3
    simp only [ih]
    rfl
def f57.X2_e5 {R : Type} (κ : KX R) := fun z36 => κ (.exit 5) (f57.T2_e5 z36) (f57.H2_e5 z36)
def f57.R2 {R : Type} (rec : KT R) := fun s31 s32 s33 s34 s35 => rec (f57.T2 s31 s32 s33 s34 s35) (f57.H2 s31 s32 s33 s34 s35)
theorem f57.p3_e7_eq {R : Type} (L N m : Nat) (κ : KX R) (rec : KT R) (z48 : Int) (z49 : Int) (z50 : LS) (z51 : LS) (z52 : LS) :
    (contAt (E57 L N m) (evCallI (E57 L N m) 1 2000) 1000 57 183 7 f57.c2 (rdK (E57 L N m) 1000 57 183 5 κ rec)) (.exit 7) (f57.T3_e7 z48 z49 z50 z51 z52) (f57.H3_e7 z48 z49 z50 z51 z52)
    = f57.p3_e7 L N (f57 L N m) (f57.X2_e5 κ) (f57.R2 rec) z48 z49 z50 z51 z52 := by kernel_rfl
theorem f57.s2_eq {R : Type} (L N m : Nat) (κ : KX R) (rec : KT R) (s31 : Int) (s32 : Int) (s33 : LS) (s34 : LS) (s35 : LS) :
    evRd (E57 L N m) (evCallI (E57 L N m) 1 2000) 1000 57 183 5 f57.c2 κ rec (f57.T2 s31 s32 s33 s34 s35) (f57.H2 s31 s32 s33 s34 s35)
    = f57.s2 L N (f57 L N m) (f57.X2_e5 κ) (f57.R2 rec) s31 s32 s33 s34 s35 := by
  refine Eq.trans (b := f57.s2' L N (f57 L N m) (f57.X2_e5 κ) (f57.R2 rec) (fun s37 s38 s39 s40 s41 s42 s43 s44 s45 s46 s47 => evLp (E57 L N m) (evCallI (E57 L N m) 1 2000) 1000 57 183 7 f57.c3 (contAt (E57 L N m) (evCallI (E57 L N m) 1 2000) 1000 57 183 7 f57.c2 (rdK (E57 L N m) 1000 57 183 5 κ rec)) L (f57.T3 s37 s38 s39 s40 s41 s42 s43 s44 s45 s46 s47) (f57.H3 s37 s38 s39 s40 s41 s42 s43 s44 s45 s46 s47)) s31 s32 s33 s34 s35) (by kernel_rfl) ?_
  unfold f57.s2
  simp only [f57.l3_eq]
  delta f57.X3_e7
  simp only [f57.p3_e7_eq]
theorem f57.l2_eq {R : Type} (L N m : Nat) (κ : KX R) : ∀ (n : Nat) (s31 : Int) (s32 : Int) (s33 : LS) (s34 : LS) (s35 : LS),
    evLp (E57 L N m) (evCallI (E57 L N m) 1 2000) 1000 57 183 5 f57.c2 κ n (f57.T2 s31 s32 s33 s34 s35) (f57.H2 s31 s32 s33 s34 s35)
    = f57.l2 L N (f57 L N m) (f57.X2_e5 κ) n s31 s32 s33 s34 s35 := by
  intro n
  induction n with
  | zero => intros; rfl
  | succ n ih =>
    intro s31 s32 s33 s34 s35
    rw [evLp_succ, f57.s2_eq]
    delta f57.R2
    simp only [ih]
    rfl
theorem f57.p2_e5_eq {R : Type} (L N m : Nat) (κ : List Step → Option R) (z36 : LS) :
    (contAt (E57 L N m) (evCallI (E57 L N m) 1 2000) 1000 57 183 5 (codeOf Tryd.f57) (finK (E57 L N m) 1000 Tryd.f57 (finRow 66 (.st 3) κ))) (.exit 5) (f57.T2_e5 z36) (f57.H2_e5 z36)
    = f57.p2_e5 L N (f57 L N m) κ z36 := by kernel_rfl
theorem f57.p1_e3_eq {R : Type} (L N m : Nat) (κ : List Step → Option R) (z27 : LS) (z28 : LS) (z29 : LS) :
    (contAt (E57 L N m) (evCallI (E57 L N m) 1 2000) 1000 57 183 3 (codeOf Tryd.f57) (finK (E57 L N m) 1000 Tryd.f57 (finRow 66 (.st 3) κ))) (.exit 3) (f57.T1_e3 z27 z28 z29) (f57.H1_e3 z27 z28 z29)
    = f57.p1_e3 L N (f57 L N m) κ z27 z28 z29 := by
  refine Eq.trans (b := f57.p1_e3' L N (f57 L N m) κ (fun s31 s32 s33 s34 s35 => evLp (E57 L N m) (evCallI (E57 L N m) 1 2000) 1000 57 183 5 f57.c2 (contAt (E57 L N m) (evCallI (E57 L N m) 1 2000) 1000 57 183 5 (codeOf Tryd.f57) (finK (E57 L N m) 1000 Tryd.f57 (finRow 66 (.st 3) κ))) L (f57.T2 s31 s32 s33 s34 s35) (f57.H2 s31 s32 s33 s34 s35)) z27 z28 z29) (by kernel_rfl) ?_
  unfold f57.p1_e3
  simp only [f57.l2_eq]
  delta f57.X2_e5
  simp only [f57.p2_e5_eq]
theorem f57.p0_e1_eq {R : Type} (L N m : Nat) (κ : List Step → Option R) (z12 : Int) (z13 : Int) (z14 : LT) (z15 : LS) (z16 : LS) (z17 : LS) :
    (contAt (E57 L N m) (evCallI (E57 L N m) 1 2000) 1000 57 183 1 (codeOf Tryd.f57) (finK (E57 L N m) 1000 Tryd.f57 (finRow 66 (.st 3) κ))) (.exit 1) (f57.T0_e1 z12 z13 z14 z15 z16 z17) (f57.H0_e1 z12 z13 z14 z15 z16 z17)
    = f57.p0_e1 L N (f57 L N m) κ z12 z13 z14 z15 z16 z17 := by
  refine Eq.trans (b := f57.p0_e1' L N (f57 L N m) κ (fun s19 s20 s21 s22 s23 s24 s25 s26 => evLp (E57 L N m) (evCallI (E57 L N m) 1 2000) 1000 57 183 3 f57.c1 (contAt (E57 L N m) (evCallI (E57 L N m) 1 2000) 1000 57 183 3 (codeOf Tryd.f57) (finK (E57 L N m) 1000 Tryd.f57 (finRow 66 (.st 3) κ))) L (f57.T1 s19 s20 s21 s22 s23 s24 s25 s26) (f57.H1 s19 s20 s21 s22 s23 s24 s25 s26)) z12 z13 z14 z15 z16 z17) (by kernel_rfl) ?_
  unfold f57.p0_e1
  simp only [f57.l1_eq]
  delta f57.X1_e3
  simp only [f57.p1_e3_eq]
noncomputable def f57.c4 : Code := loopAt 9 (codeOf Tryd.f57)
def f57.X4_e9 {R : Type} (κ : KX R) := fun z89 => κ (.exit 9) (f57.T4_e9 z89) (f57.H4_e9 z89)
def f57.R4 {R : Type} (rec : KT R) := fun s82 s83 s84 s85 s86 s87 s88 => rec (f57.T4 s82 s83 s84 s85 s86 s87 s88) (f57.H4 s82 s83 s84 s85 s86 s87 s88)
theorem f57.s4_eq {R : Type} (L N m : Nat) (κ : KX R) (rec : KT R) (s82 : Int) (s83 : Int) (s84 : Int) (s85 : Int) (s86 : LT) (s87 : LS) (s88 : LS) :
    evRd (E57 L N m) (evCallI (E57 L N m) 1 2000) 1000 57 183 9 f57.c4 κ rec (f57.T4 s82 s83 s84 s85 s86 s87 s88) (f57.H4 s82 s83 s84 s85 s86 s87 s88)
    = f57.s4 L N (f57 L N m) (f57.X4_e9 κ) (f57.R4 rec) s82 s83 s84 s85 s86 s87 s88 := by kernel_rfl
theorem f57.l4_eq {R : Type} (L N m : Nat) (κ : KX R) : ∀ (n : Nat) (s82 : Int) (s83 : Int) (s84 : Int) (s85 : Int) (s86 : LT) (s87 : LS) (s88 : LS),
    evLp (E57 L N m) (evCallI (E57 L N m) 1 2000) 1000 57 183 9 f57.c4 κ n (f57.T4 s82 s83 s84 s85 s86 s87 s88) (f57.H4 s82 s83 s84 s85 s86 s87 s88)
    = f57.l4 L N (f57 L N m) (f57.X4_e9 κ) n s82 s83 s84 s85 s86 s87 s88 := by
  intro n
  induction n with
  | zero => intros; rfl
  | succ n ih =>
    intro s82 s83 s84 s85 s86 s87 s88
    rw [evLp_succ, f57.s4_eq]
    delta f57.R4
    simp only [ih]
    rfl
theorem f57.p4_e9_eq {R : Type} (L N m : Nat) (κ : List Step → Option R) (z89 : LS) :
    (contAt (E57 L N m) (evCallI (E57 L N m) 1 2000) 1000 57 183 9 (codeOf Tryd.f57) (finK (E57 L N m) 1000 Tryd.f57 (finRow 66 (.st 3) κ))) (.exit 9) (f57.T4_e9 z89) (f57.H4_e9 z89)
    = f57.p4_e9 L N (f57 L N m) κ z89 := by kernel_rfl
theorem f57.b_eq {R : Type} (L N m : Nat) (κ : List Step → Option R) (x0 : Tree) (x1 : LT) :
    evBody (E57 L N m) (evCallI (E57 L N m) 1 2000) 1000 57 Tryd.f57 [(.tv (.st 1) x0), (.tv (.sl (.st 1)) x1)] [] [] (finRow 66 (.st 3) κ)
    = f57.b L N (f57 L N m) κ x0 x1 := by
  refine Eq.trans (b := f57.b' L N (f57 L N m) κ (fun s4 s5 s6 s7 s8 s9 s10 s11 => evLp (E57 L N m) (evCallI (E57 L N m) 1 2000) 1000 57 183 1 f57.c0 (contAt (E57 L N m) (evCallI (E57 L N m) 1 2000) 1000 57 183 1 (codeOf Tryd.f57) (finK (E57 L N m) 1000 Tryd.f57 (finRow 66 (.st 3) κ))) L (f57.T0 s4 s5 s6 s7 s8 s9 s10 s11) (f57.H0 s4 s5 s6 s7 s8 s9 s10 s11)) (fun s82 s83 s84 s85 s86 s87 s88 => evLp (E57 L N m) (evCallI (E57 L N m) 1 2000) 1000 57 183 9 f57.c4 (contAt (E57 L N m) (evCallI (E57 L N m) 1 2000) 1000 57 183 9 (codeOf Tryd.f57) (finK (E57 L N m) 1000 Tryd.f57 (finRow 66 (.st 3) κ))) L (f57.T4 s82 s83 s84 s85 s86 s87 s88) (f57.H4 s82 s83 s84 s85 s86 s87 s88)) x0 x1) (by kernel_rfl) ?_
  unfold f57.b
  simp only [f57.l0_eq, f57.l4_eq]
  delta f57.X0_e1 f57.X4_e9
  simp only [f57.p0_e1_eq, f57.p4_e9_eq]
theorem f57.ok (L N m : Nat) (hΦ : TellsOk Tryd.prog (Φ57s L N m)) : EntOk Tryd.prog 57 (f57.ent L N (m + 1)) := by
  intro args vw site h
  unfold f57.ent
  split
  · rename_i d u ha
    intro y hy hs
    refine call_row (dep := 1000) (E := (E57 L N m)) (sound_of hΦ) okP (callI_sound (sound_of hΦ) okP 1 2000) (f := Tryd.f57) rfl hs ha ?_ site
    exact (f57.b_eq L N m some d.1 d.2.1).trans hy
  · intro y hy
    cases hy
theorem Φ57s_ok (L N : Nat) : ∀ m, TellsOk Tryd.prog (Φ57s L N m) := by
  intro m
  induction m with
  | zero => exact (addT_ok (Φ75_ok L N) (fun args vw site h => by unfold f57.ent; split <;> (intro y hy; cases hy)))
  | succ m ih => exact (addT_ok (Φ75_ok L N) (f57.ok L N m ih))
def Φ57 (L N : Nat) : Tells := (addT (Φ75 L N) 57 (f57.ent L N N))
theorem Φ57_ok (L N : Nat) : TellsOk Tryd.prog (Φ57 L N) := Φ57s_ok L N N
def f58.b' {R : Type} (L N : Nat) (k : Tree → Option R) (x0 : Int) (x1 : Tree) : Option R :=
  k (Tree.mk (1 : Int) x0 ([(Tree.mk x1.op x1.n x1.parts)] : LT))
def f58.b {R : Type} (L N : Nat) (k : Tree → Option R) (x0 : Int) (x1 : Tree) : Option R :=
  f58.b' L N k x0 x1
def f58 (L N : Nat) (x0 : Int) (x1 : Tree) : Option (Tree) := f58.b L N some x0 x1
def f58.ent (L N : Nat) := entDa [i64, (.st 1)] (.one (.st 1)) fun d => f58 L N d.1 d.2.1
noncomputable def E58 (L N : Nat) : Env := { P := Tryd.prog, ty := tyOf, Φ := (Φ57 L N), inl := inlT, live := lives, liveX := livesX, L := L, dp := none, prom := promT, heal := healT, ren := renT }
theorem f58.b_eq {R : Type} (L N : Nat) (κ : AV → Option R) (x0 : Int) (x1 : Tree) :
    evBody (E58 L N) (evCallI (E58 L N) 1 2000) 1000 58 Tryd.f58 [(.tv i64 x0), (.tv (.st 1) x1)] [] [] (finC (.one (.st 1)) κ)
    = f58.b L N (fun a0 => κ (.tv (.st 1) a0)) x0 x1 := by kernel_rfl
theorem f58.ok (L N : Nat) (hΦ : TellsOk Tryd.prog ((Φ57 L N))) : EntOk Tryd.prog 58 (f58.ent L N) := entDa_ok (E := (E58 L N)) (dep := 1000) (f := Tryd.f58) (sound_of hΦ) okP (callI_sound (sound_of hΦ) okP 1 2000) rfl fun d _ hy => (f58.b_eq L N (unR (.one (.st 1))) d.1 d.2.1).trans (Eq.trans (b := f58.b L N some d.1 d.2.1) (by kernel_rfl) hy)
def Φ58 (L N : Nat) : Tells := (addT (Φ57 L N) 58 (f58.ent L N))
theorem Φ58_ok (L N : Nat) : TellsOk Tryd.prog (Φ58 L N) := addT_ok (Φ57_ok L N) (f58.ok L N (Φ57_ok L N))
def f60.s0' {R : Type} (L N : Nat) (k0_e0 : Int → Int → Int → Int → LT → Option R) (rec0 : LT → Int → Int → Int → Int → Int → LT → Option R) (s0 : LT) (s1 : Int) (s2 : Int) (s3 : Int) (s4 : Int) (s5 : Int) (s6 : LT) : Option R :=
  bif (decide (s1 ≥ (0 : Int))) then
    bif (decide (0 ≤ s1) && decide (s1 < (s0.length : Int))) then
      rec0 s0 (wi (s1 - (1 : Int))) s2 s3 ((Tree.mk (2 : Int) (0 : Int) ([(listAt s0 (Ty.dflt (.st 1)) s1.toNat), (Tree.mk s4 s5 s6)] : LT)).op) ((Tree.mk (2 : Int) (0 : Int) ([(listAt s0 (Ty.dflt (.st 1)) s1.toNat), (Tree.mk s4 s5 s6)] : LT)).n) ((Tree.mk (2 : Int) (0 : Int) ([(listAt s0 (Ty.dflt (.st 1)) s1.toNat), (Tree.mk s4 s5 s6)] : LT)).parts)
    else none
  else k0_e0 s2 s3 s4 s5 s6
def f60.s0 {R : Type} (L N : Nat) (k0_e0 : Int → Int → Int → Int → LT → Option R) (rec0 : LT → Int → Int → Int → Int → Int → LT → Option R) (s0 : LT) (s1 : Int) (s2 : Int) (s3 : Int) (s4 : Int) (s5 : Int) (s6 : LT) : Option R :=
  f60.s0' L N k0_e0 rec0 s0 s1 s2 s3 s4 s5 s6
def f60.l0 {R : Type} (L N : Nat) (k0_e0 : Int → Int → Int → Int → LT → Option R) : Nat → LT → Int → Int → Int → Int → Int → LT → Option R
  | 0, _, _, _, _, _, _, _ => none
  | n + 1, s0, s1, s2, s3, s4, s5, s6 => f60.s0 L N k0_e0 (f60.l0 L N k0_e0 n) s0 s1 s2 s3 s4 s5 s6
def f60.T0 (s0 : LT) (s1 : Int) (s2 : Int) (s3 : Int) (s4 : Int) (s5 : Int) (s6 : LT) : T := mkT 30 [(0, (.tv (.sl (.st 1)) s0)), (2, (.ptr 1002 0)), (3, (.ptr 1003 0)), (4, (.tv i64 s1))]
def f60.H0 (s0 : LT) (s1 : Int) (s2 : Int) (s3 : Int) (s4 : Int) (s5 : Int) (s6 : LT) : H := [(1002, (.box [(.tv i64 s2), (.tv i64 s3), .nil])), (1003, (.box [(.tv i64 s4), (.tv i64 s5), (.tv (.sl (.st 1)) s6)]))]
def f60.T0_e0 (z7 : Int) (z8 : Int) (z9 : Int) (z10 : Int) (z11 : LT) : T := mkT 30 [(2, (.ptr 1002 0)), (3, (.ptr 1003 0))]
def f60.H0_e0 (z7 : Int) (z8 : Int) (z9 : Int) (z10 : Int) (z11 : LT) : H := [(1002, (.box [(.tv i64 z7), (.tv i64 z8), .nil])), (1003, (.box [(.tv i64 z9), (.tv i64 z10), (.tv (.sl (.st 1)) z11)]))]
def f60.p0_e0' {R : Type} (L N : Nat) (k : Tree → Option R) (z7 : Int) (z8 : Int) (z9 : Int) (z10 : Int) (z11 : LT) : Option R :=
  k (Tree.mk ((Tree.mk z9 z10 z11).op) ((Tree.mk z9 z10 z11).n) ((Tree.mk z9 z10 z11).parts))
def f60.p0_e0 {R : Type} (L N : Nat) (k : Tree → Option R) (z7 : Int) (z8 : Int) (z9 : Int) (z10 : Int) (z11 : LT) : Option R :=
  f60.p0_e0' L N k z7 z8 z9 z10 z11
def f60.b' {R : Type} (L N : Nat) (k : Tree → Option R) (w0 : LT → Int → Int → Int → Int → Int → LT → Option R) (x0 : LT) : Option R :=
  bif ((x0.length : Int) == (0 : Int)) then
    k (Tree.mk ((Tree.mk (0 : Int) (0 : Int) []).op) ((Tree.mk (0 : Int) (0 : Int) []).n) ((Tree.mk (0 : Int) (0 : Int) []).parts))
  else bif (decide (0 ≤ (wi ((x0.length : Int) - (1 : Int)))) && decide ((wi ((x0.length : Int) - (1 : Int))) < (x0.length : Int))) then
    w0 x0 (wi ((x0.length : Int) - (2 : Int))) (0 : Int) (0 : Int) ((listAt x0 (Ty.dflt (.st 1)) (wi ((x0.length : Int) - (1 : Int))).toNat).op) ((listAt x0 (Ty.dflt (.st 1)) (wi ((x0.length : Int) - (1 : Int))).toNat).n) ((listAt x0 (Ty.dflt (.st 1)) (wi ((x0.length : Int) - (1 : Int))).toNat).parts)
  else none
def f60.b {R : Type} (L N : Nat) (k : Tree → Option R) (x0 : LT) : Option R :=
  f60.b' L N k (fun s0 s1 s2 s3 s4 s5 s6 => f60.l0 L N (fun z7 z8 z9 z10 z11 => f60.p0_e0 L N k z7 z8 z9 z10 z11) L s0 s1 s2 s3 s4 s5 s6) x0
def f60 (L N : Nat) (x0 : LT) : Option (Tree) := f60.b L N some x0
def f60.ent (L N : Nat) := entDa [(.sl (.st 1))] (.one (.st 1)) fun d => f60 L N d.1
noncomputable def E60 (L N : Nat) : Env := { P := Tryd.prog, ty := tyOf, Φ := (Φ58 L N), inl := inlT, live := lives, liveX := livesX, L := L, dp := none, prom := promT, heal := healT, ren := renT, zd := true }
noncomputable def f60.c0 : Code := loopAt 0 (codeOf Tryd.f60)
def f60.X0_e0 {R : Type} (κ : KX R) := fun z7 z8 z9 z10 z11 => κ (.exit 0) (f60.T0_e0 z7 z8 z9 z10 z11) (f60.H0_e0 z7 z8 z9 z10 z11)
def f60.R0 {R : Type} (rec : KT R) := fun s0 s1 s2 s3 s4 s5 s6 => rec (f60.T0 s0 s1 s2 s3 s4 s5 s6) (f60.H0 s0 s1 s2 s3 s4 s5 s6)
theorem f60.s0_eq {R : Type} (L N : Nat) (κ : KX R) (rec : KT R) (s0 : LT) (s1 : Int) (s2 : Int) (s3 : Int) (s4 : Int) (s5 : Int) (s6 : LT) :
    evRd (E60 L N) (evCallI (E60 L N) 1 2000) 1000 60 30 0 f60.c0 κ rec (f60.T0 s0 s1 s2 s3 s4 s5 s6) (f60.H0 s0 s1 s2 s3 s4 s5 s6)
    = f60.s0 L N (f60.X0_e0 κ) (f60.R0 rec) s0 s1 s2 s3 s4 s5 s6 := by kernel_rfl
theorem f60.l0_eq {R : Type} (L N : Nat) (κ : KX R) : ∀ (n : Nat) (s0 : LT) (s1 : Int) (s2 : Int) (s3 : Int) (s4 : Int) (s5 : Int) (s6 : LT),
    evLp (E60 L N) (evCallI (E60 L N) 1 2000) 1000 60 30 0 f60.c0 κ n (f60.T0 s0 s1 s2 s3 s4 s5 s6) (f60.H0 s0 s1 s2 s3 s4 s5 s6)
    = f60.l0 L N (f60.X0_e0 κ) n s0 s1 s2 s3 s4 s5 s6 := by
  intro n
  induction n with
  | zero => intros; rfl
  | succ n ih =>
    intro s0 s1 s2 s3 s4 s5 s6
    rw [evLp_succ, f60.s0_eq]
    delta f60.R0
    simp only [ih]
    rfl
theorem f60.p0_e0_eq {R : Type} (L N : Nat) (κ : AV → Option R) (z7 : Int) (z8 : Int) (z9 : Int) (z10 : Int) (z11 : LT) :
    (contAt (E60 L N) (evCallI (E60 L N) 1 2000) 1000 60 30 0 (codeOf Tryd.f60) (finK (E60 L N) 1000 Tryd.f60 (finC (.one (.st 1)) κ))) (.exit 0) (f60.T0_e0 z7 z8 z9 z10 z11) (f60.H0_e0 z7 z8 z9 z10 z11)
    = f60.p0_e0 L N (fun a0 => κ (.tv (.st 1) a0)) z7 z8 z9 z10 z11 := by kernel_rfl
theorem f60.b_eq {R : Type} (L N : Nat) (κ : AV → Option R) (x0 : LT) :
    evBody (E60 L N) (evCallI (E60 L N) 1 2000) 1000 60 Tryd.f60 [(.tv (.sl (.st 1)) x0)] [] [] (finC (.one (.st 1)) κ)
    = f60.b L N (fun a0 => κ (.tv (.st 1) a0)) x0 := by
  refine Eq.trans (b := f60.b' L N (fun a0 => κ (.tv (.st 1) a0)) (fun s0 s1 s2 s3 s4 s5 s6 => evLp (E60 L N) (evCallI (E60 L N) 1 2000) 1000 60 30 0 f60.c0 (contAt (E60 L N) (evCallI (E60 L N) 1 2000) 1000 60 30 0 (codeOf Tryd.f60) (finK (E60 L N) 1000 Tryd.f60 (finC (.one (.st 1)) κ))) L (f60.T0 s0 s1 s2 s3 s4 s5 s6) (f60.H0 s0 s1 s2 s3 s4 s5 s6)) x0) (by kernel_rfl) ?_
  unfold f60.b
  simp only [f60.l0_eq]
  delta f60.X0_e0
  simp only [f60.p0_e0_eq]
theorem f60.ok (L N : Nat) (hΦ : TellsOk Tryd.prog ((Φ58 L N))) : EntOk Tryd.prog 60 (f60.ent L N) := entDa_ok (E := (E60 L N)) (dep := 1000) (f := Tryd.f60) (sound_of hΦ) okP (callI_sound (sound_of hΦ) okP 1 2000) rfl fun d _ hy => (f60.b_eq L N (unR (.one (.st 1))) d.1).trans (Eq.trans (b := f60.b L N some d.1) (by kernel_rfl) hy)
def Φ60 (L N : Nat) : Tells := (addT (Φ58 L N) 60 (f60.ent L N))
theorem Φ60_ok (L N : Nat) : TellsOk Tryd.prog (Φ60 L N) := addT_ok (Φ58_ok L N) (f60.ok L N (Φ58_ok L N))
def f67_1.b' {R : Type} (L N : Nat) (k : Bool → Option R) (x0 : Int) (x1 : Tree) : Option R :=
  k (x1.op == x0)
def f67_1.b {R : Type} (L N : Nat) (k : Bool → Option R) (x0 : Int) (x1 : Tree) : Option R :=
  f67_1.b' L N k x0 x1
def f67_1 (L N : Nat) (x0 : Int) (x1 : Tree) : Option (Bool) := f67_1.b L N some x0 x1
def f67_1.ent (L N : Nat) := entRf [(.dat i64), (.imp (.st 1) 0)] (.one .bool) fun d => f67_1 L N d.1 d.2.1
noncomputable def E67_1 (L N : Nat) : Env := { P := Tryd.prog, ty := tyOf, Φ := (Φ60 L N), inl := inlT, live := lives, liveX := livesX, L := L, dp := none, prom := promT, heal := healT, ren := renT }
theorem f67_1.b_eq {R : Type} (L N : Nat) (κ : AV → Option R) (x0 : Int) (x1 : Tree) :
    evBody (E67_1 L N) (evCallI (E67_1 L N) 1 2000) 1000 67 Tryd.f67 [(.tv i64 x0), (.imp (.st 1) x1 0)] [] [] (finC (.one .bool) κ)
    = f67_1.b L N (fun a0 => κ (.tv .bool a0)) x0 x1 := by kernel_rfl
theorem f67_1.ok (L N : Nat) (hΦ : TellsOk Tryd.prog ((Φ60 L N))) : EntOkO Tryd.prog 67 (f67_1.ent L N) := entRf_ok (E := (E67_1 L N)) (dep := 1000) (f := Tryd.f67) (sound_of hΦ) okP (callI_sound (sound_of hΦ) okP 1 2000) rfl rfl fun d _ hy => (f67_1.b_eq L N (unR (.one .bool)) d.1 d.2.1).trans (Eq.trans (b := f67_1.b L N some d.1 d.2.1) (by kernel_rfl) hy)
def Φ67_1 (L N : Nat) : Tells := (addO (Φ60 L N) 67 (f67_1.ent L N))
theorem Φ67_1_ok (L N : Nat) : TellsOk Tryd.prog (Φ67_1 L N) := addO_ok (Φ60_ok L N) (f67_1.ok L N (Φ60_ok L N))
def f68_1.b' {R : Type} (L N : Nat) (k : Bool → Option R) (x0 : Int) (x1 : Int) (x2 : Tree) : Option R :=
  bif (decide ((x2.parts.length : Int) > x0)) then
    bif (decide (0 ≤ x0) && decide (x0 < (x2.parts.length : Int))) then
      k ((listAt x2.parts (Ty.dflt (.st 1)) x0.toNat).op == x1)
    else none
  else k false
def f68_1.b {R : Type} (L N : Nat) (k : Bool → Option R) (x0 : Int) (x1 : Int) (x2 : Tree) : Option R :=
  f68_1.b' L N k x0 x1 x2
def f68_1 (L N : Nat) (x0 : Int) (x1 : Int) (x2 : Tree) : Option (Bool) := f68_1.b L N some x0 x1 x2
def f68_1.ent (L N : Nat) := entRf [(.dat i64), (.dat i64), (.imp (.st 1) 0)] (.one .bool) fun d => f68_1 L N d.1 d.2.1 d.2.2.1
noncomputable def E68_1 (L N : Nat) : Env := { P := Tryd.prog, ty := tyOf, Φ := (Φ67_1 L N), inl := inlT, live := lives, liveX := livesX, L := L, dp := none, prom := promT, heal := healT, ren := renT }
theorem f68_1.b_eq {R : Type} (L N : Nat) (κ : AV → Option R) (x0 : Int) (x1 : Int) (x2 : Tree) :
    evBody (E68_1 L N) (evCallI (E68_1 L N) 1 2000) 1000 68 Tryd.f68 [(.tv i64 x0), (.tv i64 x1), (.imp (.st 1) x2 0)] [] [] (finC (.one .bool) κ)
    = f68_1.b L N (fun a0 => κ (.tv .bool a0)) x0 x1 x2 := by kernel_rfl
theorem f68_1.ok (L N : Nat) (hΦ : TellsOk Tryd.prog ((Φ67_1 L N))) : EntOkO Tryd.prog 68 (f68_1.ent L N) := entRf_ok (E := (E68_1 L N)) (dep := 1000) (f := Tryd.f68) (sound_of hΦ) okP (callI_sound (sound_of hΦ) okP 1 2000) rfl rfl fun d _ hy => (f68_1.b_eq L N (unR (.one .bool)) d.1 d.2.1 d.2.2.1).trans (Eq.trans (b := f68_1.b L N some d.1 d.2.1 d.2.2.1) (by kernel_rfl) hy)
def Φ68_1 (L N : Nat) : Tells := (addO (Φ67_1 L N) 68 (f68_1.ent L N))
theorem Φ68_1_ok (L N : Nat) : TellsOk Tryd.prog (Φ68_1 L N) := addO_ok (Φ67_1_ok L N) (f68_1.ok L N (Φ67_1_ok L N))
def f71_1.s0' {R : Type} (L N : Nat) (self71_1 : Bool → Bool → Bool → Bool → Tree → Option (Bool × Bool × Bool × Bool)) (k0_e0 : Bool → Bool → Bool → Bool → Int → Int → LT → Bool → Bool → Bool → Bool → Option R) (rec0 : LT → Int → Int → Bool → Bool → Bool → Bool → Int → Int → LT → Bool → Bool → Bool → Bool → Option R) (s0 : LT) (s1 : Int) (s2 : Int) (s3 : Bool) (s4 : Bool) (s5 : Bool) (s6 : Bool) (s7 : Int) (s8 : Int) (s9 : LT) (s10 : Bool) (s11 : Bool) (s12 : Bool) (s13 : Bool) : Option R :=
  bif (decide (s2 < s1)) then
    bif (decide (0 ≤ s2) && decide (s2 < (s0.length : Int))) then
      (self71_1 s10 s11 s12 s13 (Tree.mk ((listAt s0 (Ty.dflt (.st 1)) s2.toNat).op) ((listAt s0 (Ty.dflt (.st 1)) s2.toNat).n) ((listAt s0 (Ty.dflt (.st 1)) s2.toNat).parts))).bind fun y25 =>
      rec0 s0 s1 (wi (s2 + (1 : Int))) s3 s4 s5 s6 s7 s8 s9 y25.1 y25.2.1 y25.2.2.1 y25.2.2.2
    else none
  else k0_e0 s3 s4 s5 s6 s7 s8 s9 s10 s11 s12 s13
def f71_1.s0 {R : Type} (L N : Nat) (self71_1 : Bool → Bool → Bool → Bool → Tree → Option (Bool × Bool × Bool × Bool)) (k0_e0 : Bool → Bool → Bool → Bool → Int → Int → LT → Bool → Bool → Bool → Bool → Option R) (rec0 : LT → Int → Int → Bool → Bool → Bool → Bool → Int → Int → LT → Bool → Bool → Bool → Bool → Option R) (s0 : LT) (s1 : Int) (s2 : Int) (s3 : Bool) (s4 : Bool) (s5 : Bool) (s6 : Bool) (s7 : Int) (s8 : Int) (s9 : LT) (s10 : Bool) (s11 : Bool) (s12 : Bool) (s13 : Bool) : Option R :=
  f71_1.s0' L N self71_1 k0_e0 rec0 s0 s1 s2 s3 s4 s5 s6 s7 s8 s9 s10 s11 s12 s13
def f71_1.l0 {R : Type} (L N : Nat) (self71_1 : Bool → Bool → Bool → Bool → Tree → Option (Bool × Bool × Bool × Bool)) (k0_e0 : Bool → Bool → Bool → Bool → Int → Int → LT → Bool → Bool → Bool → Bool → Option R) : Nat → LT → Int → Int → Bool → Bool → Bool → Bool → Int → Int → LT → Bool → Bool → Bool → Bool → Option R
  | 0, _, _, _, _, _, _, _, _, _, _, _, _, _, _ => none
  | n + 1, s0, s1, s2, s3, s4, s5, s6, s7, s8, s9, s10, s11, s12, s13 => f71_1.s0 L N self71_1 k0_e0 (f71_1.l0 L N self71_1 k0_e0 n) s0 s1 s2 s3 s4 s5 s6 s7 s8 s9 s10 s11 s12 s13
def f71_1.T0 (s0 : LT) (s1 : Int) (s2 : Int) (s3 : Bool) (s4 : Bool) (s5 : Bool) (s6 : Bool) (s7 : Int) (s8 : Int) (s9 : LT) (s10 : Bool) (s11 : Bool) (s12 : Bool) (s13 : Bool) : T := mkT 56 [(1, (.ptr 0 0)), (2, (.ptr 1002 0)), (4, (.ptr 1004 0)), (11, (.tv (.sl (.st 1)) s0)), (12, (.tv i64 s1)), (13, (.tv i64 s2))] ++ [.ptr 0 0]
def f71_1.H0 (s0 : LT) (s1 : Int) (s2 : Int) (s3 : Bool) (s4 : Bool) (s5 : Bool) (s6 : Bool) (s7 : Int) (s8 : Int) (s9 : LT) (s10 : Bool) (s11 : Bool) (s12 : Bool) (s13 : Bool) : H := [(0, (.box [(.tv .bool s3), (.tv .bool s4), (.tv .bool s5), (.tv .bool s6)])), (1002, (.box [(.tv i64 s7), (.tv i64 s8), (.tv (.sl (.st 1)) s9)])), (1004, (.box [(.tv .bool s10), (.tv .bool s11), (.tv .bool s12), (.tv .bool s13)]))]
def f71_1.T0_e0 (z14 : Bool) (z15 : Bool) (z16 : Bool) (z17 : Bool) (z18 : Int) (z19 : Int) (z20 : LT) (z21 : Bool) (z22 : Bool) (z23 : Bool) (z24 : Bool) : T := mkT 56 [(1, (.ptr 0 0)), (2, (.ptr 1002 0)), (4, (.ptr 1004 0))] ++ [.ptr 0 0]
def f71_1.H0_e0 (z14 : Bool) (z15 : Bool) (z16 : Bool) (z17 : Bool) (z18 : Int) (z19 : Int) (z20 : LT) (z21 : Bool) (z22 : Bool) (z23 : Bool) (z24 : Bool) : H := [(0, (.box [(.tv .bool z14), (.tv .bool z15), (.tv .bool z16), (.tv .bool z17)])), (1002, (.box [(.tv i64 z18), (.tv i64 z19), (.tv (.sl (.st 1)) z20)])), (1004, (.box [(.tv .bool z21), (.tv .bool z22), (.tv .bool z23), (.tv .bool z24)]))]
def f71_1.s1' {R : Type} (L N : Nat) (self71_1 : Bool → Bool → Bool → Bool → Tree → Option (Bool × Bool × Bool × Bool)) (k1_e2 : Bool → Bool → Bool → Bool → Option R) (rec1 : Bool → Bool → Bool → Bool → Int → Bool → Bool → Bool → Bool → Option R) (s58 : Bool) (s59 : Bool) (s60 : Bool) (s61 : Bool) (s62 : Int) (s63 : Bool) (s64 : Bool) (s65 : Bool) (s66 : Bool) : Option R :=
  bif (decide (s62 < (4 : Int))) then
    bif (decide (0 ≤ s62) && decide (s62 < ((4 : Nat) : Int))) then
      bif (decide (0 ≤ s62) && decide (s62 < ((4 : Nat) : Int))) then
        bif (Nat.blt (0 + s62.toNat) 4) then
          bif (atB (0 + s62.toNat) [s63, s64, s65, s66]) then
            bif (decide (0 ≤ s62) && decide (s62 < ((4 : Nat) : Int))) then
              bif (Nat.blt (0 + s62.toNat) 4) then
                rec1 s58 s59 s60 s61 (wi (s62 + (1 : Int))) (bif Nat.beq (0 + s62.toNat) 0 then true else s63) (bif Nat.beq (0 + s62.toNat) 1 then true else s64) (bif Nat.beq (0 + s62.toNat) 2 then true else s65) (bif Nat.beq (0 + s62.toNat) 3 then true else s66)
              else none
            else none
          else bif (decide (0 ≤ s62) && decide (s62 < ((4 : Nat) : Int))) then
            bif (Nat.blt (0 + s62.toNat) 4) then
              rec1 s58 s59 s60 s61 (wi (s62 + (1 : Int))) (bif Nat.beq (0 + s62.toNat) 0 then (atB s62.toNat [s58, s59, s60, s61]) else s63) (bif Nat.beq (0 + s62.toNat) 1 then (atB s62.toNat [s58, s59, s60, s61]) else s64) (bif Nat.beq (0 + s62.toNat) 2 then (atB s62.toNat [s58, s59, s60, s61]) else s65) (bif Nat.beq (0 + s62.toNat) 3 then (atB s62.toNat [s58, s59, s60, s61]) else s66)
            else none
          else none
        else none
      else none
    else none
  else k1_e2 s63 s64 s65 s66
def f71_1.s1 {R : Type} (L N : Nat) (self71_1 : Bool → Bool → Bool → Bool → Tree → Option (Bool × Bool × Bool × Bool)) (k1_e2 : Bool → Bool → Bool → Bool → Option R) (rec1 : Bool → Bool → Bool → Bool → Int → Bool → Bool → Bool → Bool → Option R) (s58 : Bool) (s59 : Bool) (s60 : Bool) (s61 : Bool) (s62 : Int) (s63 : Bool) (s64 : Bool) (s65 : Bool) (s66 : Bool) : Option R :=
  f71_1.s1' L N self71_1 k1_e2 rec1 s58 s59 s60 s61 s62 s63 s64 s65 s66
def f71_1.l1 {R : Type} (L N : Nat) (self71_1 : Bool → Bool → Bool → Bool → Tree → Option (Bool × Bool × Bool × Bool)) (k1_e2 : Bool → Bool → Bool → Bool → Option R) : Nat → Bool → Bool → Bool → Bool → Int → Bool → Bool → Bool → Bool → Option R
  | 0, _, _, _, _, _, _, _, _, _ => none
  | n + 1, s58, s59, s60, s61, s62, s63, s64, s65, s66 => f71_1.s1 L N self71_1 k1_e2 (f71_1.l1 L N self71_1 k1_e2 n) s58 s59 s60 s61 s62 s63 s64 s65 s66
def f71_1.T1 (s58 : Bool) (s59 : Bool) (s60 : Bool) (s61 : Bool) (s62 : Int) (s63 : Bool) (s64 : Bool) (s65 : Bool) (s66 : Bool) : T := mkT 56 [(1, (.ptr 0 0)), (38, (.agg [(.tv .bool s58), (.tv .bool s59), (.tv .bool s60), (.tv .bool s61)])), (39, (.tv i64 s62))] ++ [.ptr 0 0]
def f71_1.H1 (s58 : Bool) (s59 : Bool) (s60 : Bool) (s61 : Bool) (s62 : Int) (s63 : Bool) (s64 : Bool) (s65 : Bool) (s66 : Bool) : H := [(0, (.box [(.tv .bool s63), (.tv .bool s64), (.tv .bool s65), (.tv .bool s66)]))]
def f71_1.T1_e2 (z67 : Bool) (z68 : Bool) (z69 : Bool) (z70 : Bool) : T := mkT 56 [] ++ [.ptr 0 0]
def f71_1.H1_e2 (z67 : Bool) (z68 : Bool) (z69 : Bool) (z70 : Bool) : H := [(0, (.box [(.tv .bool z67), (.tv .bool z68), (.tv .bool z69), (.tv .bool z70)]))]
def f71_1.p1_e2' {R : Type} (L N : Nat) (self71_1 : Bool → Bool → Bool → Bool → Tree → Option (Bool × Bool × Bool × Bool)) (k : Bool → Bool → Bool → Bool → Option R) (z67 : Bool) (z68 : Bool) (z69 : Bool) (z70 : Bool) : Option R :=
  k z67 z68 z69 z70
def f71_1.p1_e2 {R : Type} (L N : Nat) (self71_1 : Bool → Bool → Bool → Bool → Tree → Option (Bool × Bool × Bool × Bool)) (k : Bool → Bool → Bool → Bool → Option R) (z67 : Bool) (z68 : Bool) (z69 : Bool) (z70 : Bool) : Option R :=
  f71_1.p1_e2' L N self71_1 k z67 z68 z69 z70
def f71_1.j1' {R : Type} (L N : Nat) (self71_1 : Bool → Bool → Bool → Bool → Tree → Option (Bool × Bool × Bool × Bool)) (k : Bool → Bool → Bool → Bool → Option R) (w1 : Bool → Bool → Bool → Bool → Int → Bool → Bool → Bool → Bool → Option R) (v50 : Bool) (v51 : Bool) (v52 : Bool) (v53 : Bool) (v54 : Bool) (v55 : Bool) (v56 : Bool) (v57 : Bool) : Option R :=
  w1 v54 v55 v56 v57 (0 : Int) v50 v51 v52 v53
def f71_1.j2' {R : Type} (L N : Nat) (self71_1 : Bool → Bool → Bool → Bool → Tree → Option (Bool × Bool × Bool × Bool)) (k : Bool → Bool → Bool → Bool → Option R) (w1 : Bool → Bool → Bool → Bool → Int → Bool → Bool → Bool → Bool → Option R) (v39 : Bool) (v40 : Bool) (v41 : Bool) (v42 : Bool) (v43 : Int) (v44 : Int) (v45 : LT) (v46 : Bool) (v47 : Bool) (v48 : Bool) (v49 : Bool) : Option R :=
  bif (v43 == (4 : Int)) then
    bif (decide (0 ≤ v44) && decide (v44 < ((4 : Nat) : Int))) then
      bif (Nat.blt (0 + v44.toNat) 4) then
        f71_1.j1' L N self71_1 k w1 v39 v40 v41 v42 (bif Nat.beq (0 + v44.toNat) 0 then false else v46) (bif Nat.beq (0 + v44.toNat) 1 then false else v47) (bif Nat.beq (0 + v44.toNat) 2 then false else v48) (bif Nat.beq (0 + v44.toNat) 3 then false else v49)
      else none
    else none
  else f71_1.j1' L N self71_1 k w1 v39 v40 v41 v42 v46 v47 v48 v49
def f71_1.j0' {R : Type} (L N : Nat) (self71_1 : Bool → Bool → Bool → Bool → Tree → Option (Bool × Bool × Bool × Bool)) (k : Bool → Bool → Bool → Bool → Option R) (w1 : Bool → Bool → Bool → Bool → Int → Bool → Bool → Bool → Bool → Option R) (v26 : Bool) (v27 : Bool) (v28 : Bool) (v29 : Bool) (v30 : Bool) (v31 : Int) (v32 : Int) (v33 : LT) (v34 : Bool) (v35 : Bool) (v36 : Bool) (v37 : Bool) : Option R :=
  bif v26 then
    (f70 L N v32).bind fun y38 =>
    bif (decide (0 ≤ y38) && decide (y38 < ((4 : Nat) : Int))) then
      bif (Nat.blt (0 + y38.toNat) 4) then
        f71_1.j2' L N self71_1 k w1 v27 v28 v29 v30 v31 v32 v33 (bif Nat.beq (0 + y38.toNat) 0 then true else v34) (bif Nat.beq (0 + y38.toNat) 1 then true else v35) (bif Nat.beq (0 + y38.toNat) 2 then true else v36) (bif Nat.beq (0 + y38.toNat) 3 then true else v37)
      else none
    else none
  else f71_1.j2' L N self71_1 k w1 v27 v28 v29 v30 v31 v32 v33 v34 v35 v36 v37
def f71_1.p0_e0' {R : Type} (L N : Nat) (self71_1 : Bool → Bool → Bool → Bool → Tree → Option (Bool × Bool × Bool × Bool)) (k : Bool → Bool → Bool → Bool → Option R) (w1 : Bool → Bool → Bool → Bool → Int → Bool → Bool → Bool → Bool → Option R) (z14 : Bool) (z15 : Bool) (z16 : Bool) (z17 : Bool) (z18 : Int) (z19 : Int) (z20 : LT) (z21 : Bool) (z22 : Bool) (z23 : Bool) (z24 : Bool) : Option R :=
  bif (z18 == (1 : Int)) then
    f71_1.j0' L N self71_1 k w1 (z19 != (0 : Int)) z14 z15 z16 z17 z18 z19 z20 z21 z22 z23 z24
  else f71_1.j0' L N self71_1 k w1 false z14 z15 z16 z17 z18 z19 z20 z21 z22 z23 z24
def f71_1.p0_e0 {R : Type} (L N : Nat) (self71_1 : Bool → Bool → Bool → Bool → Tree → Option (Bool × Bool × Bool × Bool)) (k : Bool → Bool → Bool → Bool → Option R) (z14 : Bool) (z15 : Bool) (z16 : Bool) (z17 : Bool) (z18 : Int) (z19 : Int) (z20 : LT) (z21 : Bool) (z22 : Bool) (z23 : Bool) (z24 : Bool) : Option R :=
  f71_1.p0_e0' L N self71_1 k (fun s58 s59 s60 s61 s62 s63 s64 s65 s66 => f71_1.l1 L N self71_1 (fun z67 z68 z69 z70 => f71_1.p1_e2 L N self71_1 k z67 z68 z69 z70) L s58 s59 s60 s61 s62 s63 s64 s65 s66) z14 z15 z16 z17 z18 z19 z20 z21 z22 z23 z24
def f71_1.b' {R : Type} (L N : Nat) (self71_1 : Bool → Bool → Bool → Bool → Tree → Option (Bool × Bool × Bool × Bool)) (k : Bool → Bool → Bool → Bool → Option R) (w0 : LT → Int → Int → Bool → Bool → Bool → Bool → Int → Int → LT → Bool → Bool → Bool → Bool → Option R) (c0 : Bool) (c1 : Bool) (c2 : Bool) (c3 : Bool) (x0 : Tree) : Option R :=
  w0 x0.parts (x0.parts.length : Int) (0 : Int) c0 c1 c2 c3 x0.op x0.n x0.parts false false false false
def f71_1.b {R : Type} (L N : Nat) (self71_1 : Bool → Bool → Bool → Bool → Tree → Option (Bool × Bool × Bool × Bool)) (k : Bool → Bool → Bool → Bool → Option R) (c0 : Bool) (c1 : Bool) (c2 : Bool) (c3 : Bool) (x0 : Tree) : Option R :=
  f71_1.b' L N self71_1 k (fun s0 s1 s2 s3 s4 s5 s6 s7 s8 s9 s10 s11 s12 s13 => f71_1.l0 L N self71_1 (fun z14 z15 z16 z17 z18 z19 z20 z21 z22 z23 z24 => f71_1.p0_e0 L N self71_1 k z14 z15 z16 z17 z18 z19 z20 z21 z22 z23 z24) L s0 s1 s2 s3 s4 s5 s6 s7 s8 s9 s10 s11 s12 s13) c0 c1 c2 c3 x0
def f71_1 (L N : Nat) : Nat → Bool → Bool → Bool → Bool → Tree → Option (Bool × Bool × Bool × Bool)
  | 0, _, _, _, _, _ => none
  | n + 1, c0, c1, c2, c3, x0 => f71_1.b L N (f71_1 L N n) (fun a0 a1 a2 a3 => some (a0, a1, a2, a3)) c0 c1 c2 c3 x0
def f71_1.ent (L N m : Nat) (args : List AV) (vw : View) (_ : Nat) : Option Ans := match mutD [.bool, .bool, .bool, .bool] [(.sh (.dat (.st 1))), (.mut 0)] vw args with
  | some (o, d0, d, u) => some ⟨Bool × Bool × Bool × Bool, f71_1 L N m d0.1 d0.2.1 d0.2.2.1 d0.2.2.2.1 d.1, fun y => ((.tup []), u ++ [(o, some (.box [(.tv .bool y.1), (.tv .bool y.2.1), (.tv .bool y.2.2.1), (.tv .bool y.2.2.2)]))], [])⟩
  | none => none
def Φ71_1s (L N m : Nat) : Tells := (addO (Φ68_1 L N) 71 (f71_1.ent L N m))
noncomputable def E71_1 (L N m : Nat) : Env := { P := Tryd.prog, ty := tyOf, Φ := Φ71_1s L N m, inl := inlT, live := lives, liveX := livesX, L := L, dp := none, prom := promT, heal := healT, ren := renT }
noncomputable def f71_1.c0 : Code := loopAt 0 (codeOf Tryd.f71)
def f71_1.X0_e0 {R : Type} (κ : KX R) := fun z14 z15 z16 z17 z18 z19 z20 z21 z22 z23 z24 => κ (.exit 0) (f71_1.T0_e0 z14 z15 z16 z17 z18 z19 z20 z21 z22 z23 z24) (f71_1.H0_e0 z14 z15 z16 z17 z18 z19 z20 z21 z22 z23 z24)
def f71_1.R0 {R : Type} (rec : KT R) := fun s0 s1 s2 s3 s4 s5 s6 s7 s8 s9 s10 s11 s12 s13 => rec (f71_1.T0 s0 s1 s2 s3 s4 s5 s6 s7 s8 s9 s10 s11 s12 s13) (f71_1.H0 s0 s1 s2 s3 s4 s5 s6 s7 s8 s9 s10 s11 s12 s13)
theorem f71_1.s0_eq {R : Type} (L N m : Nat) (κ : KX R) (rec : KT R) (s0 : LT) (s1 : Int) (s2 : Int) (s3 : Bool) (s4 : Bool) (s5 : Bool) (s6 : Bool) (s7 : Int) (s8 : Int) (s9 : LT) (s10 : Bool) (s11 : Bool) (s12 : Bool) (s13 : Bool) :
    evRd (E71_1 L N m) (evCallI (E71_1 L N m) 1 2000) 1000 71 56 0 f71_1.c0 κ rec (f71_1.T0 s0 s1 s2 s3 s4 s5 s6 s7 s8 s9 s10 s11 s12 s13) (f71_1.H0 s0 s1 s2 s3 s4 s5 s6 s7 s8 s9 s10 s11 s12 s13)
    = f71_1.s0 L N (f71_1 L N m) (f71_1.X0_e0 κ) (f71_1.R0 rec) s0 s1 s2 s3 s4 s5 s6 s7 s8 s9 s10 s11 s12 s13 := by kernel_rfl
theorem f71_1.l0_eq {R : Type} (L N m : Nat) (κ : KX R) : ∀ (n : Nat) (s0 : LT) (s1 : Int) (s2 : Int) (s3 : Bool) (s4 : Bool) (s5 : Bool) (s6 : Bool) (s7 : Int) (s8 : Int) (s9 : LT) (s10 : Bool) (s11 : Bool) (s12 : Bool) (s13 : Bool),
    evLp (E71_1 L N m) (evCallI (E71_1 L N m) 1 2000) 1000 71 56 0 f71_1.c0 κ n (f71_1.T0 s0 s1 s2 s3 s4 s5 s6 s7 s8 s9 s10 s11 s12 s13) (f71_1.H0 s0 s1 s2 s3 s4 s5 s6 s7 s8 s9 s10 s11 s12 s13)
    = f71_1.l0 L N (f71_1 L N m) (f71_1.X0_e0 κ) n s0 s1 s2 s3 s4 s5 s6 s7 s8 s9 s10 s11 s12 s13 := by
  intro n
  induction n with
  | zero => intros; rfl
  | succ n ih =>
    intro s0 s1 s2 s3 s4 s5 s6 s7 s8 s9 s10 s11 s12 s13
    rw [evLp_succ, f71_1.s0_eq]
    delta f71_1.R0
    simp only [ih]
    rfl
noncomputable def f71_1.c1 : Code := loopAt 2 (codeOf Tryd.f71)
def f71_1.X1_e2 {R : Type} (κ : KX R) := fun z67 z68 z69 z70 => κ (.exit 2) (f71_1.T1_e2 z67 z68 z69 z70) (f71_1.H1_e2 z67 z68 z69 z70)
def f71_1.R1 {R : Type} (rec : KT R) := fun s58 s59 s60 s61 s62 s63 s64 s65 s66 => rec (f71_1.T1 s58 s59 s60 s61 s62 s63 s64 s65 s66) (f71_1.H1 s58 s59 s60 s61 s62 s63 s64 s65 s66)
theorem f71_1.s1_eq {R : Type} (L N m : Nat) (κ : KX R) (rec : KT R) (s58 : Bool) (s59 : Bool) (s60 : Bool) (s61 : Bool) (s62 : Int) (s63 : Bool) (s64 : Bool) (s65 : Bool) (s66 : Bool) :
    evRd (E71_1 L N m) (evCallI (E71_1 L N m) 1 2000) 1000 71 56 2 f71_1.c1 κ rec (f71_1.T1 s58 s59 s60 s61 s62 s63 s64 s65 s66) (f71_1.H1 s58 s59 s60 s61 s62 s63 s64 s65 s66)
    = f71_1.s1 L N (f71_1 L N m) (f71_1.X1_e2 κ) (f71_1.R1 rec) s58 s59 s60 s61 s62 s63 s64 s65 s66 := by kernel_rfl
theorem f71_1.l1_eq {R : Type} (L N m : Nat) (κ : KX R) : ∀ (n : Nat) (s58 : Bool) (s59 : Bool) (s60 : Bool) (s61 : Bool) (s62 : Int) (s63 : Bool) (s64 : Bool) (s65 : Bool) (s66 : Bool),
    evLp (E71_1 L N m) (evCallI (E71_1 L N m) 1 2000) 1000 71 56 2 f71_1.c1 κ n (f71_1.T1 s58 s59 s60 s61 s62 s63 s64 s65 s66) (f71_1.H1 s58 s59 s60 s61 s62 s63 s64 s65 s66)
    = f71_1.l1 L N (f71_1 L N m) (f71_1.X1_e2 κ) n s58 s59 s60 s61 s62 s63 s64 s65 s66 := by
  intro n
  induction n with
  | zero => intros; rfl
  | succ n ih =>
    intro s58 s59 s60 s61 s62 s63 s64 s65 s66
    rw [evLp_succ, f71_1.s1_eq]
    delta f71_1.R1
    simp only [ih]
    rfl
theorem f71_1.p1_e2_eq {R : Type} (L N m : Nat) (κ : AV → Dens [.bool, .bool, .bool, .bool] → Option R) (z67 : Bool) (z68 : Bool) (z69 : Bool) (z70 : Bool) :
    (contAt (E71_1 L N m) (evCallI (E71_1 L N m) 1 2000) 1000 71 56 2 (codeOf Tryd.f71) (finK (E71_1 L N m) 1000 Tryd.f71 (finM (.many []) [.bool, .bool, .bool, .bool] κ))) (.exit 2) (f71_1.T1_e2 z67 z68 z69 z70) (f71_1.H1_e2 z67 z68 z69 z70)
    = f71_1.p1_e2 L N (f71_1 L N m) (fun a0 a1 a2 a3 => κ (.tup []) (a0, a1, a2, a3, ())) z67 z68 z69 z70 := by kernel_rfl
theorem f71_1.p0_e0_eq {R : Type} (L N m : Nat) (κ : AV → Dens [.bool, .bool, .bool, .bool] → Option R) (z14 : Bool) (z15 : Bool) (z16 : Bool) (z17 : Bool) (z18 : Int) (z19 : Int) (z20 : LT) (z21 : Bool) (z22 : Bool) (z23 : Bool) (z24 : Bool) :
    (contAt (E71_1 L N m) (evCallI (E71_1 L N m) 1 2000) 1000 71 56 0 (codeOf Tryd.f71) (finK (E71_1 L N m) 1000 Tryd.f71 (finM (.many []) [.bool, .bool, .bool, .bool] κ))) (.exit 0) (f71_1.T0_e0 z14 z15 z16 z17 z18 z19 z20 z21 z22 z23 z24) (f71_1.H0_e0 z14 z15 z16 z17 z18 z19 z20 z21 z22 z23 z24)
    = f71_1.p0_e0 L N (f71_1 L N m) (fun a0 a1 a2 a3 => κ (.tup []) (a0, a1, a2, a3, ())) z14 z15 z16 z17 z18 z19 z20 z21 z22 z23 z24 := by
  refine Eq.trans (b := f71_1.p0_e0' L N (f71_1 L N m) (fun a0 a1 a2 a3 => κ (.tup []) (a0, a1, a2, a3, ())) (fun s58 s59 s60 s61 s62 s63 s64 s65 s66 => evLp (E71_1 L N m) (evCallI (E71_1 L N m) 1 2000) 1000 71 56 2 f71_1.c1 (contAt (E71_1 L N m) (evCallI (E71_1 L N m) 1 2000) 1000 71 56 2 (codeOf Tryd.f71) (finK (E71_1 L N m) 1000 Tryd.f71 (finM (.many []) [.bool, .bool, .bool, .bool] κ))) L (f71_1.T1 s58 s59 s60 s61 s62 s63 s64 s65 s66) (f71_1.H1 s58 s59 s60 s61 s62 s63 s64 s65 s66)) z14 z15 z16 z17 z18 z19 z20 z21 z22 z23 z24) (by kernel_rfl) ?_
  unfold f71_1.p0_e0
  simp only [f71_1.l1_eq]
  delta f71_1.X1_e2
  simp only [f71_1.p1_e2_eq]
theorem f71_1.b_eq {R : Type} (L N m : Nat) (κ : AV → Dens [.bool, .bool, .bool, .bool] → Option R) (c0 : Bool) (c1 : Bool) (c2 : Bool) (c3 : Bool) (x0 : Tree) :
    evBody (E71_1 L N m) (evCallI (E71_1 L N m) 1 2000) 1000 71 Tryd.f71 [(.tv (.st 1) x0), (.ptr 0 0)] [.ptr 0 0] [(0, (.box [(.tv .bool c0), (.tv .bool c1), (.tv .bool c2), (.tv .bool c3)]))] (finM (.many []) [.bool, .bool, .bool, .bool] κ)
    = f71_1.b L N (f71_1 L N m) (fun a0 a1 a2 a3 => κ (.tup []) (a0, a1, a2, a3, ())) c0 c1 c2 c3 x0 := by
  refine Eq.trans (b := f71_1.b' L N (f71_1 L N m) (fun a0 a1 a2 a3 => κ (.tup []) (a0, a1, a2, a3, ())) (fun s0 s1 s2 s3 s4 s5 s6 s7 s8 s9 s10 s11 s12 s13 => evLp (E71_1 L N m) (evCallI (E71_1 L N m) 1 2000) 1000 71 56 0 f71_1.c0 (contAt (E71_1 L N m) (evCallI (E71_1 L N m) 1 2000) 1000 71 56 0 (codeOf Tryd.f71) (finK (E71_1 L N m) 1000 Tryd.f71 (finM (.many []) [.bool, .bool, .bool, .bool] κ))) L (f71_1.T0 s0 s1 s2 s3 s4 s5 s6 s7 s8 s9 s10 s11 s12 s13) (f71_1.H0 s0 s1 s2 s3 s4 s5 s6 s7 s8 s9 s10 s11 s12 s13)) c0 c1 c2 c3 x0) (by kernel_rfl) ?_
  unfold f71_1.b
  simp only [f71_1.l0_eq]
  delta f71_1.X0_e0
  simp only [f71_1.p0_e0_eq]
theorem f71_1.ok (L N m : Nat) (hΦ : TellsOk Tryd.prog (Φ71_1s L N m)) : EntOkO Tryd.prog 71 (f71_1.ent L N (m + 1)) := by
  intro args vw site h a ha
  unfold f71_1.ent at ha
  split at ha
  · rename_i o d0 d u hd
    obtain rfl := Option.some.inj ha
    intro y hy hs
    obtain ⟨cs, ho, hd0, hr⟩ := mutD_some hd
    refine call_mut (y := y) (dep := 1000) (v' := (.tup [])) (d1 := (y.1, y.2.1, y.2.2.1, y.2.2.2, ())) (E := (E71_1 L N m)) (ts := [.bool, .bool, .bool, .bool]) (rs := (.many [])) (κ := (fun v d => (unR (.many []) v).bind fun x => some (d.1, d.2.1, d.2.2.1, d.2.2.2.1))) (sound_of hΦ) okP (callI_sound (sound_of hΦ) okP 1 2000) (f := Tryd.f71) rfl hs ho hd0 hr ?_ (fun _ _ h => by obtain ⟨x, h1, h2⟩ := unR_bind h; obtain rfl := Option.some.inj h2; exact ⟨h1, rfl⟩) site
    exact (f71_1.b_eq L N m (fun v d => (unR (.many []) v).bind fun x => some (d.1, d.2.1, d.2.2.1, d.2.2.2.1)) d0.1 d0.2.1 d0.2.2.1 d0.2.2.2.1 d.1).trans (Eq.trans (b := f71_1.b L N (f71_1 L N m) (fun a0 a1 a2 a3 => some (a0, a1, a2, a3)) d0.1 d0.2.1 d0.2.2.1 d0.2.2.2.1 d.1) (by kernel_rfl) hy)
  · cases ha
theorem Φ71_1s_ok (L N : Nat) : ∀ m, TellsOk Tryd.prog (Φ71_1s L N m) := by
  intro m
  induction m with
  | zero => exact (addO_ok (Φ68_1_ok L N) (fun args vw site h a ha => by unfold f71_1.ent at ha; split at ha <;> first | (cases ha; done) | (obtain rfl := Option.some.inj ha; intro y hy; cases hy)))
  | succ m ih => exact (addO_ok (Φ68_1_ok L N) (f71_1.ok L N m ih))
def Φ71_1 (L N : Nat) : Tells := (addO (Φ68_1 L N) 71 (f71_1.ent L N N))
theorem Φ71_1_ok (L N : Nat) : TellsOk Tryd.prog (Φ71_1 L N) := Φ71_1s_ok L N N
def f44.s0' {R : Type} (L N : Nat) (k0_e1 : Int → Int → LT → Option R) (rec0 : Int → Int → Int → Int → LT → LS → Option R) (s69 : Int) (s70 : Int) (s71 : Int) (s72 : Int) (s73 : LT) (s74 : LS) : Option R :=
  bif (decide (s70 < s69)) then
    bif (decide (0 ≤ s70) && decide (s70 < (s74.length : Int))) then
      (f58 L N ((listAt s74 (Ty.dflt (.st 3)) s70.toNat).act) (Tree.mk ((listAt s74 (Ty.dflt (.st 3)) s70.toNat).thn.op) ((listAt s74 (Ty.dflt (.st 3)) s70.toNat).thn.n) ((listAt s74 (Ty.dflt (.st 3)) s70.toNat).thn.parts))).bind fun y78 =>
      bif (decide (s73.length + ([y78] : LT).length ≤ lim)) then
        rec0 s69 (wi (s70 + (1 : Int))) s71 s72 (s73 ++ ([y78] : LT)) s74
      else none
    else none
  else k0_e1 s71 s72 s73
def f44.s0 {R : Type} (L N : Nat) (k0_e1 : Int → Int → LT → Option R) (rec0 : Int → Int → Int → Int → LT → LS → Option R) (s69 : Int) (s70 : Int) (s71 : Int) (s72 : Int) (s73 : LT) (s74 : LS) : Option R :=
  f44.s0' L N k0_e1 rec0 s69 s70 s71 s72 s73 s74
def f44.l0 {R : Type} (L N : Nat) (k0_e1 : Int → Int → LT → Option R) : Nat → Int → Int → Int → Int → LT → LS → Option R
  | 0, _, _, _, _, _, _ => none
  | n + 1, s69, s70, s71, s72, s73, s74 => f44.s0 L N k0_e1 (f44.l0 L N k0_e1 n) s69 s70 s71 s72 s73 s74
def f44.T0 (s69 : Int) (s70 : Int) (s71 : Int) (s72 : Int) (s73 : LT) (s74 : LS) : T := mkT 262 [(4, (.ptr 1004 0)), (14, (.row 1242)), (244, (.row 1244)), (245, (.tv i64 s69)), (246, (.tv i64 s70))]
def f44.H0 (s69 : Int) (s70 : Int) (s71 : Int) (s72 : Int) (s73 : LT) (s74 : LS) : H := [(1004, (.box [(.tv i64 s71), (.tv i64 s72), .nil])), (1242, (.row 29 (.st 1) s73)), (1244, (.row 66 (.st 3) s74))]
def f44.T0_e1 (z75 : Int) (z76 : Int) (z77 : LT) : T := mkT 262 [(4, (.ptr 1004 0)), (14, (.row 1242))]
def f44.H0_e1 (z75 : Int) (z76 : Int) (z77 : LT) : H := [(1004, (.box [(.tv i64 z75), (.tv i64 z76), .nil])), (1242, (.row 29 (.st 1) z77))]
def f44.p0_e1' {R : Type} (L N : Nat) (k : Tree → Bool → Option R) (z75 : Int) (z76 : Int) (z77 : LT) : Option R :=
  (f60 L N z77).bind fun y79 =>
  k (Tree.mk y79.op y79.n y79.parts) true
def f44.p0_e1 {R : Type} (L N : Nat) (k : Tree → Bool → Option R) (z75 : Int) (z76 : Int) (z77 : LT) : Option R :=
  f44.p0_e1' L N k z75 z76 z77
def f44.j0' {R : Type} (L N : Nat) (k : Tree → Bool → Option R) (v3 : Int) (v4 : Bool) (v5 : Int) (v6 : Int) (v7 : LT) (v8 : Int) (v9 : Int) : Option R :=
  bif v4 then
    bif (decide (0 ≤ (1 : Int)) && decide ((1 : Int) < (v7.length : Int))) then
      bif (decide (0 ≤ (0 : Int)) && decide ((0 : Int) < (((listAt v7 (Ty.dflt (.st 1)) (1 : Int).toNat).parts).length : Int))) then
        bif (decide (0 ≤ (1 : Int)) && decide ((1 : Int) < (v7.length : Int))) then
          bif (decide (0 ≤ (1 : Int)) && decide ((1 : Int) < (((listAt v7 (Ty.dflt (.st 1)) (1 : Int).toNat).parts).length : Int))) then
            bif (decide (0 ≤ (0 : Int)) && decide ((0 : Int) < (v7.length : Int))) then
              k (Tree.mk v3 (0 : Int) ([(Tree.mk v3 (0 : Int) ([(listAt v7 (Ty.dflt (.st 1)) (0 : Int).toNat), (Tree.mk ((listAt ((listAt v7 (Ty.dflt (.st 1)) (1 : Int).toNat).parts) (Ty.dflt (.st 1)) (0 : Int).toNat).op) ((listAt ((listAt v7 (Ty.dflt (.st 1)) (1 : Int).toNat).parts) (Ty.dflt (.st 1)) (0 : Int).toNat).n) ((listAt ((listAt v7 (Ty.dflt (.st 1)) (1 : Int).toNat).parts) (Ty.dflt (.st 1)) (0 : Int).toNat).parts))] : LT)), (Tree.mk ((listAt ((listAt v7 (Ty.dflt (.st 1)) (1 : Int).toNat).parts) (Ty.dflt (.st 1)) (1 : Int).toNat).op) ((listAt ((listAt v7 (Ty.dflt (.st 1)) (1 : Int).toNat).parts) (Ty.dflt (.st 1)) (1 : Int).toNat).n) ((listAt ((listAt v7 (Ty.dflt (.st 1)) (1 : Int).toNat).parts) (Ty.dflt (.st 1)) (1 : Int).toNat).parts))] : LT)) true
            else none
          else none
        else none
      else none
    else none
  else k (Tree.mk (0 : Int) (0 : Int) []) false
def f44.j1' {R : Type} (L N : Nat) (k : Tree → Bool → Option R) (v13 : Bool) (v14 : Int) (v15 : Int) (v16 : LT) (v17 : Int) (v18 : Int) : Option R :=
  bif v13 then
    bif (decide (0 ≤ (0 : Int)) && decide ((0 : Int) < (v16.length : Int))) then
      k (Tree.mk ((listAt v16 (Ty.dflt (.st 1)) (0 : Int).toNat).op) ((listAt v16 (Ty.dflt (.st 1)) (0 : Int).toNat).n) ((listAt v16 (Ty.dflt (.st 1)) (0 : Int).toNat).parts)) true
    else none
  else k (Tree.mk (0 : Int) (0 : Int) []) false
def f44.j2' {R : Type} (L N : Nat) (k : Tree → Bool → Option R) (v21 : Bool) (v22 : Int) (v23 : Int) (v24 : LT) (v25 : Int) (v26 : Int) : Option R :=
  bif v21 then
    bif (decide (0 ≤ (0 : Int)) && decide ((0 : Int) < (v24.length : Int))) then
      k (Tree.mk ((listAt v24 (Ty.dflt (.st 1)) (0 : Int).toNat).op) ((listAt v24 (Ty.dflt (.st 1)) (0 : Int).toNat).n) ((listAt v24 (Ty.dflt (.st 1)) (0 : Int).toNat).parts)) true
    else none
  else k (Tree.mk (0 : Int) (0 : Int) []) false
def f44.j3' {R : Type} (L N : Nat) (k : Tree → Bool → Option R) (v29 : Bool) (v30 : Int) (v31 : Int) (v32 : LT) (v33 : Int) (v34 : Int) : Option R :=
  bif v29 then
    bif (decide (0 ≤ (0 : Int)) && decide ((0 : Int) < (v32.length : Int))) then
      bif (decide (0 ≤ (0 : Int)) && decide ((0 : Int) < (v32.length : Int))) then
        bif (decide (0 ≤ (0 : Int)) && decide ((0 : Int) < (((listAt v32 (Ty.dflt (.st 1)) (0 : Int).toNat).parts).length : Int))) then
          (f69 L N v31 (listAt ((listAt v32 (Ty.dflt (.st 1)) (0 : Int).toNat).parts) (Ty.dflt (.st 1)) (0 : Int).toNat)).bind fun y35 =>
          (f69 L N ((listAt v32 (Ty.dflt (.st 1)) (0 : Int).toNat).n) y35).bind fun y36 =>
          k (Tree.mk y36.op y36.n y36.parts) true
        else none
      else none
    else none
  else k (Tree.mk (0 : Int) (0 : Int) []) false
def f44.j4' {R : Type} (L N : Nat) (k : Tree → Bool → Option R) (v39 : Bool) (v40 : Int) (v41 : Int) (v42 : LT) (v43 : Int) (v44 : Int) : Option R :=
  bif v39 then
    bif (decide (0 ≤ (0 : Int)) && decide ((0 : Int) < (v42.length : Int))) then
      bif (decide (0 ≤ (0 : Int)) && decide ((0 : Int) < (((listAt v42 (Ty.dflt (.st 1)) (0 : Int).toNat).parts).length : Int))) then
        (f69 L N v41 (listAt ((listAt v42 (Ty.dflt (.st 1)) (0 : Int).toNat).parts) (Ty.dflt (.st 1)) (0 : Int).toNat)).bind fun y45 =>
        bif (decide (0 ≤ (0 : Int)) && decide ((0 : Int) < (v42.length : Int))) then
          bif (decide (0 ≤ (1 : Int)) && decide ((1 : Int) < (((listAt v42 (Ty.dflt (.st 1)) (0 : Int).toNat).parts).length : Int))) then
            (f69 L N v41 (listAt ((listAt v42 (Ty.dflt (.st 1)) (0 : Int).toNat).parts) (Ty.dflt (.st 1)) (1 : Int).toNat)).bind fun y46 =>
            k (Tree.mk (2 : Int) (0 : Int) ([y45, y46] : LT)) true
          else none
        else none
      else none
    else none
  else k (Tree.mk (0 : Int) (0 : Int) []) false
def f44.j5' {R : Type} (L N : Nat) (k : Tree → Bool → Option R) (v50 : Bool) (v51 : Int) (v52 : Int) (v53 : LT) (v54 : Int) (v55 : Int) : Option R :=
  bif v50 then
    bif (decide (0 ≤ (0 : Int)) && decide ((0 : Int) < (v53.length : Int))) then
      bif (decide (0 ≤ (0 : Int)) && decide ((0 : Int) < (v53.length : Int))) then
        bif (decide (0 ≤ (0 : Int)) && decide ((0 : Int) < (((listAt v53 (Ty.dflt (.st 1)) (0 : Int).toNat).parts).length : Int))) then
          (f69 L N v52 (listAt ((listAt v53 (Ty.dflt (.st 1)) (0 : Int).toNat).parts) (Ty.dflt (.st 1)) (0 : Int).toNat)).bind fun y56 =>
          (f58 L N ((listAt v53 (Ty.dflt (.st 1)) (0 : Int).toNat).n) y56).bind fun y57 =>
          k (Tree.mk y57.op y57.n y57.parts) true
        else none
      else none
    else none
  else k (Tree.mk (0 : Int) (0 : Int) []) false
def f44.j6' {R : Type} (L N : Nat) (k : Tree → Bool → Option R) (v60 : Bool) (v61 : Int) (v62 : Int) (v63 : LT) (v64 : Int) (v65 : Int) : Option R :=
  bif v60 then
    bif (decide (0 ≤ (0 : Int)) && decide ((0 : Int) < (v63.length : Int))) then
      (f71_1 L N N false false false false (listAt v63 (Ty.dflt (.st 1)) (0 : Int).toNat)).bind fun y66 =>
      bif (decide (0 ≤ (0 : Int)) && decide ((0 : Int) < (v63.length : Int))) then
        bif (decide (0 ≤ v62) && decide (v62 < ((4 : Nat) : Int))) then
          bif (Nat.blt (0 + v62.toNat) 4) then
            k (Tree.mk ((listAt v63 (Ty.dflt (.st 1)) (0 : Int).toNat).op) ((listAt v63 (Ty.dflt (.st 1)) (0 : Int).toNat).n) ((listAt v63 (Ty.dflt (.st 1)) (0 : Int).toNat).parts)) (!(atB (0 + v62.toNat) [y66.1, y66.2.1, y66.2.2.1, y66.2.2.2]))
          else none
        else none
      else none
    else none
  else k (Tree.mk (0 : Int) (0 : Int) []) false
def f44.b' {R : Type} (L N : Nat) (k : Tree → Bool → Option R) (w0 : Int → Int → Int → Int → LT → LS → Option R) (x0 : Tree) (x1 : Int) : Option R :=
  bif (bif (x1 == (0 : Int)) then (x1 == (0 : Int)) else (x1 == (4 : Int))) then
    (f67_1 L N (bif (x1 == (4 : Int)) then ((3 : Int) : Int) else ((2 : Int) : Int)) (Tree.mk x0.op x0.n x0.parts)).bind fun y0 =>
    bif y0 then
      bif (decide (0 ≤ (1 : Int)) && decide ((1 : Int) < (x0.parts.length : Int))) then
        bif (decide (0 ≤ (0 : Int)) && decide ((0 : Int) < (x0.parts.length : Int))) then
          k (Tree.mk (bif (x1 == (4 : Int)) then ((3 : Int) : Int) else ((2 : Int) : Int)) (0 : Int) ([(listAt x0.parts (Ty.dflt (.st 1)) (1 : Int).toNat), (listAt x0.parts (Ty.dflt (.st 1)) (0 : Int).toNat)] : LT)) true
        else none
      else none
    else k (Tree.mk (0 : Int) (0 : Int) []) false
  else bif (bif (x1 == (1 : Int)) then (x1 == (1 : Int)) else (x1 == (5 : Int))) then
    (f67_1 L N (bif (x1 == (5 : Int)) then ((3 : Int) : Int) else ((2 : Int) : Int)) (Tree.mk x0.op x0.n x0.parts)).bind fun y1 =>
    bif y1 then
      (f68_1 L N (1 : Int) (bif (x1 == (5 : Int)) then ((3 : Int) : Int) else ((2 : Int) : Int)) (Tree.mk x0.op x0.n x0.parts)).bind fun y2 =>
      f44.j0' L N k (bif (x1 == (5 : Int)) then ((3 : Int) : Int) else ((2 : Int) : Int)) y2 x0.op x0.n x0.parts (0 : Int) (0 : Int)
    else f44.j0' L N k (bif (x1 == (5 : Int)) then ((3 : Int) : Int) else ((2 : Int) : Int)) false x0.op x0.n x0.parts (0 : Int) (0 : Int)
  else bif (x1 == (2 : Int)) then
    (f67_1 L N (2 : Int) (Tree.mk x0.op x0.n x0.parts)).bind fun y10 =>
    bif y10 then
      bif (decide (0 ≤ (0 : Int)) && decide ((0 : Int) < (x0.parts.length : Int))) then
        (f33 L N N (listAt x0.parts (Ty.dflt (.st 1)) (0 : Int).toNat)).bind fun y11 =>
        bif (decide (0 ≤ (1 : Int)) && decide ((1 : Int) < (x0.parts.length : Int))) then
          (f33 L N N (listAt x0.parts (Ty.dflt (.st 1)) (1 : Int).toNat)).bind fun y12 =>
          f44.j1' L N k (y11.toList == y12.toList) x0.op x0.n x0.parts (0 : Int) (0 : Int)
        else none
      else none
    else f44.j1' L N k false x0.op x0.n x0.parts (0 : Int) (0 : Int)
  else bif (bif (x1 == (3 : Int)) then (x1 == (3 : Int)) else (x1 == (6 : Int))) then
    (f67_1 L N (bif (x1 == (6 : Int)) then ((3 : Int) : Int) else ((2 : Int) : Int)) (Tree.mk x0.op x0.n x0.parts)).bind fun y19 =>
    bif y19 then
      (f68_1 L N (1 : Int) (0 : Int) (Tree.mk x0.op x0.n x0.parts)).bind fun y20 =>
      f44.j2' L N k y20 x0.op x0.n x0.parts (0 : Int) (0 : Int)
    else f44.j2' L N k false x0.op x0.n x0.parts (0 : Int) (0 : Int)
  else bif (x1 == (7 : Int)) then
    (f67_1 L N (4 : Int) (Tree.mk x0.op x0.n x0.parts)).bind fun y27 =>
    bif y27 then
      (f68_1 L N (0 : Int) (4 : Int) (Tree.mk x0.op x0.n x0.parts)).bind fun y28 =>
      f44.j3' L N k y28 x0.op x0.n x0.parts (0 : Int) (0 : Int)
    else f44.j3' L N k false x0.op x0.n x0.parts (0 : Int) (0 : Int)
  else bif (x1 == (8 : Int)) then
    (f67_1 L N (4 : Int) (Tree.mk x0.op x0.n x0.parts)).bind fun y37 =>
    bif y37 then
      (f68_1 L N (0 : Int) (2 : Int) (Tree.mk x0.op x0.n x0.parts)).bind fun y38 =>
      f44.j4' L N k y38 x0.op x0.n x0.parts (0 : Int) (0 : Int)
    else f44.j4' L N k false x0.op x0.n x0.parts (0 : Int) (0 : Int)
  else bif (x1 == (9 : Int)) then
    (f67_1 L N (4 : Int) (Tree.mk x0.op x0.n x0.parts)).bind fun y47 =>
    bif y47 then
      (f68_1 L N (0 : Int) (1 : Int) (Tree.mk x0.op x0.n x0.parts)).bind fun y48 =>
      bif y48 then
        bif (decide (0 ≤ (0 : Int)) && decide ((0 : Int) < (x0.parts.length : Int))) then
          bif ((listAt x0.parts (Ty.dflt (.st 1)) (0 : Int).toNat).n == (0 : Int)) then
            f44.j5' L N k true x0.op x0.n x0.parts (0 : Int) (0 : Int)
          else bif (decide (0 ≤ (0 : Int)) && decide ((0 : Int) < (x0.parts.length : Int))) then
            (f70 L N ((listAt x0.parts (Ty.dflt (.st 1)) (0 : Int).toNat).n)).bind fun y49 =>
            f44.j5' L N k (y49 != x0.n) x0.op x0.n x0.parts (0 : Int) (0 : Int)
          else none
        else none
      else f44.j5' L N k false x0.op x0.n x0.parts (0 : Int) (0 : Int)
    else f44.j5' L N k false x0.op x0.n x0.parts (0 : Int) (0 : Int)
  else bif (x1 == (10 : Int)) then
    (f67_1 L N (4 : Int) (Tree.mk x0.op x0.n x0.parts)).bind fun y58 =>
    bif y58 then
      bif (decide (0 ≤ (0 : Int)) && decide ((0 : Int) < (x0.parts.length : Int))) then
        (f36 L N N (listAt x0.parts (Ty.dflt (.st 1)) (0 : Int).toNat)).bind fun y59 =>
        f44.j6' L N k y59 x0.op x0.n x0.parts (0 : Int) (0 : Int)
      else none
    else f44.j6' L N k false x0.op x0.n x0.parts (0 : Int) (0 : Int)
  else bif (x1 == (11 : Int)) then
    (f36 L N N (Tree.mk x0.op x0.n x0.parts)).bind fun y67 =>
    bif y67 then
      (f57 L N N (Tree.mk x0.op x0.n x0.parts) []).bind fun y68 =>
      w0 (y68.length : Int) (0 : Int) (0 : Int) (0 : Int) ([] : LT) y68
    else k (Tree.mk (0 : Int) (0 : Int) []) false
  else k (Tree.mk (0 : Int) (0 : Int) []) false
def f44.b {R : Type} (L N : Nat) (k : Tree → Bool → Option R) (x0 : Tree) (x1 : Int) : Option R :=
  f44.b' L N k (fun s69 s70 s71 s72 s73 s74 => f44.l0 L N (fun z75 z76 z77 => f44.p0_e1 L N k z75 z76 z77) L s69 s70 s71 s72 s73 s74) x0 x1
def f44 (L N : Nat) (x0 : Tree) (x1 : Int) : Option (Tree × Bool) := f44.b L N (fun a0 a1 => some (a0, a1)) x0 x1
def f44.ent (L N : Nat) := entDa [(.st 1), i64] (.many [(.st 1), .bool]) fun d => f44 L N d.1 d.2.1
noncomputable def E44 (L N : Nat) : Env := { P := Tryd.prog, ty := tyOf, Φ := (Φ71_1 L N), inl := inlT, live := lives, liveX := livesX, L := L, dp := none, prom := promT, heal := healT, ren := renT, ifc := fun f => Nat.beq f 44 }
noncomputable def f44.c0 : Code := loopAt 1 (codeOf Tryd.f44)
def f44.X0_e1 {R : Type} (κ : KX R) := fun z75 z76 z77 => κ (.exit 1) (f44.T0_e1 z75 z76 z77) (f44.H0_e1 z75 z76 z77)
def f44.R0 {R : Type} (rec : KT R) := fun s69 s70 s71 s72 s73 s74 => rec (f44.T0 s69 s70 s71 s72 s73 s74) (f44.H0 s69 s70 s71 s72 s73 s74)
theorem f44.s0_eq {R : Type} (L N : Nat) (κ : KX R) (rec : KT R) (s69 : Int) (s70 : Int) (s71 : Int) (s72 : Int) (s73 : LT) (s74 : LS) :
    evRd (E44 L N) (evCallI (E44 L N) 1 2000) 1000 44 262 1 f44.c0 κ rec (f44.T0 s69 s70 s71 s72 s73 s74) (f44.H0 s69 s70 s71 s72 s73 s74)
    = f44.s0 L N (f44.X0_e1 κ) (f44.R0 rec) s69 s70 s71 s72 s73 s74 := by kernel_rfl
theorem f44.l0_eq {R : Type} (L N : Nat) (κ : KX R) : ∀ (n : Nat) (s69 : Int) (s70 : Int) (s71 : Int) (s72 : Int) (s73 : LT) (s74 : LS),
    evLp (E44 L N) (evCallI (E44 L N) 1 2000) 1000 44 262 1 f44.c0 κ n (f44.T0 s69 s70 s71 s72 s73 s74) (f44.H0 s69 s70 s71 s72 s73 s74)
    = f44.l0 L N (f44.X0_e1 κ) n s69 s70 s71 s72 s73 s74 := by
  intro n
  induction n with
  | zero => intros; rfl
  | succ n ih =>
    intro s69 s70 s71 s72 s73 s74
    rw [evLp_succ, f44.s0_eq]
    delta f44.R0
    simp only [ih]
    rfl
theorem f44.p0_e1_eq {R : Type} (L N : Nat) (κ : AV → Option R) (z75 : Int) (z76 : Int) (z77 : LT) :
    (contAt (E44 L N) (evCallI (E44 L N) 1 2000) 1000 44 262 1 (codeOf Tryd.f44) (finK (E44 L N) 1000 Tryd.f44 (finC (.many [(.st 1), .bool]) κ))) (.exit 1) (f44.T0_e1 z75 z76 z77) (f44.H0_e1 z75 z76 z77)
    = f44.p0_e1 L N (fun a0 a1 => κ (.tup [(.tv (.st 1) a0), (.tv .bool a1)])) z75 z76 z77 := by kernel_rfl
theorem f44.b_eq {R : Type} (L N : Nat) (κ : AV → Option R) (x0 : Tree) (x1 : Int) :
    evBody (E44 L N) (evCallI (E44 L N) 1 2000) 1000 44 Tryd.f44 [(.tv (.st 1) x0), (.tv i64 x1)] [] [] (finC (.many [(.st 1), .bool]) κ)
    = f44.b L N (fun a0 a1 => κ (.tup [(.tv (.st 1) a0), (.tv .bool a1)])) x0 x1 := by
  refine Eq.trans (b := f44.b' L N (fun a0 a1 => κ (.tup [(.tv (.st 1) a0), (.tv .bool a1)])) (fun s69 s70 s71 s72 s73 s74 => evLp (E44 L N) (evCallI (E44 L N) 1 2000) 1000 44 262 1 f44.c0 (contAt (E44 L N) (evCallI (E44 L N) 1 2000) 1000 44 262 1 (codeOf Tryd.f44) (finK (E44 L N) 1000 Tryd.f44 (finC (.many [(.st 1), .bool]) κ))) L (f44.T0 s69 s70 s71 s72 s73 s74) (f44.H0 s69 s70 s71 s72 s73 s74)) x0 x1) (by kernel_rfl) ?_
  unfold f44.b
  simp only [f44.l0_eq]
  delta f44.X0_e1
  simp only [f44.p0_e1_eq]
theorem f44.ok (L N : Nat) (hΦ : TellsOk Tryd.prog ((Φ71_1 L N))) : EntOk Tryd.prog 44 (f44.ent L N) := entDa_ok (E := (E44 L N)) (dep := 1000) (f := Tryd.f44) (sound_of hΦ) okP (callI_sound (sound_of hΦ) okP 1 2000) rfl fun d _ hy => (f44.b_eq L N (unR (.many [(.st 1), .bool])) d.1 d.2.1).trans (Eq.trans (b := f44.b L N (fun a0 a1 => some (a0, a1)) d.1 d.2.1) (by kernel_rfl) hy)
def Φ44 (L N : Nat) : Tells := (addT (Φ71_1 L N) 44 (f44.ent L N))
theorem Φ44_ok (L N : Nat) : TellsOk Tryd.prog (Φ44 L N) := addT_ok (Φ71_1_ok L N) (f44.ok L N (Φ71_1_ok L N))
def f45.b' {R : Type} (L N : Nat) (k : LT → Option R) (x0 : LT) : Option R :=
  bif (decide (0 < x0.length)) then
    bif (decide (([] : LT).length + x0.length ≤ lim)) then
      k (([] : LT) ++ x0)
    else none
  else none
def f45.b {R : Type} (L N : Nat) (k : LT → Option R) (x0 : LT) : Option R :=
  f45.b' L N k x0
def f45 (L N : Nat) (x0 : LT) : Option (LT) := f45.b L N some x0
def f45.ent (L N : Nat) (args : List AV) (vw : View) (site : Nat) : Ans := match coeD [(.sl (.st 1))] vw args with
  | some (d, u) => ⟨LT, f45 L N d.1, fun y => (.row site, u ++ [(site, some (.row 29 (.st 1) y))], [])⟩
  | none => Ans.no
noncomputable def E45 (L N : Nat) : Env := { P := Tryd.prog, ty := tyOf, Φ := (Φ44 L N), inl := inlT, live := lives, liveX := livesX, L := L, dp := none, prom := promT, heal := healT, ren := renT }
theorem f45.b_eq {R : Type} (L N : Nat) (κ : List Tree → Option R) (x0 : LT) :
    evBody (E45 L N) (evCallI (E45 L N) 1 2000) 1000 45 Tryd.f45 [(.tv (.sl (.st 1)) x0)] [] [] (finRow 29 (.st 1) κ)
    = f45.b L N κ x0 := by kernel_rfl
theorem f45.ok (L N : Nat) (hΦ : TellsOk Tryd.prog ((Φ44 L N))) : EntOk Tryd.prog 45 (f45.ent L N) := by
  intro args vw site h
  unfold f45.ent
  split
  · rename_i d u ha
    intro y hy hs
    refine call_row (dep := 1000) (E := (E45 L N)) (sound_of hΦ) okP (callI_sound (sound_of hΦ) okP 1 2000) (f := Tryd.f45) rfl hs ha ?_ site
    exact (f45.b_eq L N some d.1).trans hy
  · intro y hy
    cases hy
def Φ45 (L N : Nat) : Tells := (addT (Φ44 L N) 45 (f45.ent L N))
theorem Φ45_ok (L N : Nat) : TellsOk Tryd.prog (Φ45 L N) := addT_ok (Φ44_ok L N) (f45.ok L N (Φ44_ok L N))
def f27.j0' {R : Type} (L N : Nat) (self27 : Tree → Int → LI → Option (Tree × Bool)) (k : Tree → Bool → Option R) (v10 : Int) (v11 : LI) (v12 : Int) (v13 : Int) (v14 : Int) (v15 : LT) (v16 : Int) (v17 : Int) : Option R :=
  bif (decide (0 ≤ v12) && decide (v12 < (v15.length : Int))) then
    bif (slB (1 : Int) (v11.length : Int) v11.length) then
      (self27 (listAt v15 (Ty.dflt (.st 1)) v12.toNat) v10 (slX v11 (1 : Int) (v11.length : Int))).bind fun y18 =>
      (f45 L N v15).bind fun y19 =>
      bif (decide (0 ≤ v12) && decide (v12 < (y19.length : Int))) then
        k (Tree.mk v13 v14 (y19.set v12.toNat (Tree.mk y18.1.op y18.1.n y18.1.parts))) y18.2
      else none
    else none
  else none
def f27.b' {R : Type} (L N : Nat) (self27 : Tree → Int → LI → Option (Tree × Bool)) (k : Tree → Bool → Option R) (x0 : Tree) (x1 : Int) (x2 : LI) : Option R :=
  bif ((x2.length : Int) == (0 : Int)) then
    (f44 L N (Tree.mk x0.op x0.n x0.parts) x1).bind fun y0 =>
    k (Tree.mk y0.1.op y0.1.n y0.1.parts) y0.2
  else bif (decide (0 ≤ (0 : Int)) && decide ((0 : Int) < (x2.length : Int))) then
    bif (decide ((listAt x2 (0 : Int) (0 : Int).toNat) < (0 : Int))) then
      k (Tree.mk (0 : Int) (0 : Int) []) false
    else bif (decide ((listAt x2 (0 : Int) (0 : Int).toNat) ≥ (x0.parts.length : Int))) then
      k (Tree.mk (0 : Int) (0 : Int) []) false
    else f27.j0' L N self27 k x1 x2 (listAt x2 (0 : Int) (0 : Int).toNat) x0.op x0.n x0.parts (0 : Int) (0 : Int)
  else none
def f27.b {R : Type} (L N : Nat) (self27 : Tree → Int → LI → Option (Tree × Bool)) (k : Tree → Bool → Option R) (x0 : Tree) (x1 : Int) (x2 : LI) : Option R :=
  f27.b' L N self27 k x0 x1 x2
def f27 (L N : Nat) : Nat → Tree → Int → LI → Option (Tree × Bool)
  | 0, _, _, _ => none
  | n + 1, x0, x1, x2 => f27.b L N (f27 L N n) (fun a0 a1 => some (a0, a1)) x0 x1 x2
def f27.ent (L N m : Nat) := entDa [(.st 1), i64, (.sl i64)] (.many [(.st 1), .bool]) fun d => f27 L N m d.1 d.2.1 d.2.2.1
def Φ27s (L N m : Nat) : Tells := (addT (Φ45 L N) 27 (f27.ent L N m))
noncomputable def E27 (L N m : Nat) : Env := { P := Tryd.prog, ty := tyOf, Φ := Φ27s L N m, inl := inlT, live := lives, liveX := livesX, L := L, dp := none, prom := promT, heal := healT, ren := renT }
theorem f27.b_eq {R : Type} (L N m : Nat) (κ : AV → Option R) (x0 : Tree) (x1 : Int) (x2 : LI) :
    evBody (E27 L N m) (evCallI (E27 L N m) 1 2000) 1000 27 Tryd.f27 [(.tv (.st 1) x0), (.tv i64 x1), (.tv (.sl i64) x2)] [] [] (finC (.many [(.st 1), .bool]) κ)
    = f27.b L N (f27 L N m) (fun a0 a1 => κ (.tup [(.tv (.st 1) a0), (.tv .bool a1)])) x0 x1 x2 := by kernel_rfl
theorem f27.ok (L N m : Nat) (hΦ : TellsOk Tryd.prog (Φ27s L N m)) : EntOk Tryd.prog 27 (f27.ent L N (m + 1)) := entDa_ok (E := (E27 L N m)) (dep := 1000) (f := Tryd.f27) (sound_of hΦ) okP (callI_sound (sound_of hΦ) okP 1 2000) rfl fun d _ hy => (f27.b_eq L N m (unR (.many [(.st 1), .bool])) d.1 d.2.1 d.2.2.1).trans (Eq.trans (b := f27.b L N (f27 L N m) (fun a0 a1 => some (a0, a1)) d.1 d.2.1 d.2.2.1) (by kernel_rfl) hy)
theorem Φ27s_ok (L N : Nat) : ∀ m, TellsOk Tryd.prog (Φ27s L N m) := by
  intro m
  induction m with
  | zero => exact (addT_ok (Φ45_ok L N) (entDa_no fun _ => rfl))
  | succ m ih => exact (addT_ok (Φ45_ok L N) (f27.ok L N m ih))
def Φ27 (L N : Nat) : Tells := (addT (Φ45 L N) 27 (f27.ent L N N))
theorem Φ27_ok (L N : Nat) : TellsOk Tryd.prog (Φ27 L N) := Φ27s_ok L N N
def f28.s0' {R : Type} (L N : Nat) (self28 : Tree → Option (Int × Int × LT)) (k0_e0 : Int → Int → Int → Int → LT → LT → Option R) (rec0 : LT → Int → Int → Int → Int → Int → Int → LT → LT → Option R) (s0 : LT) (s1 : Int) (s2 : Int) (s3 : Int) (s4 : Int) (s5 : Int) (s6 : Int) (s7 : LT) (s8 : LT) : Option R :=
  bif (decide (s2 < s1)) then
    bif (decide (0 ≤ s2) && decide (s2 < (s0.length : Int))) then
      (self28 (Tree.mk ((listAt s0 (Ty.dflt (.st 1)) s2.toNat).op) ((listAt s0 (Ty.dflt (.st 1)) s2.toNat).n) ((listAt s0 (Ty.dflt (.st 1)) s2.toNat).parts))).bind fun y15 =>
      bif (decide (s8.length + ([(Tree.mk y15.1 y15.2.1 y15.2.2)] : LT).length ≤ lim)) then
        rec0 s0 s1 (wi (s2 + (1 : Int))) s3 s4 s5 s6 s7 (s8 ++ ([(Tree.mk y15.1 y15.2.1 y15.2.2)] : LT))
      else none
    else none
  else k0_e0 s3 s4 s5 s6 s7 s8
def f28.s0 {R : Type} (L N : Nat) (self28 : Tree → Option (Int × Int × LT)) (k0_e0 : Int → Int → Int → Int → LT → LT → Option R) (rec0 : LT → Int → Int → Int → Int → Int → Int → LT → LT → Option R) (s0 : LT) (s1 : Int) (s2 : Int) (s3 : Int) (s4 : Int) (s5 : Int) (s6 : Int) (s7 : LT) (s8 : LT) : Option R :=
  f28.s0' L N self28 k0_e0 rec0 s0 s1 s2 s3 s4 s5 s6 s7 s8
def f28.l0 {R : Type} (L N : Nat) (self28 : Tree → Option (Int × Int × LT)) (k0_e0 : Int → Int → Int → Int → LT → LT → Option R) : Nat → LT → Int → Int → Int → Int → Int → Int → LT → LT → Option R
  | 0, _, _, _, _, _, _, _, _, _ => none
  | n + 1, s0, s1, s2, s3, s4, s5, s6, s7, s8 => f28.s0 L N self28 k0_e0 (f28.l0 L N self28 k0_e0 n) s0 s1 s2 s3 s4 s5 s6 s7 s8
def f28.T0 (s0 : LT) (s1 : Int) (s2 : Int) (s3 : Int) (s4 : Int) (s5 : Int) (s6 : Int) (s7 : LT) (s8 : LT) : T := mkT 27 [(2, (.ptr 1002 0)), (3, (.ptr 1003 0)), (12, (.tv (.sl (.st 1)) s0)), (13, (.tv i64 s1)), (14, (.tv i64 s2))]
def f28.H0 (s0 : LT) (s1 : Int) (s2 : Int) (s3 : Int) (s4 : Int) (s5 : Int) (s6 : Int) (s7 : LT) (s8 : LT) : H := [(1002, (.box [(.tv i64 s3), (.tv i64 s4), (.row 1900)])), (1003, (.box [(.tv i64 s5), (.tv i64 s6), (.row 1901)])), (1900, (.deep 0 (.st 1) s7 none)), (1901, (.deep 0 (.st 1) s8 none))]
def f28.T0_e0 (z9 : Int) (z10 : Int) (z11 : Int) (z12 : Int) (z13 : LT) (z14 : LT) : T := mkT 27 [(2, (.ptr 1002 0)), (3, (.ptr 1003 0))]
def f28.H0_e0 (z9 : Int) (z10 : Int) (z11 : Int) (z12 : Int) (z13 : LT) (z14 : LT) : H := [(1002, (.box [(.tv i64 z9), (.tv i64 z10), (.row 1900)])), (1003, (.box [(.tv i64 z11), (.tv i64 z12), (.row 1901)])), (1900, (.deep 0 (.st 1) z13 none)), (1901, (.deep 0 (.st 1) z14 none))]
def f28.p0_e0' {R : Type} (L N : Nat) (self28 : Tree → Option (Int × Int × LT)) (k : Int → Int → LT → Option R) (z9 : Int) (z10 : Int) (z11 : Int) (z12 : Int) (z13 : LT) (z14 : LT) : Option R :=
  k z11 z12 z14
def f28.p0_e0 {R : Type} (L N : Nat) (self28 : Tree → Option (Int × Int × LT)) (k : Int → Int → LT → Option R) (z9 : Int) (z10 : Int) (z11 : Int) (z12 : Int) (z13 : LT) (z14 : LT) : Option R :=
  f28.p0_e0' L N self28 k z9 z10 z11 z12 z13 z14
def f28.b' {R : Type} (L N : Nat) (self28 : Tree → Option (Int × Int × LT)) (k : Int → Int → LT → Option R) (w0 : LT → Int → Int → Int → Int → Int → Int → LT → LT → Option R) (x0 : Tree) : Option R :=
  w0 x0.parts (x0.parts.length : Int) (0 : Int) (0 : Int) (0 : Int) x0.op x0.n ([] : LT) ([] : LT)
def f28.b {R : Type} (L N : Nat) (self28 : Tree → Option (Int × Int × LT)) (k : Int → Int → LT → Option R) (x0 : Tree) : Option R :=
  f28.b' L N self28 k (fun s0 s1 s2 s3 s4 s5 s6 s7 s8 => f28.l0 L N self28 (fun z9 z10 z11 z12 z13 z14 => f28.p0_e0 L N self28 k z9 z10 z11 z12 z13 z14) L s0 s1 s2 s3 s4 s5 s6 s7 s8) x0
def f28 (L N : Nat) : Nat → Tree → Option (Int × Int × LT)
  | 0, _ => none
  | n + 1, x0 => f28.b L N (f28 L N n) (fun a0 a1 a2 => some (a0, a1, a2)) x0
def f28.ent (L N m : Nat) (args : List AV) (vw : View) (site : Nat) : Ans := match roD [(.st 1)] vw args with
  | some d => ⟨Int × Int × LT, f28 L N m d.1, fun y => (RN.av site (.agg [i64, i64]) (y.1, y.2.1, ()), [(site, some (mkO (some 0) 29 (.st 1) y.2.2))], [])⟩
  | none => Ans.no
def Φ28s (L N m : Nat) : Tells := (addT (Φ27 L N) 28 (f28.ent L N m))
noncomputable def E28 (L N m : Nat) : Env := { P := Tryd.prog, ty := tyOf, Φ := Φ28s L N m, inl := inlT, live := lives, liveX := livesX, L := L, dp := (some 0), prom := promT, heal := healT, ren := renT }
noncomputable def f28.c0 : Code := loopAt 0 (codeOf Tryd.f28)
def f28.X0_e0 {R : Type} (κ : KX R) := fun z9 z10 z11 z12 z13 z14 => κ (.exit 0) (f28.T0_e0 z9 z10 z11 z12 z13 z14) (f28.H0_e0 z9 z10 z11 z12 z13 z14)
def f28.R0 {R : Type} (rec : KT R) := fun s0 s1 s2 s3 s4 s5 s6 s7 s8 => rec (f28.T0 s0 s1 s2 s3 s4 s5 s6 s7 s8) (f28.H0 s0 s1 s2 s3 s4 s5 s6 s7 s8)
theorem f28.s0_eq {R : Type} (L N m : Nat) (κ : KX R) (rec : KT R) (s0 : LT) (s1 : Int) (s2 : Int) (s3 : Int) (s4 : Int) (s5 : Int) (s6 : Int) (s7 : LT) (s8 : LT) :
    evRd (E28 L N m) (evCallI (E28 L N m) 1 2000) 1000 28 27 0 f28.c0 κ rec (f28.T0 s0 s1 s2 s3 s4 s5 s6 s7 s8) (f28.H0 s0 s1 s2 s3 s4 s5 s6 s7 s8)
    = f28.s0 L N (f28 L N m) (f28.X0_e0 κ) (f28.R0 rec) s0 s1 s2 s3 s4 s5 s6 s7 s8 := by kernel_rfl
theorem f28.l0_eq {R : Type} (L N m : Nat) (κ : KX R) : ∀ (n : Nat) (s0 : LT) (s1 : Int) (s2 : Int) (s3 : Int) (s4 : Int) (s5 : Int) (s6 : Int) (s7 : LT) (s8 : LT),
    evLp (E28 L N m) (evCallI (E28 L N m) 1 2000) 1000 28 27 0 f28.c0 κ n (f28.T0 s0 s1 s2 s3 s4 s5 s6 s7 s8) (f28.H0 s0 s1 s2 s3 s4 s5 s6 s7 s8)
    = f28.l0 L N (f28 L N m) (f28.X0_e0 κ) n s0 s1 s2 s3 s4 s5 s6 s7 s8 := by
  intro n
  induction n with
  | zero => intros; rfl
  | succ n ih =>
    intro s0 s1 s2 s3 s4 s5 s6 s7 s8
    rw [evLp_succ, f28.s0_eq]
    delta f28.R0
    simp only [ih]
    rfl
theorem f28.p0_e0_eq {R : Type} (L N m : Nat) (κ : RN.Den (.agg [i64, i64]) → List Tree → Option R) (z9 : Int) (z10 : Int) (z11 : Int) (z12 : Int) (z13 : LT) (z14 : LT) :
    (contAt (E28 L N m) (evCallI (E28 L N m) 1 2000) 1000 28 27 0 (codeOf Tryd.f28) (finK (E28 L N m) 1000 Tryd.f28 (finN (.agg [i64, i64]) (some 0) 29 (.st 1) κ))) (.exit 0) (f28.T0_e0 z9 z10 z11 z12 z13 z14) (f28.H0_e0 z9 z10 z11 z12 z13 z14)
    = f28.p0_e0 L N (f28 L N m) (fun a0 a1 a2 => κ (a0, a1, ()) a2) z9 z10 z11 z12 z13 z14 := by kernel_rfl
theorem f28.b_eq {R : Type} (L N m : Nat) (κ : RN.Den (.agg [i64, i64]) → List Tree → Option R) (x0 : Tree) :
    evBody (E28 L N m) (evCallI (E28 L N m) 1 2000) 1000 28 Tryd.f28 [(.tv (.st 1) x0)] [] [] (finN (.agg [i64, i64]) (some 0) 29 (.st 1) κ)
    = f28.b L N (f28 L N m) (fun a0 a1 a2 => κ (a0, a1, ()) a2) x0 := by
  refine Eq.trans (b := f28.b' L N (f28 L N m) (fun a0 a1 a2 => κ (a0, a1, ()) a2) (fun s0 s1 s2 s3 s4 s5 s6 s7 s8 => evLp (E28 L N m) (evCallI (E28 L N m) 1 2000) 1000 28 27 0 f28.c0 (contAt (E28 L N m) (evCallI (E28 L N m) 1 2000) 1000 28 27 0 (codeOf Tryd.f28) (finK (E28 L N m) 1000 Tryd.f28 (finN (.agg [i64, i64]) (some 0) 29 (.st 1) κ))) L (f28.T0 s0 s1 s2 s3 s4 s5 s6 s7 s8) (f28.H0 s0 s1 s2 s3 s4 s5 s6 s7 s8)) x0) (by kernel_rfl) ?_
  unfold f28.b
  simp only [f28.l0_eq]
  delta f28.X0_e0
  simp only [f28.p0_e0_eq]
theorem f28.ok (L N m : Nat) (hΦ : TellsOk Tryd.prog (Φ28s L N m)) : EntOk Tryd.prog 28 (f28.ent L N (m + 1)) := by
  intro args vw site h
  unfold f28.ent
  split
  · rename_i d ha
    intro y hy hs
    refine call_ron (y := y) (dep := 1000) (E := (E28 L N m)) (ts := [(.st 1)]) (rn := (.agg [i64, i64])) (q := (some 0)) (el := 29) (ty := (.st 1)) (d1 := (y.1, y.2.1, ())) (xs := y.2.2) (κ := (fun d xs => some (d.1, d.2.1, xs))) (sound_of hΦ) okP (callI_sound (sound_of hΦ) okP 1 2000) (f := Tryd.f28) rfl hs ha ?_ (fun _ _ h => by obtain rfl := Option.some.inj h; exact ⟨rfl, rfl⟩) rfl site
    exact (f28.b_eq L N m (fun d xs => some (d.1, d.2.1, xs)) d.1).trans (Eq.trans (b := f28.b L N (f28 L N m) (fun a0 a1 a2 => some (a0, a1, a2)) d.1) (by kernel_rfl) hy)
  · intro y hy
    cases hy
theorem Φ28s_ok (L N : Nat) : ∀ m, TellsOk Tryd.prog (Φ28s L N m) := by
  intro m
  induction m with
  | zero => exact (addT_ok (Φ27_ok L N) (fun args vw site h => by unfold f28.ent; split <;> (intro y hy; cases hy)))
  | succ m ih => exact (addT_ok (Φ27_ok L N) (f28.ok L N m ih))
def Φ28 (L N : Nat) : Tells := (addT (Φ27 L N) 28 (f28.ent L N N))
theorem Φ28_ok (L N : Nat) : TellsOk Tryd.prog (Φ28 L N) := Φ28s_ok L N N
def f10.j0' {R : Type} (L N : Nat) (k : Int → Int → LT → Bool → Option R) (v9 : Int) (v10 : LI) (v11 : Int) (v12 : Int) (v13 : LT) (v14 : Int) (v15 : Int) : Option R :=
  (f27 L N N (Tree.mk v11 v12 v13) v9 v10).bind fun y16 =>
  bif (!y16.2) then
    k (0 : Int) (0 : Int) [] false
  else (f26 L N (Tree.mk y16.1.op y16.1.n y16.1.parts)).bind fun y17 =>
  bif (!y17) then
    k (0 : Int) (0 : Int) [] false
  else (f28 L N N (Tree.mk y16.1.op y16.1.n y16.1.parts)).bind fun y31 =>
  k y31.1 y31.2.1 y31.2.2 true
def f10.b' {R : Type} (L N : Nat) (k : Int → Int → LT → Bool → Option R) (x0 : Tree) (x1 : Int) (x2 : LI) : Option R :=
  (f26 L N (Tree.mk x0.op x0.n x0.parts)).bind fun y0 =>
  bif (!y0) then
    k (0 : Int) (0 : Int) [] false
  else bif (decide (x1 < (0 : Int))) then
    k (0 : Int) (0 : Int) [] false
  else bif (decide (x1 ≥ (12 : Int))) then
    k (0 : Int) (0 : Int) [] false
  else f10.j0' L N k x1 x2 x0.op x0.n x0.parts (0 : Int) (0 : Int)
def f10.b {R : Type} (L N : Nat) (k : Int → Int → LT → Bool → Option R) (x0 : Tree) (x1 : Int) (x2 : LI) : Option R :=
  f10.b' L N k x0 x1 x2
def f10 (L N : Nat) (x0 : Tree) (x1 : Int) (x2 : LI) : Option (Int × Int × LT × Bool) := f10.b L N (fun a0 a1 a2 a3 => some (a0, a1, a2, a3)) x0 x1 x2
def f10.ent (L N : Nat) (args : List AV) (vw : View) (site : Nat) : Ans := match roD [(.st 1), i64, (.sl i64)] vw args with
  | some d => ⟨Int × Int × LT × Bool, f10 L N d.1 d.2.1 d.2.2.1, fun y => (RN.av site (.tup (.agg [i64, i64]) [.bool]) ((y.1, y.2.1, ()), (y.2.2.2, ())), [(site, some (mkO (some 0) 29 (.st 1) y.2.2.1))], [])⟩
  | none => Ans.no
noncomputable def E10 (L N : Nat) : Env := { P := Tryd.prog, ty := tyOf, Φ := (Φ28 L N), inl := inlT, live := lives, liveX := livesX, L := L, dp := (some 0), prom := promT, heal := healT, ren := renT }
theorem f10.b_eq {R : Type} (L N : Nat) (κ : RN.Den (.tup (.agg [i64, i64]) [.bool]) → List Tree → Option R) (x0 : Tree) (x1 : Int) (x2 : LI) :
    evBody (E10 L N) (evCallI (E10 L N) 1 2000) 1000 10 Tryd.f10 [(.tv (.st 1) x0), (.tv i64 x1), (.tv (.sl i64) x2)] [] [] (finN (.tup (.agg [i64, i64]) [.bool]) (some 0) 29 (.st 1) κ)
    = f10.b L N (fun a0 a1 a2 a3 => κ ((a0, a1, ()), (a3, ())) a2) x0 x1 x2 := by kernel_rfl
theorem f10.ok (L N : Nat) (hΦ : TellsOk Tryd.prog ((Φ28 L N))) : EntOk Tryd.prog 10 (f10.ent L N) := by
  intro args vw site h
  unfold f10.ent
  split
  · rename_i d ha
    intro y hy hs
    refine call_ron (y := y) (dep := 1000) (E := (E10 L N)) (ts := [(.st 1), i64, (.sl i64)]) (rn := (.tup (.agg [i64, i64]) [.bool])) (q := (some 0)) (el := 29) (ty := (.st 1)) (d1 := ((y.1, y.2.1, ()), (y.2.2.2, ()))) (xs := y.2.2.1) (κ := (fun d xs => some (d.1.1, d.1.2.1, xs, d.2.1))) (sound_of hΦ) okP (callI_sound (sound_of hΦ) okP 1 2000) (f := Tryd.f10) rfl hs ha ?_ (fun _ _ h => by obtain rfl := Option.some.inj h; exact ⟨rfl, rfl⟩) rfl site
    exact (f10.b_eq L N (fun d xs => some (d.1.1, d.1.2.1, xs, d.2.1)) d.1 d.2.1 d.2.2.1).trans (Eq.trans (b := f10.b L N (fun a0 a1 a2 a3 => some (a0, a1, a2, a3)) d.1 d.2.1 d.2.2.1) (by kernel_rfl) hy)
  · intro y hy
    cases hy
def Φ10 (L N : Nat) : Tells := (addT (Φ28 L N) 10 (f10.ent L N))
theorem Φ10_ok (L N : Nat) : TellsOk Tryd.prog (Φ10 L N) := addT_ok (Φ28_ok L N) (f10.ok L N (Φ28_ok L N))
def f11.b' {R : Type} (L N : Nat) (self11 : Tree → Tree → Option (Bool)) (self29 : LT → LT → Option (Bool)) (k : Bool → Option R) (x0 : Tree) (x1 : Tree) : Option R :=
  bif (x0.op != x1.op) then
    k false
  else bif (x0.n != x1.n) then
    k false
  else (self29 x0.parts x1.parts).bind fun y0 =>
  bif (!y0) then
    k false
  else k true
def f11.b {R : Type} (L N : Nat) (self11 : Tree → Tree → Option (Bool)) (self29 : LT → LT → Option (Bool)) (k : Bool → Option R) (x0 : Tree) (x1 : Tree) : Option R :=
  f11.b' L N self11 self29 k x0 x1
def f29.s0' {R : Type} (L N : Nat) (self11 : Tree → Tree → Option (Bool)) (self29 : LT → LT → Option (Bool)) (k0_e0 : Option R) (k0_r : Bool → Option R) (rec0 : LT → LT → Int → Option R) (s0 : LT) (s1 : LT) (s2 : Int) : Option R :=
  bif (decide (s2 < (s0.length : Int))) then
    bif (decide (0 ≤ s2) && decide (s2 < (s0.length : Int))) then
      bif (decide (0 ≤ s2) && decide (s2 < (s1.length : Int))) then
        (self11 (listAt s0 (Ty.dflt (.st 1)) s2.toNat) (listAt s1 (Ty.dflt (.st 1)) s2.toNat)).bind fun y3 =>
        bif (!y3) then
          k0_r false
        else rec0 s0 s1 (wi (s2 + (1 : Int)))
      else none
    else none
  else k0_e0
def f29.s0 {R : Type} (L N : Nat) (self11 : Tree → Tree → Option (Bool)) (self29 : LT → LT → Option (Bool)) (k0_e0 : Option R) (k0_r : Bool → Option R) (rec0 : LT → LT → Int → Option R) (s0 : LT) (s1 : LT) (s2 : Int) : Option R :=
  f29.s0' L N self11 self29 k0_e0 k0_r rec0 s0 s1 s2
def f29.l0 {R : Type} (L N : Nat) (self11 : Tree → Tree → Option (Bool)) (self29 : LT → LT → Option (Bool)) (k0_e0 : Option R) (k0_r : Bool → Option R) : Nat → LT → LT → Int → Option R
  | 0, _, _, _ => none
  | n + 1, s0, s1, s2 => f29.s0 L N self11 self29 k0_e0 k0_r (f29.l0 L N self11 self29 k0_e0 k0_r n) s0 s1 s2
def f29.T0 (s0 : LT) (s1 : LT) (s2 : Int) : T := mkT 27 [(0, (.tv (.sl (.st 1)) s0)), (1, (.tv (.sl (.st 1)) s1)), (5, (.tv i64 s2))]
def f29.H0 (s0 : LT) (s1 : LT) (s2 : Int) : H := []
def f29.T0_e0 : T := mkT 27 []
def f29.H0_e0 : H := []
def f29.T0_r (z4 : Bool) : T := mkT 27 [(4, (.tv .bool z4))]
def f29.H0_r (z4 : Bool) : H := []
def f29.p0_e0' {R : Type} (L N : Nat) (self11 : Tree → Tree → Option (Bool)) (self29 : LT → LT → Option (Bool)) (k : Bool → Option R) : Option R :=
  k true
def f29.p0_e0 {R : Type} (L N : Nat) (self11 : Tree → Tree → Option (Bool)) (self29 : LT → LT → Option (Bool)) (k : Bool → Option R) : Option R :=
  f29.p0_e0' L N self11 self29 k
def f29.p0_r' {R : Type} (L N : Nat) (self11 : Tree → Tree → Option (Bool)) (self29 : LT → LT → Option (Bool)) (k : Bool → Option R) (z4 : Bool) : Option R :=
  k z4
def f29.p0_r {R : Type} (L N : Nat) (self11 : Tree → Tree → Option (Bool)) (self29 : LT → LT → Option (Bool)) (k : Bool → Option R) (z4 : Bool) : Option R :=
  f29.p0_r' L N self11 self29 k z4
def f29.b' {R : Type} (L N : Nat) (self11 : Tree → Tree → Option (Bool)) (self29 : LT → LT → Option (Bool)) (k : Bool → Option R) (w0 : LT → LT → Int → Option R) (x0 : LT) (x1 : LT) : Option R :=
  bif ((x0.length : Int) != (x1.length : Int)) then
    k false
  else w0 x0 x1 (0 : Int)
def f29.b {R : Type} (L N : Nat) (self11 : Tree → Tree → Option (Bool)) (self29 : LT → LT → Option (Bool)) (k : Bool → Option R) (x0 : LT) (x1 : LT) : Option R :=
  f29.b' L N self11 self29 k (fun s0 s1 s2 => f29.l0 L N self11 self29 (f29.p0_e0 L N self11 self29 k) (fun z4 => f29.p0_r L N self11 self29 k z4) L s0 s1 s2) x0 x1
mutual
def f11 (L N : Nat) : Nat → Tree → Tree → Option (Bool)
  | 0, _, _ => none
  | n + 1, x0, x1 => f11.b L N (f11 L N n) (f29 L N n) some x0 x1
def f29 (L N : Nat) : Nat → LT → LT → Option (Bool)
  | 0, _, _ => none
  | n + 1, x0, x1 => f29.b L N (f11 L N n) (f29 L N n) some x0 x1
end
def f11.ent (L N m : Nat) := entRo [(.st 1), (.st 1)] (.one .bool) fun d => f11 L N m d.1 d.2.1
def f29.ent (L N m : Nat) := entRo [(.sl (.st 1)), (.sl (.st 1))] (.one .bool) fun d => f29 L N m d.1 d.2.1
def Φ11s (L N m : Nat) : Tells := (addT (addT (Φ10 L N) 11 (f11.ent L N m)) 29 (f29.ent L N m))
noncomputable def E11 (L N m : Nat) : Env := { P := Tryd.prog, ty := tyOf, Φ := Φ11s L N m, inl := inlT, live := lives, liveX := livesX, L := L, dp := none, prom := promT, heal := healT, ren := renT }
theorem f11.b_eq {R : Type} (L N m : Nat) (κ : AV → Option R) (x0 : Tree) (x1 : Tree) :
    evBody (E11 L N m) (evCallI (E11 L N m) 1 2000) 1000 11 Tryd.f11 [(.tv (.st 1) x0), (.tv (.st 1) x1)] [] [] (finC (.one .bool) κ)
    = f11.b L N (f11 L N m) (f29 L N m) (fun a0 => κ (.tv .bool a0)) x0 x1 := by kernel_rfl
noncomputable def f29.c0 : Code := loopAt 0 (codeOf Tryd.f29)
def f29.X0_e0 {R : Type} (κ : KX R) := κ (.exit 0) f29.T0_e0 f29.H0_e0
def f29.X0_r {R : Type} (κ : KX R) := fun z4 => κ .ret (f29.T0_r z4) (f29.H0_r z4)
def f29.R0 {R : Type} (rec : KT R) := fun s0 s1 s2 => rec (f29.T0 s0 s1 s2) (f29.H0 s0 s1 s2)
theorem f29.s0_eq {R : Type} (L N m : Nat) (κ : KX R) (rec : KT R) (s0 : LT) (s1 : LT) (s2 : Int) :
    evRd (E11 L N m) (evCallI (E11 L N m) 1 2000) 1000 29 27 0 f29.c0 κ rec (f29.T0 s0 s1 s2) (f29.H0 s0 s1 s2)
    = f29.s0 L N (f11 L N m) (f29 L N m) (f29.X0_e0 κ) (f29.X0_r κ) (f29.R0 rec) s0 s1 s2 := by kernel_rfl
theorem f29.l0_eq {R : Type} (L N m : Nat) (κ : KX R) : ∀ (n : Nat) (s0 : LT) (s1 : LT) (s2 : Int),
    evLp (E11 L N m) (evCallI (E11 L N m) 1 2000) 1000 29 27 0 f29.c0 κ n (f29.T0 s0 s1 s2) (f29.H0 s0 s1 s2)
    = f29.l0 L N (f11 L N m) (f29 L N m) (f29.X0_e0 κ) (f29.X0_r κ) n s0 s1 s2 := by
  intro n
  induction n with
  | zero => intros; rfl
  | succ n ih =>
    intro s0 s1 s2
    rw [evLp_succ, f29.s0_eq]
    delta f29.R0
    simp only [ih]
    rfl
theorem f29.p0_e0_eq {R : Type} (L N m : Nat) (κ : AV → Option R) :
    (contAt (E11 L N m) (evCallI (E11 L N m) 1 2000) 1000 29 27 0 (codeOf Tryd.f29) (finK (E11 L N m) 1000 Tryd.f29 (finC (.one .bool) κ))) (.exit 0) f29.T0_e0 f29.H0_e0
    = f29.p0_e0 L N (f11 L N m) (f29 L N m) (fun a0 => κ (.tv .bool a0)) := by kernel_rfl
theorem f29.p0_r_eq {R : Type} (L N m : Nat) (κ : AV → Option R) (z4 : Bool) :
    (contAt (E11 L N m) (evCallI (E11 L N m) 1 2000) 1000 29 27 0 (codeOf Tryd.f29) (finK (E11 L N m) 1000 Tryd.f29 (finC (.one .bool) κ))) .ret (f29.T0_r z4) (f29.H0_r z4)
    = f29.p0_r L N (f11 L N m) (f29 L N m) (fun a0 => κ (.tv .bool a0)) z4 := by kernel_rfl
theorem f29.b_eq {R : Type} (L N m : Nat) (κ : AV → Option R) (x0 : LT) (x1 : LT) :
    evBody (E11 L N m) (evCallI (E11 L N m) 1 2000) 1000 29 Tryd.f29 [(.tv (.sl (.st 1)) x0), (.tv (.sl (.st 1)) x1)] [] [] (finC (.one .bool) κ)
    = f29.b L N (f11 L N m) (f29 L N m) (fun a0 => κ (.tv .bool a0)) x0 x1 := by
  refine Eq.trans (b := f29.b' L N (f11 L N m) (f29 L N m) (fun a0 => κ (.tv .bool a0)) (fun s0 s1 s2 => evLp (E11 L N m) (evCallI (E11 L N m) 1 2000) 1000 29 27 0 f29.c0 (contAt (E11 L N m) (evCallI (E11 L N m) 1 2000) 1000 29 27 0 (codeOf Tryd.f29) (finK (E11 L N m) 1000 Tryd.f29 (finC (.one .bool) κ))) L (f29.T0 s0 s1 s2) (f29.H0 s0 s1 s2)) x0 x1) (by kernel_rfl) ?_
  unfold f29.b
  simp only [f29.l0_eq]
  delta f29.X0_e0 f29.X0_r
  simp only [f29.p0_e0_eq, f29.p0_r_eq]
theorem f11.ok (L N m : Nat) (hΦ : TellsOk Tryd.prog (Φ11s L N m)) : EntOk Tryd.prog 11 (f11.ent L N (m + 1)) := entRo_ok (E := (E11 L N m)) (dep := 1000) (f := Tryd.f11) (sound_of hΦ) okP (callI_sound (sound_of hΦ) okP 1 2000) rfl rfl fun d _ hy => (f11.b_eq L N m (unR (.one .bool)) d.1 d.2.1).trans (Eq.trans (b := f11.b L N (f11 L N m) (f29 L N m) some d.1 d.2.1) (by kernel_rfl) hy)
theorem f29.ok (L N m : Nat) (hΦ : TellsOk Tryd.prog (Φ11s L N m)) : EntOk Tryd.prog 29 (f29.ent L N (m + 1)) := entRo_ok (E := (E11 L N m)) (dep := 1000) (f := Tryd.f29) (sound_of hΦ) okP (callI_sound (sound_of hΦ) okP 1 2000) rfl rfl fun d _ hy => (f29.b_eq L N m (unR (.one .bool)) d.1 d.2.1).trans (Eq.trans (b := f29.b L N (f11 L N m) (f29 L N m) some d.1 d.2.1) (by kernel_rfl) hy)
theorem Φ11s_ok (L N : Nat) : ∀ m, TellsOk Tryd.prog (Φ11s L N m) := by
  intro m
  induction m with
  | zero => exact (addT_ok (addT_ok (Φ10_ok L N) (entRo_no fun _ => rfl)) (entRo_no fun _ => rfl))
  | succ m ih => exact (addT_ok (addT_ok (Φ10_ok L N) (f11.ok L N m ih)) (f29.ok L N m ih))
def Φ11 (L N : Nat) : Tells := (addT (addT (Φ10 L N) 11 (f11.ent L N N)) 29 (f29.ent L N N))
theorem Φ11_ok (L N : Nat) : TellsOk Tryd.prog (Φ11 L N) := Φ11s_ok L N N
def f12.s0' {R : Type} (L N : Nat) (k0_e0 : Option R) (k0_r : Bool → Option R) (rec0 : LI → LI → Int → Option R) (s0 : LI) (s1 : LI) (s2 : Int) : Option R :=
  bif (decide (s2 < (s0.length : Int))) then
    bif (decide (0 ≤ s2) && decide (s2 < (s0.length : Int))) then
      bif (decide (0 ≤ s2) && decide (s2 < (s1.length : Int))) then
        bif ((listAt s0 (0 : Int) s2.toNat) != (listAt s1 (0 : Int) s2.toNat)) then
          k0_r false
        else rec0 s0 s1 (wi (s2 + (1 : Int)))
      else none
    else none
  else k0_e0
def f12.s0 {R : Type} (L N : Nat) (k0_e0 : Option R) (k0_r : Bool → Option R) (rec0 : LI → LI → Int → Option R) (s0 : LI) (s1 : LI) (s2 : Int) : Option R :=
  f12.s0' L N k0_e0 k0_r rec0 s0 s1 s2
def f12.l0 {R : Type} (L N : Nat) (k0_e0 : Option R) (k0_r : Bool → Option R) : Nat → LI → LI → Int → Option R
  | 0, _, _, _ => none
  | n + 1, s0, s1, s2 => f12.s0 L N k0_e0 k0_r (f12.l0 L N k0_e0 k0_r n) s0 s1 s2
def f12.T0 (s0 : LI) (s1 : LI) (s2 : Int) : T := mkT 26 [(0, (.tv (.sl i64) s0)), (1, (.tv (.sl i64) s1)), (5, (.tv i64 s2))]
def f12.H0 (s0 : LI) (s1 : LI) (s2 : Int) : H := []
def f12.T0_e0 : T := mkT 26 []
def f12.H0_e0 : H := []
def f12.T0_r (z3 : Bool) : T := mkT 26 [(4, (.tv .bool z3))]
def f12.H0_r (z3 : Bool) : H := []
def f12.p0_e0' {R : Type} (L N : Nat) (k : Bool → Option R) : Option R :=
  k true
def f12.p0_e0 {R : Type} (L N : Nat) (k : Bool → Option R) : Option R :=
  f12.p0_e0' L N k
def f12.p0_r' {R : Type} (L N : Nat) (k : Bool → Option R) (z3 : Bool) : Option R :=
  k z3
def f12.p0_r {R : Type} (L N : Nat) (k : Bool → Option R) (z3 : Bool) : Option R :=
  f12.p0_r' L N k z3
def f12.b' {R : Type} (L N : Nat) (k : Bool → Option R) (w0 : LI → LI → Int → Option R) (x0 : LI) (x1 : LI) : Option R :=
  bif ((x0.length : Int) != (x1.length : Int)) then
    k false
  else w0 x0 x1 (0 : Int)
def f12.b {R : Type} (L N : Nat) (k : Bool → Option R) (x0 : LI) (x1 : LI) : Option R :=
  f12.b' L N k (fun s0 s1 s2 => f12.l0 L N (f12.p0_e0 L N k) (fun z3 => f12.p0_r L N k z3) L s0 s1 s2) x0 x1
def f12 (L N : Nat) (x0 : LI) (x1 : LI) : Option (Bool) := f12.b L N some x0 x1
def f12.ent (L N : Nat) := entRo [(.sl i64), (.sl i64)] (.one .bool) fun d => f12 L N d.1 d.2.1
noncomputable def E12 (L N : Nat) : Env := { P := Tryd.prog, ty := tyOf, Φ := (Φ11 L N), inl := inlT, live := lives, liveX := livesX, L := L, dp := none, prom := promT, heal := healT, ren := renT }
noncomputable def f12.c0 : Code := loopAt 0 (codeOf Tryd.f12)
def f12.X0_e0 {R : Type} (κ : KX R) := κ (.exit 0) f12.T0_e0 f12.H0_e0
def f12.X0_r {R : Type} (κ : KX R) := fun z3 => κ .ret (f12.T0_r z3) (f12.H0_r z3)
def f12.R0 {R : Type} (rec : KT R) := fun s0 s1 s2 => rec (f12.T0 s0 s1 s2) (f12.H0 s0 s1 s2)
theorem f12.s0_eq {R : Type} (L N : Nat) (κ : KX R) (rec : KT R) (s0 : LI) (s1 : LI) (s2 : Int) :
    evRd (E12 L N) (evCallI (E12 L N) 1 2000) 1000 12 26 0 f12.c0 κ rec (f12.T0 s0 s1 s2) (f12.H0 s0 s1 s2)
    = f12.s0 L N (f12.X0_e0 κ) (f12.X0_r κ) (f12.R0 rec) s0 s1 s2 := by kernel_rfl
theorem f12.l0_eq {R : Type} (L N : Nat) (κ : KX R) : ∀ (n : Nat) (s0 : LI) (s1 : LI) (s2 : Int),
    evLp (E12 L N) (evCallI (E12 L N) 1 2000) 1000 12 26 0 f12.c0 κ n (f12.T0 s0 s1 s2) (f12.H0 s0 s1 s2)
    = f12.l0 L N (f12.X0_e0 κ) (f12.X0_r κ) n s0 s1 s2 := by
  intro n
  induction n with
  | zero => intros; rfl
  | succ n ih =>
    intro s0 s1 s2
    rw [evLp_succ, f12.s0_eq]
    delta f12.R0
    simp only [ih]
    rfl
theorem f12.p0_e0_eq {R : Type} (L N : Nat) (κ : AV → Option R) :
    (contAt (E12 L N) (evCallI (E12 L N) 1 2000) 1000 12 26 0 (codeOf Tryd.f12) (finK (E12 L N) 1000 Tryd.f12 (finC (.one .bool) κ))) (.exit 0) f12.T0_e0 f12.H0_e0
    = f12.p0_e0 L N (fun a0 => κ (.tv .bool a0)) := by kernel_rfl
theorem f12.p0_r_eq {R : Type} (L N : Nat) (κ : AV → Option R) (z3 : Bool) :
    (contAt (E12 L N) (evCallI (E12 L N) 1 2000) 1000 12 26 0 (codeOf Tryd.f12) (finK (E12 L N) 1000 Tryd.f12 (finC (.one .bool) κ))) .ret (f12.T0_r z3) (f12.H0_r z3)
    = f12.p0_r L N (fun a0 => κ (.tv .bool a0)) z3 := by kernel_rfl
theorem f12.b_eq {R : Type} (L N : Nat) (κ : AV → Option R) (x0 : LI) (x1 : LI) :
    evBody (E12 L N) (evCallI (E12 L N) 1 2000) 1000 12 Tryd.f12 [(.tv (.sl i64) x0), (.tv (.sl i64) x1)] [] [] (finC (.one .bool) κ)
    = f12.b L N (fun a0 => κ (.tv .bool a0)) x0 x1 := by
  refine Eq.trans (b := f12.b' L N (fun a0 => κ (.tv .bool a0)) (fun s0 s1 s2 => evLp (E12 L N) (evCallI (E12 L N) 1 2000) 1000 12 26 0 f12.c0 (contAt (E12 L N) (evCallI (E12 L N) 1 2000) 1000 12 26 0 (codeOf Tryd.f12) (finK (E12 L N) 1000 Tryd.f12 (finC (.one .bool) κ))) L (f12.T0 s0 s1 s2) (f12.H0 s0 s1 s2)) x0 x1) (by kernel_rfl) ?_
  unfold f12.b
  simp only [f12.l0_eq]
  delta f12.X0_e0 f12.X0_r
  simp only [f12.p0_e0_eq, f12.p0_r_eq]
theorem f12.ok (L N : Nat) (hΦ : TellsOk Tryd.prog ((Φ11 L N))) : EntOk Tryd.prog 12 (f12.ent L N) := entRo_ok (E := (E12 L N)) (dep := 1000) (f := Tryd.f12) (sound_of hΦ) okP (callI_sound (sound_of hΦ) okP 1 2000) rfl rfl fun d _ hy => (f12.b_eq L N (unR (.one .bool)) d.1 d.2.1).trans (Eq.trans (b := f12.b L N some d.1 d.2.1) (by kernel_rfl) hy)
def Φ12 (L N : Nat) : Tells := (addT (Φ11 L N) 12 (f12.ent L N))
theorem Φ12_ok (L N : Nat) : TellsOk Tryd.prog (Φ12 L N) := addT_ok (Φ11_ok L N) (f12.ok L N (Φ11_ok L N))
def f14.s0' {R : Type} (L N : Nat) (n0 : Nat) (k0_e0 : Int → LI → Option R) (rec0 : Int → Int → LI → Option R) (s0 : Int) (s1 : Int) (s2 : LI) : Option R :=
  bif (decide (s1 < (s2.length : Int))) then
    bif (decide (0 ≤ s1) && decide (s1 < (s2.length : Int))) then
      rec0 (wi (s0 + (1 : Int))) (wi (s1 + (1 : Int))) (s2.set s1.toNat s0)
    else none
  else k0_e0 s0 s2
def f14.s0 {R : Type} (L N : Nat) (n0 : Nat) (k0_e0 : Int → LI → Option R) (rec0 : Int → Int → LI → Option R) (s0 : Int) (s1 : Int) (s2 : LI) : Option R :=
  f14.s0' L N n0 k0_e0 rec0 s0 s1 s2
def f14.l0 {R : Type} (L N : Nat) (n0 : Nat) (k0_e0 : Int → LI → Option R) : Nat → Int → Int → LI → Option R
  | 0, _, _, _ => none
  | n + 1, s0, s1, s2 => f14.s0 L N n0 k0_e0 (f14.l0 L N n0 k0_e0 n) s0 s1 s2
def f14.T0 (s0 : Int) (s1 : Int) (s2 : LI) : T := mkT 19 [(0, (.row 0)), (1, (.tv i64 s0)), (5, (.tv i64 s1))] ++ [.row 0]
def f14.H0 (s0 : Int) (s1 : Int) (s2 : LI) : H := [(0, (.row 3 i64 s2))]
def f14.T0_e0 (z3 : Int) (z4 : LI) : T := mkT 19 [(1, (.tv i64 z3))] ++ [.row 0]
def f14.H0_e0 (z3 : Int) (z4 : LI) : H := [(0, (.row 3 i64 z4))]
def f14.p0_e0' {R : Type} (L N : Nat) (n0 : Nat) (k : Int → LI → Option R) (z3 : Int) (z4 : LI) : Option R :=
  bif (Nat.beq z4.length n0) then
    k z3 z4
  else none
def f14.p0_e0 {R : Type} (L N : Nat) (n0 : Nat) (k : Int → LI → Option R) (z3 : Int) (z4 : LI) : Option R :=
  f14.p0_e0' L N n0 k z3 z4
def f14.b' {R : Type} (L N : Nat) (n0 : Nat) (k : Int → LI → Option R) (w0 : Int → Int → LI → Option R) (oo : List Int) (x0 : Int) : Option R :=
  w0 x0 (0 : Int) oo
def f14.b {R : Type} (L N : Nat) (n0 : Nat) (k : Int → LI → Option R) (oo : List Int) (x0 : Int) : Option R :=
  f14.b' L N n0 k (fun s0 s1 s2 => f14.l0 L N n0 (fun z3 z4 => f14.p0_e0 L N n0 k z3 z4) L s0 s1 s2) oo x0
def f14 (L N : Nat) (oo : List Int) (x0 : Int) : Option (Int × LI) := f14.b L N oo.length (fun a0 a1 => some (a0, a1)) oo x0
def f14.ent (L N : Nat) (args : List AV) (vw : View) (site : Nat) : Ans := match ownD none 3 i64 [i64] vw args with
  | some (o, xs, d, u) => ⟨Int × LI, f14 L N xs d.1, fun y => ((.tv i64 y.1), u ++ [(o, some (mkO none 3 i64 y.2))], [])⟩
  | none => Ans.no
noncomputable def E14 (L N : Nat) : Env := { P := Tryd.prog, ty := tyOf, Φ := (Φ12 L N), inl := inlT, live := lives, liveX := livesX, L := L, dp := none, prom := promT, heal := healT, ren := renT }
noncomputable def f14.c0 : Code := loopAt 0 (codeOf Tryd.f14)
def f14.X0_e0 {R : Type} (κ : KX R) := fun z3 z4 => κ (.exit 0) (f14.T0_e0 z3 z4) (f14.H0_e0 z3 z4)
def f14.R0 {R : Type} (rec : KT R) := fun s0 s1 s2 => rec (f14.T0 s0 s1 s2) (f14.H0 s0 s1 s2)
theorem f14.s0_eq {R : Type} (L N n0 : Nat) (κ : KX R) (rec : KT R) (s0 : Int) (s1 : Int) (s2 : LI) :
    evRd (E14 L N) (evCallI (E14 L N) 1 2000) 1000 14 19 0 f14.c0 κ rec (f14.T0 s0 s1 s2) (f14.H0 s0 s1 s2)
    = f14.s0 L N n0 (f14.X0_e0 κ) (f14.R0 rec) s0 s1 s2 := by kernel_rfl
theorem f14.l0_eq {R : Type} (L N n0 : Nat) (κ : KX R) : ∀ (n : Nat) (s0 : Int) (s1 : Int) (s2 : LI),
    evLp (E14 L N) (evCallI (E14 L N) 1 2000) 1000 14 19 0 f14.c0 κ n (f14.T0 s0 s1 s2) (f14.H0 s0 s1 s2)
    = f14.l0 L N n0 (f14.X0_e0 κ) n s0 s1 s2 := by
  intro n
  induction n with
  | zero => intros; rfl
  | succ n ih =>
    intro s0 s1 s2
    rw [evLp_succ, f14.s0_eq L N n0]
    delta f14.R0
    simp only [ih]
    rfl
theorem f14.p0_e0_eq {R : Type} (L N n0 : Nat) (κ : AV → List Int → Option R) (z3 : Int) (z4 : LI) :
    (contAt (E14 L N) (evCallI (E14 L N) 1 2000) 1000 14 19 0 (codeOf Tryd.f14) (finK (E14 L N) 1000 Tryd.f14 (finO (.one i64) none 3 i64 n0 κ))) (.exit 0) (f14.T0_e0 z3 z4) (f14.H0_e0 z3 z4)
    = f14.p0_e0 L N n0 (fun a0 a1 => κ (.tv i64 a0) a1) z3 z4 := by kernel_rfl
theorem f14.b_eq {R : Type} (L N n0 : Nat) (κ : AV → List Int → Option R) (oo : List Int) (x0 : Int) :
    evBody (E14 L N) (evCallI (E14 L N) 1 2000) 1000 14 Tryd.f14 [(.row 0), (.tv i64 x0)] [.row 0] [(0, (.row 3 i64 oo))] (finO (.one i64) none 3 i64 n0 κ)
    = f14.b L N n0 (fun a0 a1 => κ (.tv i64 a0) a1) oo x0 := by
  refine Eq.trans (b := f14.b' L N n0 (fun a0 a1 => κ (.tv i64 a0) a1) (fun s0 s1 s2 => evLp (E14 L N) (evCallI (E14 L N) 1 2000) 1000 14 19 0 f14.c0 (contAt (E14 L N) (evCallI (E14 L N) 1 2000) 1000 14 19 0 (codeOf Tryd.f14) (finK (E14 L N) 1000 Tryd.f14 (finO (.one i64) none 3 i64 n0 κ))) L (f14.T0 s0 s1 s2) (f14.H0 s0 s1 s2)) oo x0) (by kernel_rfl) ?_
  unfold f14.b
  simp only [f14.l0_eq L N n0]
  delta f14.X0_e0
  simp only [f14.p0_e0_eq L N n0]
theorem f14.ok (L N : Nat) (hΦ : TellsOk Tryd.prog ((Φ12 L N))) : EntOk Tryd.prog 14 (f14.ent L N) := by
  intro args vw site h
  unfold f14.ent
  split
  · rename_i o xs d u ha
    intro y hy hs
    obtain ⟨rest, rfl, ho, hr, hu⟩ := ownD_some ha
    refine call_own (y := y) (dep := 1000) (v' := (.tv i64 y.1)) (ys := y.2) (E := (E14 L N)) (tr := [i64]) (q := none) (el := 3) (ty := i64) (rs := (.one i64)) (κ := (fun v d => (unR (.one i64) v).bind fun x => some (x, d))) (sound_of hΦ) okP (callI_sound (sound_of hΦ) okP 1 2000) (f := Tryd.f14) rfl hs ho hr hu ?_ (fun _ _ h => by obtain ⟨x, h1, h2⟩ := unR_bind h; obtain rfl := Option.some.inj h2; exact ⟨h1, rfl⟩) site
    exact (f14.b_eq L N xs.length (fun v d => (unR (.one i64) v).bind fun x => some (x, d)) xs d.1).trans (Eq.trans (b := f14.b L N xs.length (fun a0 a1 => some (a0, a1)) xs d.1) (by kernel_rfl) hy)
  · intro y hy
    cases hy
def Φ14 (L N : Nat) : Tells := (addT (Φ12 L N) 14 (f14.ent L N))
theorem Φ14_ok (L N : Nat) : TellsOk Tryd.prog (Φ14 L N) := addT_ok (Φ12_ok L N) (f14.ok L N (Φ12_ok L N))
def f31.s0' {R : Type} (L N : Nat) (self31 : LT → Int → Option (Int)) (k0_e0 : Int → Option R) (k0_r : Int → Int → Option R) (rec0 : LT → Int → Int → Option R) (s0 : LT) (s1 : Int) (s2 : Int) : Option R :=
  bif (decide (s2 < (s0.length : Int))) then
    bif (decide (0 ≤ s2) && decide (s2 < (s0.length : Int))) then
      bif ((listAt s0 (Ty.dflt (.st 1)) s2.toNat).op != s1) then
        k0_r s1 (-1 : Int)
      else bif (decide (0 ≤ s2) && decide (s2 < (s0.length : Int))) then
        bif ((listAt s0 (Ty.dflt (.st 1)) s2.toNat).n != (wi (s1 + (1 : Int)))) then
          k0_r (wi (s1 + (1 : Int))) (-1 : Int)
        else bif (decide (0 ≤ s2) && decide (s2 < (s0.length : Int))) then
          (self31 ((listAt s0 (Ty.dflt (.st 1)) s2.toNat).parts) (wi ((wi (s1 + (1 : Int))) + (1 : Int)))).bind fun y6 =>
          bif (decide (y6 < (0 : Int))) then
            k0_r y6 (-1 : Int)
          else rec0 s0 y6 (wi (s2 + (1 : Int)))
        else none
      else none
    else none
  else k0_e0 s1
def f31.s0 {R : Type} (L N : Nat) (self31 : LT → Int → Option (Int)) (k0_e0 : Int → Option R) (k0_r : Int → Int → Option R) (rec0 : LT → Int → Int → Option R) (s0 : LT) (s1 : Int) (s2 : Int) : Option R :=
  f31.s0' L N self31 k0_e0 k0_r rec0 s0 s1 s2
def f31.l0 {R : Type} (L N : Nat) (self31 : LT → Int → Option (Int)) (k0_e0 : Int → Option R) (k0_r : Int → Int → Option R) : Nat → LT → Int → Int → Option R
  | 0, _, _, _ => none
  | n + 1, s0, s1, s2 => f31.s0 L N self31 k0_e0 k0_r (f31.l0 L N self31 k0_e0 k0_r n) s0 s1 s2
def f31.T0 (s0 : LT) (s1 : Int) (s2 : Int) : T := mkT 40 [(0, (.tv (.sl (.st 1)) s0)), (1, (.tv i64 s1)), (5, (.tv i64 s2))]
def f31.H0 (s0 : LT) (s1 : Int) (s2 : Int) : H := []
def f31.T0_e0 (z3 : Int) : T := mkT 40 [(1, (.tv i64 z3))]
def f31.H0_e0 (z3 : Int) : H := []
def f31.T0_r (z4 : Int) (z5 : Int) : T := mkT 40 [(1, (.tv i64 z4)), (4, (.tv i64 z5))]
def f31.H0_r (z4 : Int) (z5 : Int) : H := []
def f31.p0_e0' {R : Type} (L N : Nat) (self31 : LT → Int → Option (Int)) (k : Int → Option R) (z3 : Int) : Option R :=
  k z3
def f31.p0_e0 {R : Type} (L N : Nat) (self31 : LT → Int → Option (Int)) (k : Int → Option R) (z3 : Int) : Option R :=
  f31.p0_e0' L N self31 k z3
def f31.p0_r' {R : Type} (L N : Nat) (self31 : LT → Int → Option (Int)) (k : Int → Option R) (z4 : Int) (z5 : Int) : Option R :=
  k z5
def f31.p0_r {R : Type} (L N : Nat) (self31 : LT → Int → Option (Int)) (k : Int → Option R) (z4 : Int) (z5 : Int) : Option R :=
  f31.p0_r' L N self31 k z4 z5
def f31.b' {R : Type} (L N : Nat) (self31 : LT → Int → Option (Int)) (k : Int → Option R) (w0 : LT → Int → Int → Option R) (x0 : LT) (x1 : Int) : Option R :=
  w0 x0 x1 (0 : Int)
def f31.b {R : Type} (L N : Nat) (self31 : LT → Int → Option (Int)) (k : Int → Option R) (x0 : LT) (x1 : Int) : Option R :=
  f31.b' L N self31 k (fun s0 s1 s2 => f31.l0 L N self31 (fun z3 => f31.p0_e0 L N self31 k z3) (fun z4 z5 => f31.p0_r L N self31 k z4 z5) L s0 s1 s2) x0 x1
def f31 (L N : Nat) : Nat → LT → Int → Option (Int)
  | 0, _, _ => none
  | n + 1, x0, x1 => f31.b L N (f31 L N n) some x0 x1
def f31.ent (L N m : Nat) := entRo [(.sl (.st 1)), i64] (.one i64) fun d => f31 L N m d.1 d.2.1
def Φ31s (L N m : Nat) : Tells := (addT (Φ14 L N) 31 (f31.ent L N m))
noncomputable def E31 (L N m : Nat) : Env := { P := Tryd.prog, ty := tyOf, Φ := Φ31s L N m, inl := inlT, live := lives, liveX := livesX, L := L, dp := none, prom := promT, heal := healT, ren := renT }
noncomputable def f31.c0 : Code := loopAt 0 (codeOf Tryd.f31)
def f31.X0_e0 {R : Type} (κ : KX R) := fun z3 => κ (.exit 0) (f31.T0_e0 z3) (f31.H0_e0 z3)
def f31.X0_r {R : Type} (κ : KX R) := fun z4 z5 => κ .ret (f31.T0_r z4 z5) (f31.H0_r z4 z5)
def f31.R0 {R : Type} (rec : KT R) := fun s0 s1 s2 => rec (f31.T0 s0 s1 s2) (f31.H0 s0 s1 s2)
theorem f31.s0_eq {R : Type} (L N m : Nat) (κ : KX R) (rec : KT R) (s0 : LT) (s1 : Int) (s2 : Int) :
    evRd (E31 L N m) (evCallI (E31 L N m) 1 2000) 1000 31 40 0 f31.c0 κ rec (f31.T0 s0 s1 s2) (f31.H0 s0 s1 s2)
    = f31.s0 L N (f31 L N m) (f31.X0_e0 κ) (f31.X0_r κ) (f31.R0 rec) s0 s1 s2 := by kernel_rfl
theorem f31.l0_eq {R : Type} (L N m : Nat) (κ : KX R) : ∀ (n : Nat) (s0 : LT) (s1 : Int) (s2 : Int),
    evLp (E31 L N m) (evCallI (E31 L N m) 1 2000) 1000 31 40 0 f31.c0 κ n (f31.T0 s0 s1 s2) (f31.H0 s0 s1 s2)
    = f31.l0 L N (f31 L N m) (f31.X0_e0 κ) (f31.X0_r κ) n s0 s1 s2 := by
  intro n
  induction n with
  | zero => intros; rfl
  | succ n ih =>
    intro s0 s1 s2
    rw [evLp_succ, f31.s0_eq]
    delta f31.R0
    simp only [ih]
    rfl
theorem f31.p0_e0_eq {R : Type} (L N m : Nat) (κ : AV → Option R) (z3 : Int) :
    (contAt (E31 L N m) (evCallI (E31 L N m) 1 2000) 1000 31 40 0 (codeOf Tryd.f31) (finK (E31 L N m) 1000 Tryd.f31 (finC (.one i64) κ))) (.exit 0) (f31.T0_e0 z3) (f31.H0_e0 z3)
    = f31.p0_e0 L N (f31 L N m) (fun a0 => κ (.tv i64 a0)) z3 := by kernel_rfl
theorem f31.p0_r_eq {R : Type} (L N m : Nat) (κ : AV → Option R) (z4 : Int) (z5 : Int) :
    (contAt (E31 L N m) (evCallI (E31 L N m) 1 2000) 1000 31 40 0 (codeOf Tryd.f31) (finK (E31 L N m) 1000 Tryd.f31 (finC (.one i64) κ))) .ret (f31.T0_r z4 z5) (f31.H0_r z4 z5)
    = f31.p0_r L N (f31 L N m) (fun a0 => κ (.tv i64 a0)) z4 z5 := by kernel_rfl
theorem f31.b_eq {R : Type} (L N m : Nat) (κ : AV → Option R) (x0 : LT) (x1 : Int) :
    evBody (E31 L N m) (evCallI (E31 L N m) 1 2000) 1000 31 Tryd.f31 [(.tv (.sl (.st 1)) x0), (.tv i64 x1)] [] [] (finC (.one i64) κ)
    = f31.b L N (f31 L N m) (fun a0 => κ (.tv i64 a0)) x0 x1 := by
  refine Eq.trans (b := f31.b' L N (f31 L N m) (fun a0 => κ (.tv i64 a0)) (fun s0 s1 s2 => evLp (E31 L N m) (evCallI (E31 L N m) 1 2000) 1000 31 40 0 f31.c0 (contAt (E31 L N m) (evCallI (E31 L N m) 1 2000) 1000 31 40 0 (codeOf Tryd.f31) (finK (E31 L N m) 1000 Tryd.f31 (finC (.one i64) κ))) L (f31.T0 s0 s1 s2) (f31.H0 s0 s1 s2)) x0 x1) (by kernel_rfl) ?_
  unfold f31.b
  simp only [f31.l0_eq]
  delta f31.X0_e0 f31.X0_r
  simp only [f31.p0_e0_eq, f31.p0_r_eq]
theorem f31.ok (L N m : Nat) (hΦ : TellsOk Tryd.prog (Φ31s L N m)) : EntOk Tryd.prog 31 (f31.ent L N (m + 1)) := entRo_ok (E := (E31 L N m)) (dep := 1000) (f := Tryd.f31) (sound_of hΦ) okP (callI_sound (sound_of hΦ) okP 1 2000) rfl rfl fun d _ hy => (f31.b_eq L N m (unR (.one i64)) d.1 d.2.1).trans (Eq.trans (b := f31.b L N (f31 L N m) some d.1 d.2.1) (by kernel_rfl) hy)
theorem Φ31s_ok (L N : Nat) : ∀ m, TellsOk Tryd.prog (Φ31s L N m) := by
  intro m
  induction m with
  | zero => exact (addT_ok (Φ14_ok L N) (entRo_no fun _ => rfl))
  | succ m ih => exact (addT_ok (Φ14_ok L N) (f31.ok L N m ih))
def Φ31 (L N : Nat) : Tells := (addT (Φ14 L N) 31 (f31.ent L N N))
theorem Φ31_ok (L N : Nat) : TellsOk Tryd.prog (Φ31 L N) := Φ31s_ok L N N
def f15.b' {R : Type} (L N : Nat) (k : Int → Option R) (x0 : Tree) (x1 : Int) : Option R :=
  (f31 L N N x0.parts x1).bind fun y0 =>
  bif (decide (y0 < (0 : Int))) then
    k (-1 : Int)
  else k y0
def f15.b {R : Type} (L N : Nat) (k : Int → Option R) (x0 : Tree) (x1 : Int) : Option R :=
  f15.b' L N k x0 x1
def f15 (L N : Nat) (x0 : Tree) (x1 : Int) : Option (Int) := f15.b L N some x0 x1
def f15.ent (L N : Nat) := entRo [(.st 1), i64] (.one i64) fun d => f15 L N d.1 d.2.1
noncomputable def E15 (L N : Nat) : Env := { P := Tryd.prog, ty := tyOf, Φ := (Φ31 L N), inl := inlT, live := lives, liveX := livesX, L := L, dp := none, prom := promT, heal := healT, ren := renT }
theorem f15.b_eq {R : Type} (L N : Nat) (κ : AV → Option R) (x0 : Tree) (x1 : Int) :
    evBody (E15 L N) (evCallI (E15 L N) 1 2000) 1000 15 Tryd.f15 [(.tv (.st 1) x0), (.tv i64 x1)] [] [] (finC (.one i64) κ)
    = f15.b L N (fun a0 => κ (.tv i64 a0)) x0 x1 := by kernel_rfl
theorem f15.ok (L N : Nat) (hΦ : TellsOk Tryd.prog ((Φ31 L N))) : EntOk Tryd.prog 15 (f15.ent L N) := entRo_ok (E := (E15 L N)) (dep := 1000) (f := Tryd.f15) (sound_of hΦ) okP (callI_sound (sound_of hΦ) okP 1 2000) rfl rfl fun d _ hy => (f15.b_eq L N (unR (.one i64)) d.1 d.2.1).trans (Eq.trans (b := f15.b L N some d.1 d.2.1) (by kernel_rfl) hy)
def Φ15 (L N : Nat) : Tells := (addT (Φ31 L N) 15 (f15.ent L N))
theorem Φ15_ok (L N : Nat) : TellsOk Tryd.prog (Φ15 L N) := addT_ok (Φ31_ok L N) (f15.ok L N (Φ31_ok L N))
def f30.s0' {R : Type} (L N : Nat) (self30 : LT → Int → Option (Int × LT)) (n0 : Nat) (k0_e0 : Int → LT → Option R) (rec0 : Int → Int → LT → Option R) (s0 : Int) (s1 : Int) (s2 : LT) : Option R :=
  bif (decide (s1 < (s2.length : Int))) then
    bif (decide (0 ≤ s1) && decide (s1 < (s2.length : Int))) then
      bif (decide (0 ≤ s1) && decide (s1 < ((s2.set s1.toNat (Tree.mk s0 ((listAt s2 (Ty.dflt (.st 1)) s1.toNat).n) ((listAt s2 (Ty.dflt (.st 1)) s1.toNat).parts))).length : Int))) then
        bif (decide (0 ≤ s1) && decide (s1 < (((s2.set s1.toNat (Tree.mk s0 ((listAt s2 (Ty.dflt (.st 1)) s1.toNat).n) ((listAt s2 (Ty.dflt (.st 1)) s1.toNat).parts))).set s1.toNat (Tree.mk ((listAt (s2.set s1.toNat (Tree.mk s0 ((listAt s2 (Ty.dflt (.st 1)) s1.toNat).n) ((listAt s2 (Ty.dflt (.st 1)) s1.toNat).parts))) (Ty.dflt (.st 1)) s1.toNat).op) (wi (s0 + (1 : Int))) ((listAt (s2.set s1.toNat (Tree.mk s0 ((listAt s2 (Ty.dflt (.st 1)) s1.toNat).n) ((listAt s2 (Ty.dflt (.st 1)) s1.toNat).parts))) (Ty.dflt (.st 1)) s1.toNat).parts))).length : Int))) then
          (self30 ((listAt ((s2.set s1.toNat (Tree.mk s0 ((listAt s2 (Ty.dflt (.st 1)) s1.toNat).n) ((listAt s2 (Ty.dflt (.st 1)) s1.toNat).parts))).set s1.toNat (Tree.mk ((listAt (s2.set s1.toNat (Tree.mk s0 ((listAt s2 (Ty.dflt (.st 1)) s1.toNat).n) ((listAt s2 (Ty.dflt (.st 1)) s1.toNat).parts))) (Ty.dflt (.st 1)) s1.toNat).op) (wi (s0 + (1 : Int))) ((listAt (s2.set s1.toNat (Tree.mk s0 ((listAt s2 (Ty.dflt (.st 1)) s1.toNat).n) ((listAt s2 (Ty.dflt (.st 1)) s1.toNat).parts))) (Ty.dflt (.st 1)) s1.toNat).parts))) (Ty.dflt (.st 1)) s1.toNat).parts) (wi ((wi (s0 + (1 : Int))) + (1 : Int)))).bind fun y5 =>
          rec0 y5.1 (wi (s1 + (1 : Int))) (((s2.set s1.toNat (Tree.mk s0 ((listAt s2 (Ty.dflt (.st 1)) s1.toNat).n) ((listAt s2 (Ty.dflt (.st 1)) s1.toNat).parts))).set s1.toNat (Tree.mk ((listAt (s2.set s1.toNat (Tree.mk s0 ((listAt s2 (Ty.dflt (.st 1)) s1.toNat).n) ((listAt s2 (Ty.dflt (.st 1)) s1.toNat).parts))) (Ty.dflt (.st 1)) s1.toNat).op) (wi (s0 + (1 : Int))) ((listAt (s2.set s1.toNat (Tree.mk s0 ((listAt s2 (Ty.dflt (.st 1)) s1.toNat).n) ((listAt s2 (Ty.dflt (.st 1)) s1.toNat).parts))) (Ty.dflt (.st 1)) s1.toNat).parts))).set s1.toNat (Tree.mk ((listAt ((s2.set s1.toNat (Tree.mk s0 ((listAt s2 (Ty.dflt (.st 1)) s1.toNat).n) ((listAt s2 (Ty.dflt (.st 1)) s1.toNat).parts))).set s1.toNat (Tree.mk ((listAt (s2.set s1.toNat (Tree.mk s0 ((listAt s2 (Ty.dflt (.st 1)) s1.toNat).n) ((listAt s2 (Ty.dflt (.st 1)) s1.toNat).parts))) (Ty.dflt (.st 1)) s1.toNat).op) (wi (s0 + (1 : Int))) ((listAt (s2.set s1.toNat (Tree.mk s0 ((listAt s2 (Ty.dflt (.st 1)) s1.toNat).n) ((listAt s2 (Ty.dflt (.st 1)) s1.toNat).parts))) (Ty.dflt (.st 1)) s1.toNat).parts))) (Ty.dflt (.st 1)) s1.toNat).op) ((listAt ((s2.set s1.toNat (Tree.mk s0 ((listAt s2 (Ty.dflt (.st 1)) s1.toNat).n) ((listAt s2 (Ty.dflt (.st 1)) s1.toNat).parts))).set s1.toNat (Tree.mk ((listAt (s2.set s1.toNat (Tree.mk s0 ((listAt s2 (Ty.dflt (.st 1)) s1.toNat).n) ((listAt s2 (Ty.dflt (.st 1)) s1.toNat).parts))) (Ty.dflt (.st 1)) s1.toNat).op) (wi (s0 + (1 : Int))) ((listAt (s2.set s1.toNat (Tree.mk s0 ((listAt s2 (Ty.dflt (.st 1)) s1.toNat).n) ((listAt s2 (Ty.dflt (.st 1)) s1.toNat).parts))) (Ty.dflt (.st 1)) s1.toNat).parts))) (Ty.dflt (.st 1)) s1.toNat).n) y5.2))
        else none
      else none
    else none
  else k0_e0 s0 s2
def f30.s0 {R : Type} (L N : Nat) (self30 : LT → Int → Option (Int × LT)) (n0 : Nat) (k0_e0 : Int → LT → Option R) (rec0 : Int → Int → LT → Option R) (s0 : Int) (s1 : Int) (s2 : LT) : Option R :=
  f30.s0' L N self30 n0 k0_e0 rec0 s0 s1 s2
def f30.l0 {R : Type} (L N : Nat) (self30 : LT → Int → Option (Int × LT)) (n0 : Nat) (k0_e0 : Int → LT → Option R) : Nat → Int → Int → LT → Option R
  | 0, _, _, _ => none
  | n + 1, s0, s1, s2 => f30.s0 L N self30 n0 k0_e0 (f30.l0 L N self30 n0 k0_e0 n) s0 s1 s2
def f30.T0 (s0 : Int) (s1 : Int) (s2 : LT) : T := mkT 34 [(0, (.row 0)), (1, (.tv i64 s0)), (5, (.tv i64 s1))] ++ [.row 0]
def f30.H0 (s0 : Int) (s1 : Int) (s2 : LT) : H := [(0, (.deep 0 (.st 1) s2 none))]
def f30.T0_e0 (z3 : Int) (z4 : LT) : T := mkT 34 [(1, (.tv i64 z3))] ++ [.row 0]
def f30.H0_e0 (z3 : Int) (z4 : LT) : H := [(0, (.deep 0 (.st 1) z4 none))]
def f30.p0_e0' {R : Type} (L N : Nat) (self30 : LT → Int → Option (Int × LT)) (n0 : Nat) (k : Int → LT → Option R) (z3 : Int) (z4 : LT) : Option R :=
  bif (Nat.beq z4.length n0) then
    k z3 z4
  else none
def f30.p0_e0 {R : Type} (L N : Nat) (self30 : LT → Int → Option (Int × LT)) (n0 : Nat) (k : Int → LT → Option R) (z3 : Int) (z4 : LT) : Option R :=
  f30.p0_e0' L N self30 n0 k z3 z4
def f30.b' {R : Type} (L N : Nat) (self30 : LT → Int → Option (Int × LT)) (n0 : Nat) (k : Int → LT → Option R) (w0 : Int → Int → LT → Option R) (oo : List Tree) (x0 : Int) : Option R :=
  w0 x0 (0 : Int) oo
def f30.b {R : Type} (L N : Nat) (self30 : LT → Int → Option (Int × LT)) (n0 : Nat) (k : Int → LT → Option R) (oo : List Tree) (x0 : Int) : Option R :=
  f30.b' L N self30 n0 k (fun s0 s1 s2 => f30.l0 L N self30 n0 (fun z3 z4 => f30.p0_e0 L N self30 n0 k z3 z4) L s0 s1 s2) oo x0
def f30 (L N : Nat) : Nat → List Tree → Int → Option (Int × LT)
  | 0, _, _ => none
  | n + 1, oo, x0 => f30.b L N (f30 L N n) oo.length (fun a0 a1 => some (a0, a1)) oo x0
def f30.ent (L N m : Nat) (args : List AV) (vw : View) (site : Nat) : Ans := match ownD (some 0) 29 (.st 1) [i64] vw args with
  | some (o, xs, d, u) => ⟨Int × LT, f30 L N m xs d.1, fun y => ((.tv i64 y.1), u ++ [(o, some (mkO (some 0) 29 (.st 1) y.2))], [])⟩
  | none => Ans.no
def Φ30s (L N m : Nat) : Tells := (addT (Φ15 L N) 30 (f30.ent L N m))
noncomputable def E30 (L N m : Nat) : Env := { P := Tryd.prog, ty := tyOf, Φ := Φ30s L N m, inl := inlT, live := lives, liveX := livesX, L := L, dp := none, prom := promT, heal := healT, ren := renT }
noncomputable def f30.c0 : Code := loopAt 0 (codeOf Tryd.f30)
def f30.X0_e0 {R : Type} (κ : KX R) := fun z3 z4 => κ (.exit 0) (f30.T0_e0 z3 z4) (f30.H0_e0 z3 z4)
def f30.R0 {R : Type} (rec : KT R) := fun s0 s1 s2 => rec (f30.T0 s0 s1 s2) (f30.H0 s0 s1 s2)
theorem f30.s0_eq {R : Type} (L N m n0 : Nat) (κ : KX R) (rec : KT R) (s0 : Int) (s1 : Int) (s2 : LT) :
    evRd (E30 L N m) (evCallI (E30 L N m) 1 2000) 1000 30 34 0 f30.c0 κ rec (f30.T0 s0 s1 s2) (f30.H0 s0 s1 s2)
    = f30.s0 L N (f30 L N m) n0 (f30.X0_e0 κ) (f30.R0 rec) s0 s1 s2 := by kernel_rfl
theorem f30.l0_eq {R : Type} (L N m n0 : Nat) (κ : KX R) : ∀ (n : Nat) (s0 : Int) (s1 : Int) (s2 : LT),
    evLp (E30 L N m) (evCallI (E30 L N m) 1 2000) 1000 30 34 0 f30.c0 κ n (f30.T0 s0 s1 s2) (f30.H0 s0 s1 s2)
    = f30.l0 L N (f30 L N m) n0 (f30.X0_e0 κ) n s0 s1 s2 := by
  intro n
  induction n with
  | zero => intros; rfl
  | succ n ih =>
    intro s0 s1 s2
    rw [evLp_succ, f30.s0_eq L N m n0]
    delta f30.R0
    simp only [ih]
    rfl
theorem f30.p0_e0_eq {R : Type} (L N m n0 : Nat) (κ : AV → List Tree → Option R) (z3 : Int) (z4 : LT) :
    (contAt (E30 L N m) (evCallI (E30 L N m) 1 2000) 1000 30 34 0 (codeOf Tryd.f30) (finK (E30 L N m) 1000 Tryd.f30 (finO (.one i64) (some 0) 29 (.st 1) n0 κ))) (.exit 0) (f30.T0_e0 z3 z4) (f30.H0_e0 z3 z4)
    = f30.p0_e0 L N (f30 L N m) n0 (fun a0 a1 => κ (.tv i64 a0) a1) z3 z4 := by kernel_rfl
theorem f30.b_eq {R : Type} (L N m n0 : Nat) (κ : AV → List Tree → Option R) (oo : List Tree) (x0 : Int) :
    evBody (E30 L N m) (evCallI (E30 L N m) 1 2000) 1000 30 Tryd.f30 [(.row 0), (.tv i64 x0)] [.row 0] [(0, (.deep 0 (.st 1) oo none))] (finO (.one i64) (some 0) 29 (.st 1) n0 κ)
    = f30.b L N (f30 L N m) n0 (fun a0 a1 => κ (.tv i64 a0) a1) oo x0 := by
  refine Eq.trans (b := f30.b' L N (f30 L N m) n0 (fun a0 a1 => κ (.tv i64 a0) a1) (fun s0 s1 s2 => evLp (E30 L N m) (evCallI (E30 L N m) 1 2000) 1000 30 34 0 f30.c0 (contAt (E30 L N m) (evCallI (E30 L N m) 1 2000) 1000 30 34 0 (codeOf Tryd.f30) (finK (E30 L N m) 1000 Tryd.f30 (finO (.one i64) (some 0) 29 (.st 1) n0 κ))) L (f30.T0 s0 s1 s2) (f30.H0 s0 s1 s2)) oo x0) (by kernel_rfl) ?_
  unfold f30.b
  simp only [f30.l0_eq L N m n0]
  delta f30.X0_e0
  simp only [f30.p0_e0_eq L N m n0]
theorem f30.ok (L N m : Nat) (hΦ : TellsOk Tryd.prog (Φ30s L N m)) : EntOk Tryd.prog 30 (f30.ent L N (m + 1)) := by
  intro args vw site h
  unfold f30.ent
  split
  · rename_i o xs d u ha
    intro y hy hs
    obtain ⟨rest, rfl, ho, hr, hu⟩ := ownD_some ha
    refine call_own (y := y) (dep := 1000) (v' := (.tv i64 y.1)) (ys := y.2) (E := (E30 L N m)) (tr := [i64]) (q := (some 0)) (el := 29) (ty := (.st 1)) (rs := (.one i64)) (κ := (fun v d => (unR (.one i64) v).bind fun x => some (x, d))) (sound_of hΦ) okP (callI_sound (sound_of hΦ) okP 1 2000) (f := Tryd.f30) rfl hs ho hr hu ?_ (fun _ _ h => by obtain ⟨x, h1, h2⟩ := unR_bind h; obtain rfl := Option.some.inj h2; exact ⟨h1, rfl⟩) site
    exact (f30.b_eq L N m xs.length (fun v d => (unR (.one i64) v).bind fun x => some (x, d)) xs d.1).trans (Eq.trans (b := f30.b L N (f30 L N m) xs.length (fun a0 a1 => some (a0, a1)) xs d.1) (by kernel_rfl) hy)
  · intro y hy
    cases hy
theorem Φ30s_ok (L N : Nat) : ∀ m, TellsOk Tryd.prog (Φ30s L N m) := by
  intro m
  induction m with
  | zero => exact (addT_ok (Φ15_ok L N) (fun args vw site h => by unfold f30.ent; split <;> (intro y hy; cases hy)))
  | succ m ih => exact (addT_ok (Φ15_ok L N) (f30.ok L N m ih))
def Φ30 (L N : Nat) : Tells := (addT (Φ15 L N) 30 (f30.ent L N N))
theorem Φ30_ok (L N : Nat) : TellsOk Tryd.prog (Φ30 L N) := Φ30s_ok L N N
def f3.j0' {R : Type} (L N : Nat) (k : Bool → Option R) (v86 : Int) (v87 : Int) (v88 : Int) (v89 : LT) : Option R :=
  (f15 L N (Tree.mk v87 v88 v89) (1 : Int)).bind fun y90 =>
  bif (decide (y90 < (0 : Int))) then
    k false
  else bif (y90 != v86) then
    k false
  else k true
def f3.j1' {R : Type} (L N : Nat) (k : Bool → Option R) (v63 : Int) (v64 : LI) (v65 : Bool) (v66 : Int) (v67 : Int) (v68 : LT) (v69 : Int) (v70 : Int) (v71 : LT) (v72 : Int) (v73 : Int) (v74 : LT) : Option R :=
  (f30 L N N v74 (1 : Int)).bind fun y75 =>
  (f15 L N (Tree.mk v72 v73 y75.2) (1 : Int)).bind fun y76 =>
  bif (decide (y76 < (0 : Int))) then
    k false
  else bif (y76 != y75.1) then
    k false
  else (f8 L N N (Tree.mk v66 v67 v68)).bind fun y77 =>
  (f9 L N v64).bind fun y78 =>
  (f10 L N (Tree.mk y77.1 y77.2.1 y77.2.2) v63 y78).bind fun y79 =>
  (f11 L N N (Tree.mk y79.1 y79.2.1 y79.2.2.1) (Tree.mk v69 v70 v71)).bind fun y80 =>
  bif (!y80) then
    k false
  else bif (!(y79.2.2.2 == v65)) then
    k false
  else f3.j0' L N k y75.1 v72 v73 y75.2
def f3.j2' {R : Type} (L N : Nat) (k : Bool → Option R) (v26 : Int) (v27 : LI) (v28 : Bool) (v29 : Bool) (v30 : Int) (v31 : Int) (v32 : LT) (v33 : Int) (v34 : Int) (v35 : LT) (v36 : Int) (v37 : Int) (v38 : Int) (v39 : Int) (v40 : LT) (v41 : LI) (v42 : LT) : Option R :=
  (f8 L N N (Tree.mk v30 v31 v32)).bind fun y43 =>
  (f11 L N N (Tree.mk v36 v37 v40) (Tree.mk y43.1 y43.2.1 y43.2.2)).bind fun y44 =>
  bif (!y44) then
    k false
  else (f9 L N v27).bind fun y45 =>
  (f12 L N v41 y45).bind fun y46 =>
  bif (!y46) then
    k false
  else (f30 L N N v40 (1 : Int)).bind fun y47 =>
  (f14 L N v41 y47.1).bind fun y48 =>
  bif (decide (y48.1 < (0 : Int))) then
    k false
  else (f11 L N N (Tree.mk v38 v39 v42) (Tree.mk v33 v34 v35)).bind fun y49 =>
  bif (!y49) then
    k false
  else bif (!(v29 == v28)) then
    k false
  else f3.j1' L N k v26 v27 v28 v30 v31 v32 v33 v34 v35 v38 v39 v42
def f3.b' {R : Type} (L N : Nat) (k : Bool → Option R) (x0 : Tree) (x1 : Int) (x2 : LI) : Option R :=
  bif (decide ((x2.length : Int) > (1048576 : Int))) then
    k true
  else (f6 L N N (Tree.mk x0.op x0.n x0.parts) (1048576 : Int)).bind fun y0 =>
  bif (decide (y0 < (0 : Int))) then
    k true
  else (f8 L N N (Tree.mk x0.op x0.n x0.parts)).bind fun y1 =>
  (f9 L N x2).bind fun y2 =>
  (f7 L N (Tree.mk y1.1 y1.2.1 y1.2.2) x1 y2).bind fun y3 =>
  (f8 L N N (Tree.mk x0.op x0.n x0.parts)).bind fun y4 =>
  (f9 L N x2).bind fun y5 =>
  (f10 L N (Tree.mk y4.1 y4.2.1 y4.2.2) x1 y5).bind fun y6 =>
  (f11 L N N (Tree.mk y6.1 y6.2.1 y6.2.2.1) (Tree.mk y3.1.op y3.1.n y3.1.parts)).bind fun y7 =>
  bif (!y7) then
    k false
  else bif (!(y6.2.2.2 == y3.2)) then
    k false
  else f3.j2' L N k x1 x2 y3.2 y6.2.2.2 x0.op x0.n x0.parts y3.1.op y3.1.n y3.1.parts y4.1 y4.2.1 y6.1 y6.2.1 y4.2.2 y5 y6.2.2.1
def f3.b {R : Type} (L N : Nat) (k : Bool → Option R) (x0 : Tree) (x1 : Int) (x2 : LI) : Option R :=
  f3.b' L N k x0 x1 x2
def f3 (L N : Nat) (x0 : Tree) (x1 : Int) (x2 : LI) : Option (Bool) := f3.b L N some x0 x1 x2
def f3.ent (L N : Nat) := entRo [(.st 1), i64, (.sl i64)] (.one .bool) fun d => f3 L N d.1 d.2.1 d.2.2.1
noncomputable def E3 (L N : Nat) : Env := { P := Tryd.prog, ty := tyOf, Φ := (Φ30 L N), inl := inlT, live := lives, liveX := livesX, L := L, dp := none, prom := promT, heal := healT, ren := renT }
theorem f3.b_eq {R : Type} (L N : Nat) (κ : AV → Option R) (x0 : Tree) (x1 : Int) (x2 : LI) :
    evBody (E3 L N) (evCallI (E3 L N) 1 2000) 1000 3 Tryd.f3 [(.tv (.st 1) x0), (.tv i64 x1), (.tv (.sl i64) x2)] [] [] (finC (.one .bool) κ)
    = f3.b L N (fun a0 => κ (.tv .bool a0)) x0 x1 x2 := by kernel_rfl
theorem f3.ok (L N : Nat) (hΦ : TellsOk Tryd.prog ((Φ30 L N))) : EntOk Tryd.prog 3 (f3.ent L N) := entRo_ok (E := (E3 L N)) (dep := 1000) (f := Tryd.f3) (sound_of hΦ) okP (callI_sound (sound_of hΦ) okP 1 2000) rfl rfl fun d _ hy => (f3.b_eq L N (unR (.one .bool)) d.1 d.2.1 d.2.2.1).trans (Eq.trans (b := f3.b L N some d.1 d.2.1 d.2.2.1) (by kernel_rfl) hy)
def Φ3 (L N : Nat) : Tells := (addT (Φ30 L N) 3 (f3.ent L N))
theorem Φ3_ok (L N : Nat) : TellsOk Tryd.prog (Φ3 L N) := addT_ok (Φ30_ok L N) (f3.ok L N (Φ30_ok L N))
end Go.Proofs.YthidlhjjnaldhaaDoor.Ev
