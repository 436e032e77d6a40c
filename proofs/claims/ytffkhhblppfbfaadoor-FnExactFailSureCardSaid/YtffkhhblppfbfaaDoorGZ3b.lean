/- The seat's functions as plain functions, continued: made by program (wip/gen/gen.py). -/
import Derived.Test.YtffkhhblppfbfaaDoorGZ3a
namespace Go.Proofs.YtffkhhblppfbfaaDoor.Ev
open Go
set_option linter.unusedVariables false
set_option maxRecDepth 20000
def f27.p0_e0 {R : Type} (L N : Nat) (k : LI → Option R) (z5 : LI) : Option R :=
  f27.p0_e0' L N k z5
def f27.b' {R : Type} (L N : Nat) (k : LI → Option R) (w0 : LI → Int → Int → LLM → LI → Option R) (x0 : Graph) (x1 : LI) : Option R :=
  w0 x1 (x1.length : Int) (0 : Int) x0.moves ([] : LI)
def f27.b {R : Type} (L N : Nat) (k : LI → Option R) (x0 : Graph) (x1 : LI) : Option R :=
  f27.b' L N k (fun s0 s1 s2 s3 s4 => f27.l0 L N (fun z5 => f27.p0_e0 L N k z5) L s0 s1 s2 s3 s4) x0 x1
def f27 (L N : Nat) (x0 : Graph) (x1 : LI) : Option (LI) := f27.b L N some x0 x1
def f27.ent (L N : Nat) := entDa [(.st 2), (.sl i64)] (.one (.sl i64)) fun d => f27 L N d.1 d.2.1
noncomputable def E27 (L N : Nat) : Env := { P := Tryd.prog, ty := tyOf, Φ := (Φ24 L N), inl := inlT, live := lives, liveX := livesX, L := L, dp := none, prom := promT, heal := healT, ren := renT }
noncomputable def f27.c0 : Code := loopAt 0 (codeOf Tryd.f27)
noncomputable def f27.c1 : Code := loopAt 2 f27.c0
def f27.X1_e2 {R : Type} (κ : KX R) := fun z14 z15 z16 z17 z18 => κ (.exit 2) (f27.T1_e2 z14 z15 z16 z17 z18) (f27.H1_e2 z14 z15 z16 z17 z18)
def f27.R1 {R : Type} (rec : KT R) := fun s6 s7 s8 s9 s10 s11 s12 s13 => rec (f27.T1 s6 s7 s8 s9 s10 s11 s12 s13) (f27.H1 s6 s7 s8 s9 s10 s11 s12 s13)
theorem f27.s1_eq {R : Type} (L N : Nat) (κ : KX R) (rec : KT R) (s6 : LI) (s7 : Int) (s8 : Int) (s9 : LM) (s10 : Int) (s11 : Int) (s12 : LLM) (s13 : LI) :
    evRd (E27 L N) (evCallI (E27 L N) 1 2000) 1000 27 41 2 f27.c1 κ rec (f27.T1 s6 s7 s8 s9 s10 s11 s12 s13) (f27.H1 s6 s7 s8 s9 s10 s11 s12 s13)
    = f27.s1 L N (f27.X1_e2 κ) (f27.R1 rec) s6 s7 s8 s9 s10 s11 s12 s13 := by kernel_rfl
theorem f27.l1_eq {R : Type} (L N : Nat) (κ : KX R) : ∀ (n : Nat) (s6 : LI) (s7 : Int) (s8 : Int) (s9 : LM) (s10 : Int) (s11 : Int) (s12 : LLM) (s13 : LI),
    evLp (E27 L N) (evCallI (E27 L N) 1 2000) 1000 27 41 2 f27.c1 κ n (f27.T1 s6 s7 s8 s9 s10 s11 s12 s13) (f27.H1 s6 s7 s8 s9 s10 s11 s12 s13)
    = f27.l1 L N (f27.X1_e2 κ) n s6 s7 s8 s9 s10 s11 s12 s13 := by
  intro n
  induction n with
  | zero => intros; rfl
  | succ n ih =>
    intro s6 s7 s8 s9 s10 s11 s12 s13
    rw [evLp_succ, f27.s1_eq]
    delta f27.R1
    simp only [ih]
    rfl
def f27.X0_e0 {R : Type} (κ : KX R) := fun z5 => κ (.exit 0) (f27.T0_e0 z5) (f27.H0_e0 z5)
def f27.R0 {R : Type} (rec : KT R) := fun s0 s1 s2 s3 s4 => rec (f27.T0 s0 s1 s2 s3 s4) (f27.H0 s0 s1 s2 s3 s4)
theorem f27.p1_e2_eq {R : Type} (L N : Nat) (κ : KX R) (rec : KT R) (z14 : LI) (z15 : Int) (z16 : Int) (z17 : LLM) (z18 : LI) :
    (contAt (E27 L N) (evCallI (E27 L N) 1 2000) 1000 27 41 2 f27.c0 (rdK (E27 L N) 1000 27 41 0 κ rec)) (.exit 2) (f27.T1_e2 z14 z15 z16 z17 z18) (f27.H1_e2 z14 z15 z16 z17 z18)
    = f27.p1_e2 L N (f27.X0_e0 κ) (f27.R0 rec) z14 z15 z16 z17 z18 := by kernel_rfl
theorem f27.s0_eq {R : Type} (L N : Nat) (κ : KX R) (rec : KT R) (s0 : LI) (s1 : Int) (s2 : Int) (s3 : LLM) (s4 : LI) :
    evRd (E27 L N) (evCallI (E27 L N) 1 2000) 1000 27 41 0 f27.c0 κ rec (f27.T0 s0 s1 s2 s3 s4) (f27.H0 s0 s1 s2 s3 s4)
    = f27.s0 L N (f27.X0_e0 κ) (f27.R0 rec) s0 s1 s2 s3 s4 := by
  refine Eq.trans (b := f27.s0' L N (f27.X0_e0 κ) (f27.R0 rec) (fun s6 s7 s8 s9 s10 s11 s12 s13 => evLp (E27 L N) (evCallI (E27 L N) 1 2000) 1000 27 41 2 f27.c1 (contAt (E27 L N) (evCallI (E27 L N) 1 2000) 1000 27 41 2 f27.c0 (rdK (E27 L N) 1000 27 41 0 κ rec)) L (f27.T1 s6 s7 s8 s9 s10 s11 s12 s13) (f27.H1 s6 s7 s8 s9 s10 s11 s12 s13)) s0 s1 s2 s3 s4) (by kernel_rfl) ?_
  unfold f27.s0
  simp only [f27.l1_eq]
  delta f27.X1_e2
  simp only [f27.p1_e2_eq]
theorem f27.l0_eq {R : Type} (L N : Nat) (κ : KX R) : ∀ (n : Nat) (s0 : LI) (s1 : Int) (s2 : Int) (s3 : LLM) (s4 : LI),
    evLp (E27 L N) (evCallI (E27 L N) 1 2000) 1000 27 41 0 f27.c0 κ n (f27.T0 s0 s1 s2 s3 s4) (f27.H0 s0 s1 s2 s3 s4)
    = f27.l0 L N (f27.X0_e0 κ) n s0 s1 s2 s3 s4 := by
  intro n
  induction n with
  | zero => intros; rfl
  | succ n ih =>
    intro s0 s1 s2 s3 s4
    rw [evLp_succ, f27.s0_eq]
    delta f27.R0
    simp only [ih]
    rfl
theorem f27.p0_e0_eq {R : Type} (L N : Nat) (κ : AV → Option R) (z5 : LI) :
    (contAt (E27 L N) (evCallI (E27 L N) 1 2000) 1000 27 41 0 (codeOf Tryd.f27) (finK (E27 L N) 1000 Tryd.f27 (finC (.one (.sl i64)) κ))) (.exit 0) (f27.T0_e0 z5) (f27.H0_e0 z5)
    = f27.p0_e0 L N (fun a0 => κ (.tv (.sl i64) a0)) z5 := by kernel_rfl
theorem f27.b_eq {R : Type} (L N : Nat) (κ : AV → Option R) (x0 : Graph) (x1 : LI) :
    evBody (E27 L N) (evCallI (E27 L N) 1 2000) 1000 27 Tryd.f27 [(.tv (.st 2) x0), (.tv (.sl i64) x1)] [] [] (finC (.one (.sl i64)) κ)
    = f27.b L N (fun a0 => κ (.tv (.sl i64) a0)) x0 x1 := by
  refine Eq.trans (b := f27.b' L N (fun a0 => κ (.tv (.sl i64) a0)) (fun s0 s1 s2 s3 s4 => evLp (E27 L N) (evCallI (E27 L N) 1 2000) 1000 27 41 0 f27.c0 (contAt (E27 L N) (evCallI (E27 L N) 1 2000) 1000 27 41 0 (codeOf Tryd.f27) (finK (E27 L N) 1000 Tryd.f27 (finC (.one (.sl i64)) κ))) L (f27.T0 s0 s1 s2 s3 s4) (f27.H0 s0 s1 s2 s3 s4)) x0 x1) (by kernel_rfl) ?_
  unfold f27.b
  simp only [f27.l0_eq]
  delta f27.X0_e0
  simp only [f27.p0_e0_eq]
theorem f27.ok (L N : Nat) (hΦ : TellsOk Tryd.prog ((Φ24 L N))) : EntOk Tryd.prog 27 (f27.ent L N) := entDa_ok (E := (E27 L N)) (dep := 1000) (f := Tryd.f27) (sound_of hΦ) okP (callI_sound (sound_of hΦ) okP 1 2000) rfl fun d _ hy => (f27.b_eq L N (unR (.one (.sl i64))) d.1 d.2.1).trans (Eq.trans (b := f27.b L N some d.1 d.2.1) (by kernel_rfl) hy)
def Φ27 (L N : Nat) : Tells := (addT (Φ24 L N) 27 (f27.ent L N))
theorem Φ27_ok (L N : Nat) : TellsOk Tryd.prog (Φ27 L N) := addT_ok (Φ24_ok L N) (f27.ok L N (Φ24_ok L N))
def f64.s0' {R : Type} (L N : Nat) (k0_e0 : LLM → LB → LI → Option R) (rec0 : LI → Int → Int → LLM → LB → LI → Option R) (s0 : LI) (s1 : Int) (s2 : Int) (s3 : LLM) (s4 : LB) (s5 : LI) : Option R :=
  bif (decide (s2 < s1)) then
    bif (decide (0 ≤ s2) && decide (s2 < (s0.length : Int))) then
      bif (decide (0 ≤ (listAt s0 (0 : Int) s2.toNat)) && decide ((listAt s0 (0 : Int) s2.toNat) < (s4.length : Int))) then
        bif (!(listAt s4 false (listAt s0 (0 : Int) s2.toNat).toNat)) then
          bif (decide (0 ≤ (listAt s0 (0 : Int) s2.toNat)) && decide ((listAt s0 (0 : Int) s2.toNat) < (s4.length : Int))) then
            bif (decide (s5.length + ([(listAt s0 (0 : Int) s2.toNat)] : LI).length ≤ lim)) then
              rec0 s0 s1 (wi (s2 + (1 : Int))) s3 (s4.set ((listAt s0 (0 : Int) s2.toNat).toNat) true) (s5 ++ ([(listAt s0 (0 : Int) s2.toNat)] : LI))
            else none
          else none
        else rec0 s0 s1 (wi (s2 + (1 : Int))) s3 s4 s5
      else none
    else none
  else k0_e0 s3 s4 s5
def f64.s0 {R : Type} (L N : Nat) (k0_e0 : LLM → LB → LI → Option R) (rec0 : LI → Int → Int → LLM → LB → LI → Option R) (s0 : LI) (s1 : Int) (s2 : Int) (s3 : LLM) (s4 : LB) (s5 : LI) : Option R :=
  f64.s0' L N k0_e0 rec0 s0 s1 s2 s3 s4 s5
def f64.l0 {R : Type} (L N : Nat) (k0_e0 : LLM → LB → LI → Option R) : Nat → LI → Int → Int → LLM → LB → LI → Option R
  | 0, _, _, _, _, _, _ => none
  | n + 1, s0, s1, s2, s3, s4, s5 => f64.s0 L N k0_e0 (f64.l0 L N k0_e0 n) s0 s1 s2 s3 s4 s5
def f64.T0 (s0 : LI) (s1 : Int) (s2 : Int) (s3 : LLM) (s4 : LB) (s5 : LI) : T := mkT 79 [(2, (.ptr 1002 0)), (5, (.row 1015)), (6, (.row 1016)), (17, (.tv (.sl i64) s0)), (18, (.tv i64 s1)), (19, (.tv i64 s2))]
def f64.H0 (s0 : LI) (s1 : Int) (s2 : Int) (s3 : LLM) (s4 : LB) (s5 : LI) : H := [(1002, (.box [(.tv (.sl (.sl (.st 0))) s3)])), (1015, (.row 4 .bool s4)), (1016, (.row 3 i64 s5))]
def f64.T0_e0 (z6 : LLM) (z7 : LB) (z8 : LI) : T := mkT 79 [(2, (.ptr 1002 0)), (5, (.row 1015)), (6, (.row 1016))]
def f64.H0_e0 (z6 : LLM) (z7 : LB) (z8 : LI) : H := [(1002, (.box [(.tv (.sl (.sl (.st 0))) z6)])), (1015, (.row 4 .bool z7)), (1016, (.row 3 i64 z8))]
def f64.j0' {R : Type} (L N : Nat) (k2_e4 : Int → LLM → LB → LI → Option R) (rec2 : Int → LM → Int → Int → LLM → LB → LI → Option R) (v31 : Int) (v32 : LM) (v33 : Int) (v34 : Int) (v35 : Bool) (v36 : LLM) (v37 : Int) (v38 : Int) (v39 : LB) (v40 : LI) : Option R :=
  bif v35 then
    bif (decide (0 ≤ v38) && decide (v38 < (v39.length : Int))) then
      bif (decide (v40.length + ([v38] : LI).length ≤ lim)) then
        rec2 v31 v32 v33 (wi (v34 + (1 : Int))) v36 (v39.set v38.toNat true) (v40 ++ ([v38] : LI))
      else none
    else none
  else rec2 v31 v32 v33 (wi (v34 + (1 : Int))) v36 v39 v40
def f64.s2' {R : Type} (L N : Nat) (k2_e4 : Int → LLM → LB → LI → Option R) (rec2 : Int → LM → Int → Int → LLM → LB → LI → Option R) (s20 : Int) (s21 : LM) (s22 : Int) (s23 : Int) (s24 : LLM) (s25 : LB) (s26 : LI) : Option R :=
  bif (decide (s23 < s22)) then
    bif (decide (0 ≤ s23) && decide (s23 < (s21.length : Int))) then
      bif ((listAt s21 (Ty.dflt (.st 0)) s23.toNat).act == (0 : Int)) then
        bif (decide (0 ≤ (listAt s21 (Ty.dflt (.st 0)) s23.toNat).to) && decide ((listAt s21 (Ty.dflt (.st 0)) s23.toNat).to < (s25.length : Int))) then
          f64.j0' L N k2_e4 rec2 s20 s21 s22 s23 (!(listAt s25 false ((listAt s21 (Ty.dflt (.st 0)) s23.toNat).to).toNat)) s24 ((listAt s21 (Ty.dflt (.st 0)) s23.toNat).act) ((listAt s21 (Ty.dflt (.st 0)) s23.toNat).to) s25 s26
        else none
      else f64.j0' L N k2_e4 rec2 s20 s21 s22 s23 false s24 ((listAt s21 (Ty.dflt (.st 0)) s23.toNat).act) ((listAt s21 (Ty.dflt (.st 0)) s23.toNat).to) s25 s26
    else none
  else k2_e4 s20 s24 s25 s26
def f64.s2 {R : Type} (L N : Nat) (k2_e4 : Int → LLM → LB → LI → Option R) (rec2 : Int → LM → Int → Int → LLM → LB → LI → Option R) (s20 : Int) (s21 : LM) (s22 : Int) (s23 : Int) (s24 : LLM) (s25 : LB) (s26 : LI) : Option R :=
  f64.s2' L N k2_e4 rec2 s20 s21 s22 s23 s24 s25 s26
def f64.l2 {R : Type} (L N : Nat) (k2_e4 : Int → LLM → LB → LI → Option R) : Nat → Int → LM → Int → Int → LLM → LB → LI → Option R
  | 0, _, _, _, _, _, _, _ => none
  | n + 1, s20, s21, s22, s23, s24, s25, s26 => f64.s2 L N k2_e4 (f64.l2 L N k2_e4 n) s20 s21 s22 s23 s24 s25 s26
def f64.T2 (s20 : Int) (s21 : LM) (s22 : Int) (s23 : Int) (s24 : LLM) (s25 : LB) (s26 : LI) : T := mkT 79 [(2, (.ptr 1002 0)), (5, (.row 1015)), (6, (.row 1016)), (9, (.tv i64 s20)), (49, (.tv (.sl (.st 0)) s21)), (50, (.tv i64 s22)), (51, (.tv i64 s23))]
def f64.H2 (s20 : Int) (s21 : LM) (s22 : Int) (s23 : Int) (s24 : LLM) (s25 : LB) (s26 : LI) : H := [(1002, (.box [(.tv (.sl (.sl (.st 0))) s24)])), (1015, (.row 4 .bool s25)), (1016, (.row 3 i64 s26))]
def f64.T2_e4 (z27 : Int) (z28 : LLM) (z29 : LB) (z30 : LI) : T := mkT 79 [(2, (.ptr 1002 0)), (5, (.row 1015)), (6, (.row 1016)), (9, (.tv i64 z27))]
def f64.H2_e4 (z27 : Int) (z28 : LLM) (z29 : LB) (z30 : LI) : H := [(1002, (.box [(.tv (.sl (.sl (.st 0))) z28)])), (1015, (.row 4 .bool z29)), (1016, (.row 3 i64 z30))]
def f64.p2_e4' {R : Type} (L N : Nat) (k1_e2 : LI → Option R) (rec1 : Int → LLM → LB → LI → Option R) (z27 : Int) (z28 : LLM) (z29 : LB) (z30 : LI) : Option R :=
  rec1 (wi (z27 + (1 : Int))) z28 z29 z30
def f64.p2_e4 {R : Type} (L N : Nat) (k1_e2 : LI → Option R) (rec1 : Int → LLM → LB → LI → Option R) (z27 : Int) (z28 : LLM) (z29 : LB) (z30 : LI) : Option R :=
  f64.p2_e4' L N k1_e2 rec1 z27 z28 z29 z30
def f64.s1' {R : Type} (L N : Nat) (k1_e2 : LI → Option R) (rec1 : Int → LLM → LB → LI → Option R) (w2 : Int → LM → Int → Int → LLM → LB → LI → Option R) (s15 : Int) (s16 : LLM) (s17 : LB) (s18 : LI) : Option R :=
  bif (decide (s15 < (s18.length : Int))) then
    bif (decide (0 ≤ s15) && decide (s15 < (s18.length : Int))) then
      bif (decide (0 ≤ (listAt s18 (0 : Int) s15.toNat)) && decide ((listAt s18 (0 : Int) s15.toNat) < (s16.length : Int))) then
        w2 s15 (listAt s16 [] (listAt s18 (0 : Int) s15.toNat).toNat) ((listAt s16 [] (listAt s18 (0 : Int) s15.toNat).toNat).length : Int) (0 : Int) s16 s17 s18
      else none
    else none
  else k1_e2 s18
def f64.s1 {R : Type} (L N : Nat) (k1_e2 : LI → Option R) (rec1 : Int → LLM → LB → LI → Option R) (s15 : Int) (s16 : LLM) (s17 : LB) (s18 : LI) : Option R :=
  f64.s1' L N k1_e2 rec1 (fun s20 s21 s22 s23 s24 s25 s26 => f64.l2 L N (fun z27 z28 z29 z30 => f64.p2_e4 L N k1_e2 rec1 z27 z28 z29 z30) L s20 s21 s22 s23 s24 s25 s26) s15 s16 s17 s18
def f64.l1 {R : Type} (L N : Nat) (k1_e2 : LI → Option R) : Nat → Int → LLM → LB → LI → Option R
  | 0, _, _, _, _ => none
  | n + 1, s15, s16, s17, s18 => f64.s1 L N k1_e2 (f64.l1 L N k1_e2 n) s15 s16 s17 s18
def f64.T1 (s15 : Int) (s16 : LLM) (s17 : LB) (s18 : LI) : T := mkT 79 [(2, (.ptr 1002 0)), (5, (.row 1015)), (6, (.row 1016)), (9, (.tv i64 s15))]
def f64.H1 (s15 : Int) (s16 : LLM) (s17 : LB) (s18 : LI) : H := [(1002, (.box [(.tv (.sl (.sl (.st 0))) s16)])), (1015, (.row 4 .bool s17)), (1016, (.row 3 i64 s18))]
def f64.T1_e2 (z19 : LI) : T := mkT 79 [(6, (.row 1016))]
def f64.H1_e2 (z19 : LI) : H := [(1016, (.row 3 i64 z19))]
def f64.p1_e2' {R : Type} (L N : Nat) (k : LI → Option R) (z19 : LI) : Option R :=
  ((fsort z19)).bind fun y48 =>
  k (sortI z19)
def f64.p1_e2 {R : Type} (L N : Nat) (k : LI → Option R) (z19 : LI) : Option R :=
  f64.p1_e2' L N k z19
def f64.p0_e0' {R : Type} (L N : Nat) (k : LI → Option R) (w1 : Int → LLM → LB → LI → Option R) (z6 : LLM) (z7 : LB) (z8 : LI) : Option R :=
  w1 (0 : Int) z6 z7 z8
def f64.p0_e0 {R : Type} (L N : Nat) (k : LI → Option R) (z6 : LLM) (z7 : LB) (z8 : LI) : Option R :=
  f64.p0_e0' L N k (fun s15 s16 s17 s18 => f64.l1 L N (fun z19 => f64.p1_e2 L N k z19) L s15 s16 s17 s18) z6 z7 z8
def f64.b' {R : Type} (L N : Nat) (k : LI → Option R) (w0 : LI → Int → Int → LLM → LB → LI → Option R) (x0 : Graph) (x1 : LI) : Option R :=
  bif (decide (0 ≤ (x0.moves.length : Int)) && decide ((x0.moves.length : Int) ≤ (lim : Int))) then
    w0 x1 (x1.length : Int) (0 : Int) x0.moves (List.replicate (x0.moves.length : Int).toNat false) ([] : LI)
  else none
def f64.b {R : Type} (L N : Nat) (k : LI → Option R) (x0 : Graph) (x1 : LI) : Option R :=
  f64.b' L N k (fun s0 s1 s2 s3 s4 s5 => f64.l0 L N (fun z6 z7 z8 => f64.p0_e0 L N k z6 z7 z8) L s0 s1 s2 s3 s4 s5) x0 x1
def f64 (L N : Nat) (x0 : Graph) (x1 : LI) : Option (LI) := f64.b L N some x0 x1
def f64.ent (L N : Nat) (args : List AV) (vw : View) (site : Nat) : Ans := match roD [(.st 2), (.sl i64)] vw args with
  | some d => ⟨LI, f64 L N d.1 d.2.1, fun y => (RN.av site .row (), [(site, some (mkO none 3 i64 y))], [])⟩
  | none => Ans.no
noncomputable def E64 (L N : Nat) : Env := { P := Tryd.prog, ty := tyOf, Φ := (Φ27 L N), inl := inlT, live := lives, liveX := livesX, L := L, dp := none, prom := promT, heal := healT, ren := renT }
noncomputable def f64.c0 : Code := loopAt 0 (codeOf Tryd.f64)
def f64.X0_e0 {R : Type} (κ : KX R) := fun z6 z7 z8 => κ (.exit 0) (f64.T0_e0 z6 z7 z8) (f64.H0_e0 z6 z7 z8)
def f64.R0 {R : Type} (rec : KT R) := fun s0 s1 s2 s3 s4 s5 => rec (f64.T0 s0 s1 s2 s3 s4 s5) (f64.H0 s0 s1 s2 s3 s4 s5)
theorem f64.s0_eq {R : Type} (L N : Nat) (κ : KX R) (rec : KT R) (s0 : LI) (s1 : Int) (s2 : Int) (s3 : LLM) (s4 : LB) (s5 : LI) :
    evRd (E64 L N) (evCallI (E64 L N) 1 2000) 1000 64 79 0 f64.c0 κ rec (f64.T0 s0 s1 s2 s3 s4 s5) (f64.H0 s0 s1 s2 s3 s4 s5)
    = f64.s0 L N (f64.X0_e0 κ) (f64.R0 rec) s0 s1 s2 s3 s4 s5 := by kernel_rfl
theorem f64.l0_eq {R : Type} (L N : Nat) (κ : KX R) : ∀ (n : Nat) (s0 : LI) (s1 : Int) (s2 : Int) (s3 : LLM) (s4 : LB) (s5 : LI),
    evLp (E64 L N) (evCallI (E64 L N) 1 2000) 1000 64 79 0 f64.c0 κ n (f64.T0 s0 s1 s2 s3 s4 s5) (f64.H0 s0 s1 s2 s3 s4 s5)
    = f64.l0 L N (f64.X0_e0 κ) n s0 s1 s2 s3 s4 s5 := by
  intro n
  induction n with
  | zero => intros; rfl
  | succ n ih =>
    intro s0 s1 s2 s3 s4 s5
    rw [evLp_succ, f64.s0_eq]
    delta f64.R0
    simp only [ih]
    rfl
noncomputable def f64.c1 : Code := loopAt 2 (codeOf Tryd.f64)
noncomputable def f64.c2 : Code := loopAt 4 f64.c1
def f64.X2_e4 {R : Type} (κ : KX R) := fun z27 z28 z29 z30 => κ (.exit 4) (f64.T2_e4 z27 z28 z29 z30) (f64.H2_e4 z27 z28 z29 z30)
def f64.R2 {R : Type} (rec : KT R) := fun s20 s21 s22 s23 s24 s25 s26 => rec (f64.T2 s20 s21 s22 s23 s24 s25 s26) (f64.H2 s20 s21 s22 s23 s24 s25 s26)
theorem f64.s2_eq {R : Type} (L N : Nat) (κ : KX R) (rec : KT R) (s20 : Int) (s21 : LM) (s22 : Int) (s23 : Int) (s24 : LLM) (s25 : LB) (s26 : LI) :
    evRd (E64 L N) (evCallI (E64 L N) 1 2000) 1000 64 79 4 f64.c2 κ rec (f64.T2 s20 s21 s22 s23 s24 s25 s26) (f64.H2 s20 s21 s22 s23 s24 s25 s26)
    = f64.s2 L N (f64.X2_e4 κ) (f64.R2 rec) s20 s21 s22 s23 s24 s25 s26 := by kernel_rfl
theorem f64.l2_eq {R : Type} (L N : Nat) (κ : KX R) : ∀ (n : Nat) (s20 : Int) (s21 : LM) (s22 : Int) (s23 : Int) (s24 : LLM) (s25 : LB) (s26 : LI),
    evLp (E64 L N) (evCallI (E64 L N) 1 2000) 1000 64 79 4 f64.c2 κ n (f64.T2 s20 s21 s22 s23 s24 s25 s26) (f64.H2 s20 s21 s22 s23 s24 s25 s26)
    = f64.l2 L N (f64.X2_e4 κ) n s20 s21 s22 s23 s24 s25 s26 := by
  intro n
  induction n with
  | zero => intros; rfl
  | succ n ih =>
    intro s20 s21 s22 s23 s24 s25 s26
    rw [evLp_succ, f64.s2_eq]
    delta f64.R2
    simp only [ih]
    rfl
def f64.X1_e2 {R : Type} (κ : KX R) := fun z19 => κ (.exit 2) (f64.T1_e2 z19) (f64.H1_e2 z19)
def f64.R1 {R : Type} (rec : KT R) := fun s15 s16 s17 s18 => rec (f64.T1 s15 s16 s17 s18) (f64.H1 s15 s16 s17 s18)
theorem f64.p2_e4_eq {R : Type} (L N : Nat) (κ : KX R) (rec : KT R) (z27 : Int) (z28 : LLM) (z29 : LB) (z30 : LI) :
    (contAt (E64 L N) (evCallI (E64 L N) 1 2000) 1000 64 79 4 f64.c1 (rdK (E64 L N) 1000 64 79 2 κ rec)) (.exit 4) (f64.T2_e4 z27 z28 z29 z30) (f64.H2_e4 z27 z28 z29 z30)
    = f64.p2_e4 L N (f64.X1_e2 κ) (f64.R1 rec) z27 z28 z29 z30 := by kernel_rfl
theorem f64.s1_eq {R : Type} (L N : Nat) (κ : KX R) (rec : KT R) (s15 : Int) (s16 : LLM) (s17 : LB) (s18 : LI) :
    evRd (E64 L N) (evCallI (E64 L N) 1 2000) 1000 64 79 2 f64.c1 κ rec (f64.T1 s15 s16 s17 s18) (f64.H1 s15 s16 s17 s18)
    = f64.s1 L N (f64.X1_e2 κ) (f64.R1 rec) s15 s16 s17 s18 := by
  refine Eq.trans (b := f64.s1' L N (f64.X1_e2 κ) (f64.R1 rec) (fun s20 s21 s22 s23 s24 s25 s26 => evLp (E64 L N) (evCallI (E64 L N) 1 2000) 1000 64 79 4 f64.c2 (contAt (E64 L N) (evCallI (E64 L N) 1 2000) 1000 64 79 4 f64.c1 (rdK (E64 L N) 1000 64 79 2 κ rec)) L (f64.T2 s20 s21 s22 s23 s24 s25 s26) (f64.H2 s20 s21 s22 s23 s24 s25 s26)) s15 s16 s17 s18) (by kernel_rfl) ?_
  unfold f64.s1
  simp only [f64.l2_eq]
  delta f64.X2_e4
  simp only [f64.p2_e4_eq]
theorem f64.l1_eq {R : Type} (L N : Nat) (κ : KX R) : ∀ (n : Nat) (s15 : Int) (s16 : LLM) (s17 : LB) (s18 : LI),
    evLp (E64 L N) (evCallI (E64 L N) 1 2000) 1000 64 79 2 f64.c1 κ n (f64.T1 s15 s16 s17 s18) (f64.H1 s15 s16 s17 s18)
    = f64.l1 L N (f64.X1_e2 κ) n s15 s16 s17 s18 := by
  intro n
  induction n with
  | zero => intros; rfl
  | succ n ih =>
    intro s15 s16 s17 s18
    rw [evLp_succ, f64.s1_eq]
    delta f64.R1
    simp only [ih]
    rfl
theorem f64.p1_e2_eq {R : Type} (L N : Nat) (κ : RN.Den .row → List Int → Option R) (z19 : LI) :
    (contAt (E64 L N) (evCallI (E64 L N) 1 2000) 1000 64 79 2 (codeOf Tryd.f64) (finK (E64 L N) 1000 Tryd.f64 (finN .row none 3 i64 κ))) (.exit 2) (f64.T1_e2 z19) (f64.H1_e2 z19)
    = f64.p1_e2 L N (fun a0 => κ () a0) z19 := by kernel_rfl
theorem f64.p0_e0_eq {R : Type} (L N : Nat) (κ : RN.Den .row → List Int → Option R) (z6 : LLM) (z7 : LB) (z8 : LI) :
    (contAt (E64 L N) (evCallI (E64 L N) 1 2000) 1000 64 79 0 (codeOf Tryd.f64) (finK (E64 L N) 1000 Tryd.f64 (finN .row none 3 i64 κ))) (.exit 0) (f64.T0_e0 z6 z7 z8) (f64.H0_e0 z6 z7 z8)
    = f64.p0_e0 L N (fun a0 => κ () a0) z6 z7 z8 := by
  refine Eq.trans (b := f64.p0_e0' L N (fun a0 => κ () a0) (fun s15 s16 s17 s18 => evLp (E64 L N) (evCallI (E64 L N) 1 2000) 1000 64 79 2 f64.c1 (contAt (E64 L N) (evCallI (E64 L N) 1 2000) 1000 64 79 2 (codeOf Tryd.f64) (finK (E64 L N) 1000 Tryd.f64 (finN .row none 3 i64 κ))) L (f64.T1 s15 s16 s17 s18) (f64.H1 s15 s16 s17 s18)) z6 z7 z8) (by kernel_rfl) ?_
  unfold f64.p0_e0
  simp only [f64.l1_eq]
  delta f64.X1_e2
  simp only [f64.p1_e2_eq]
theorem f64.b_eq {R : Type} (L N : Nat) (κ : RN.Den .row → List Int → Option R) (x0 : Graph) (x1 : LI) :
    evBody (E64 L N) (evCallI (E64 L N) 1 2000) 1000 64 Tryd.f64 [(.tv (.st 2) x0), (.tv (.sl i64) x1)] [] [] (finN .row none 3 i64 κ)
    = f64.b L N (fun a0 => κ () a0) x0 x1 := by
  refine Eq.trans (b := f64.b' L N (fun a0 => κ () a0) (fun s0 s1 s2 s3 s4 s5 => evLp (E64 L N) (evCallI (E64 L N) 1 2000) 1000 64 79 0 f64.c0 (contAt (E64 L N) (evCallI (E64 L N) 1 2000) 1000 64 79 0 (codeOf Tryd.f64) (finK (E64 L N) 1000 Tryd.f64 (finN .row none 3 i64 κ))) L (f64.T0 s0 s1 s2 s3 s4 s5) (f64.H0 s0 s1 s2 s3 s4 s5)) x0 x1) (by kernel_rfl) ?_
  unfold f64.b
  simp only [f64.l0_eq]
  delta f64.X0_e0
  simp only [f64.p0_e0_eq]
theorem f64.ok (L N : Nat) (hΦ : TellsOk Tryd.prog ((Φ27 L N))) : EntOk Tryd.prog 64 (f64.ent L N) := by
  intro args vw site h
  unfold f64.ent
  split
  · rename_i d ha
    intro y hy hs
    refine call_ron (y := y) (dep := 1000) (E := (E64 L N)) (ts := [(.st 2), (.sl i64)]) (rn := .row) (q := none) (el := 3) (ty := i64) (d1 := ()) (xs := y) (κ := (fun d xs => some xs)) (sound_of hΦ) okP (callI_sound (sound_of hΦ) okP 1 2000) (f := Tryd.f64) rfl hs ha ?_ (fun _ _ h => by obtain rfl := Option.some.inj h; exact ⟨rfl, rfl⟩) rfl site
    exact (f64.b_eq L N (fun d xs => some xs) d.1 d.2.1).trans (Eq.trans (b := f64.b L N some d.1 d.2.1) (by kernel_rfl) hy)
  · intro y hy
    cases hy
def Φ64 (L N : Nat) : Tells := (addT (Φ27 L N) 64 (f64.ent L N))
theorem Φ64_ok (L N : Nat) : TellsOk Tryd.prog (Φ64 L N) := addT_ok (Φ27_ok L N) (f64.ok L N (Φ27_ok L N))
def f36.s1' {R : Type} (L N : Nat) (k1_e2 : Int → LI → Int → Int → LLM → LI → Option R) (rec1 : Int → LI → Int → Int → LM → Int → Int → LLM → LI → Option R) (s8 : Int) (s9 : LI) (s10 : Int) (s11 : Int) (s12 : LM) (s13 : Int) (s14 : Int) (s15 : LLM) (s16 : LI) : Option R :=
  bif (decide (s14 < s13)) then
    bif (decide (0 ≤ s14) && decide (s14 < (s12.length : Int))) then
      bif ((listAt s12 (Ty.dflt (.st 0)) s14.toNat).act == s8) then
        bif (decide (s16.length + ([(listAt s12 (Ty.dflt (.st 0)) s14.toNat).to] : LI).length ≤ lim)) then
          rec1 s8 s9 s10 s11 s12 s13 (wi (s14 + (1 : Int))) s15 (s16 ++ ([(listAt s12 (Ty.dflt (.st 0)) s14.toNat).to] : LI))
        else none
      else rec1 s8 s9 s10 s11 s12 s13 (wi (s14 + (1 : Int))) s15 s16
    else none
  else k1_e2 s8 s9 s10 s11 s15 s16
def f36.s1 {R : Type} (L N : Nat) (k1_e2 : Int → LI → Int → Int → LLM → LI → Option R) (rec1 : Int → LI → Int → Int → LM → Int → Int → LLM → LI → Option R) (s8 : Int) (s9 : LI) (s10 : Int) (s11 : Int) (s12 : LM) (s13 : Int) (s14 : Int) (s15 : LLM) (s16 : LI) : Option R :=
  f36.s1' L N k1_e2 rec1 s8 s9 s10 s11 s12 s13 s14 s15 s16
def f36.l1 {R : Type} (L N : Nat) (k1_e2 : Int → LI → Int → Int → LLM → LI → Option R) : Nat → Int → LI → Int → Int → LM → Int → Int → LLM → LI → Option R
  | 0, _, _, _, _, _, _, _, _, _ => none
  | n + 1, s8, s9, s10, s11, s12, s13, s14, s15, s16 => f36.s1 L N k1_e2 (f36.l1 L N k1_e2 n) s8 s9 s10 s11 s12 s13 s14 s15 s16
def f36.T1 (s8 : Int) (s9 : LI) (s10 : Int) (s11 : Int) (s12 : LM) (s13 : Int) (s14 : Int) (s15 : LLM) (s16 : LI) : T := mkT 43 [(2, (.tv i64 s8)), (3, (.ptr 1003 0)), (7, (.row 1012)), (13, (.tv (.sl i64) s9)), (14, (.tv i64 s10)), (15, (.tv i64 s11)), (23, (.tv (.sl (.st 0)) s12)), (24, (.tv i64 s13)), (25, (.tv i64 s14))]
def f36.H1 (s8 : Int) (s9 : LI) (s10 : Int) (s11 : Int) (s12 : LM) (s13 : Int) (s14 : Int) (s15 : LLM) (s16 : LI) : H := [(1003, (.box [(.tv (.sl (.sl (.st 0))) s15)])), (1012, (.row 3 i64 s16))]
def f36.T1_e2 (z17 : Int) (z18 : LI) (z19 : Int) (z20 : Int) (z21 : LLM) (z22 : LI) : T := mkT 43 [(2, (.tv i64 z17)), (3, (.ptr 1003 0)), (7, (.row 1012)), (13, (.tv (.sl i64) z18)), (14, (.tv i64 z19)), (15, (.tv i64 z20))]
def f36.H1_e2 (z17 : Int) (z18 : LI) (z19 : Int) (z20 : Int) (z21 : LLM) (z22 : LI) : H := [(1003, (.box [(.tv (.sl (.sl (.st 0))) z21)])), (1012, (.row 3 i64 z22))]
def f36.p1_e2' {R : Type} (L N : Nat) (k0_e0 : LLM → LI → Option R) (rec0 : Int → LI → Int → Int → LLM → LI → Option R) (z17 : Int) (z18 : LI) (z19 : Int) (z20 : Int) (z21 : LLM) (z22 : LI) : Option R :=
  rec0 z17 z18 z19 (wi (z20 + (1 : Int))) z21 z22
def f36.p1_e2 {R : Type} (L N : Nat) (k0_e0 : LLM → LI → Option R) (rec0 : Int → LI → Int → Int → LLM → LI → Option R) (z17 : Int) (z18 : LI) (z19 : Int) (z20 : Int) (z21 : LLM) (z22 : LI) : Option R :=
  f36.p1_e2' L N k0_e0 rec0 z17 z18 z19 z20 z21 z22
def f36.s0' {R : Type} (L N : Nat) (k0_e0 : LLM → LI → Option R) (rec0 : Int → LI → Int → Int → LLM → LI → Option R) (w1 : Int → LI → Int → Int → LM → Int → Int → LLM → LI → Option R) (s0 : Int) (s1 : LI) (s2 : Int) (s3 : Int) (s4 : LLM) (s5 : LI) : Option R :=
  bif (decide (s3 < s2)) then
    bif (decide (0 ≤ s3) && decide (s3 < (s1.length : Int))) then
      bif (decide (0 ≤ (listAt s1 (0 : Int) s3.toNat)) && decide ((listAt s1 (0 : Int) s3.toNat) < (s4.length : Int))) then
        w1 s0 s1 s2 s3 (listAt s4 [] (listAt s1 (0 : Int) s3.toNat).toNat) ((listAt s4 [] (listAt s1 (0 : Int) s3.toNat).toNat).length : Int) (0 : Int) s4 s5
      else none
    else none
  else k0_e0 s4 s5
def f36.s0 {R : Type} (L N : Nat) (k0_e0 : LLM → LI → Option R) (rec0 : Int → LI → Int → Int → LLM → LI → Option R) (s0 : Int) (s1 : LI) (s2 : Int) (s3 : Int) (s4 : LLM) (s5 : LI) : Option R :=
  f36.s0' L N k0_e0 rec0 (fun s8 s9 s10 s11 s12 s13 s14 s15 s16 => f36.l1 L N (fun z17 z18 z19 z20 z21 z22 => f36.p1_e2 L N k0_e0 rec0 z17 z18 z19 z20 z21 z22) L s8 s9 s10 s11 s12 s13 s14 s15 s16) s0 s1 s2 s3 s4 s5
def f36.l0 {R : Type} (L N : Nat) (k0_e0 : LLM → LI → Option R) : Nat → Int → LI → Int → Int → LLM → LI → Option R
  | 0, _, _, _, _, _, _ => none
  | n + 1, s0, s1, s2, s3, s4, s5 => f36.s0 L N k0_e0 (f36.l0 L N k0_e0 n) s0 s1 s2 s3 s4 s5
def f36.T0 (s0 : Int) (s1 : LI) (s2 : Int) (s3 : Int) (s4 : LLM) (s5 : LI) : T := mkT 43 [(2, (.tv i64 s0)), (3, (.ptr 1003 0)), (7, (.row 1012)), (13, (.tv (.sl i64) s1)), (14, (.tv i64 s2)), (15, (.tv i64 s3))]
def f36.H0 (s0 : Int) (s1 : LI) (s2 : Int) (s3 : Int) (s4 : LLM) (s5 : LI) : H := [(1003, (.box [(.tv (.sl (.sl (.st 0))) s4)])), (1012, (.row 3 i64 s5))]
def f36.T0_e0 (z6 : LLM) (z7 : LI) : T := mkT 43 [(3, (.ptr 1003 0)), (7, (.row 1012))]
def f36.H0_e0 (z6 : LLM) (z7 : LI) : H := [(1003, (.box [(.tv (.sl (.sl (.st 0))) z6)])), (1012, (.row 3 i64 z7))]
def f36.p0_e0' {R : Type} (L N : Nat) (k : LI → Option R) (z6 : LLM) (z7 : LI) : Option R :=
  (f64 L N (Graph.mk z6) z7).bind fun y32 =>
  k y32
def f36.p0_e0 {R : Type} (L N : Nat) (k : LI → Option R) (z6 : LLM) (z7 : LI) : Option R :=
  f36.p0_e0' L N k z6 z7
def f36.b' {R : Type} (L N : Nat) (k : LI → Option R) (w0 : Int → LI → Int → Int → LLM → LI → Option R) (x0 : Graph) (x1 : LI) (x2 : Int) : Option R :=
  w0 x2 x1 (x1.length : Int) (0 : Int) x0.moves ([] : LI)
def f36.b {R : Type} (L N : Nat) (k : LI → Option R) (x0 : Graph) (x1 : LI) (x2 : Int) : Option R :=
  f36.b' L N k (fun s0 s1 s2 s3 s4 s5 => f36.l0 L N (fun z6 z7 => f36.p0_e0 L N k z6 z7) L s0 s1 s2 s3 s4 s5) x0 x1 x2
def f36 (L N : Nat) (x0 : Graph) (x1 : LI) (x2 : Int) : Option (LI) := f36.b L N some x0 x1 x2
def f36.ent (L N : Nat) (args : List AV) (vw : View) (site : Nat) : Ans := match roD [(.st 2), (.sl i64), i64] vw args with
  | some d => ⟨LI, f36 L N d.1 d.2.1 d.2.2.1, fun y => (RN.av site .row (), [(site, some (mkO none 3 i64 y))], [])⟩
  | none => Ans.no
noncomputable def E36 (L N : Nat) : Env := { P := Tryd.prog, ty := tyOf, Φ := (Φ64 L N), inl := inlT, live := lives, liveX := livesX, L := L, dp := none, prom := promT, heal := healT, ren := renT }
noncomputable def f36.c0 : Code := loopAt 0 (codeOf Tryd.f36)
noncomputable def f36.c1 : Code := loopAt 2 f36.c0
def f36.X1_e2 {R : Type} (κ : KX R) := fun z17 z18 z19 z20 z21 z22 => κ (.exit 2) (f36.T1_e2 z17 z18 z19 z20 z21 z22) (f36.H1_e2 z17 z18 z19 z20 z21 z22)
def f36.R1 {R : Type} (rec : KT R) := fun s8 s9 s10 s11 s12 s13 s14 s15 s16 => rec (f36.T1 s8 s9 s10 s11 s12 s13 s14 s15 s16) (f36.H1 s8 s9 s10 s11 s12 s13 s14 s15 s16)
theorem f36.s1_eq {R : Type} (L N : Nat) (κ : KX R) (rec : KT R) (s8 : Int) (s9 : LI) (s10 : Int) (s11 : Int) (s12 : LM) (s13 : Int) (s14 : Int) (s15 : LLM) (s16 : LI) :
    evRd (E36 L N) (evCallI (E36 L N) 1 2000) 1000 36 43 2 f36.c1 κ rec (f36.T1 s8 s9 s10 s11 s12 s13 s14 s15 s16) (f36.H1 s8 s9 s10 s11 s12 s13 s14 s15 s16)
    = f36.s1 L N (f36.X1_e2 κ) (f36.R1 rec) s8 s9 s10 s11 s12 s13 s14 s15 s16 := by kernel_rfl
theorem f36.l1_eq {R : Type} (L N : Nat) (κ : KX R) : ∀ (n : Nat) (s8 : Int) (s9 : LI) (s10 : Int) (s11 : Int) (s12 : LM) (s13 : Int) (s14 : Int) (s15 : LLM) (s16 : LI),
    evLp (E36 L N) (evCallI (E36 L N) 1 2000) 1000 36 43 2 f36.c1 κ n (f36.T1 s8 s9 s10 s11 s12 s13 s14 s15 s16) (f36.H1 s8 s9 s10 s11 s12 s13 s14 s15 s16)
    = f36.l1 L N (f36.X1_e2 κ) n s8 s9 s10 s11 s12 s13 s14 s15 s16 := by
  intro n
  induction n with
  | zero => intros; rfl
  | succ n ih =>
    intro s8 s9 s10 s11 s12 s13 s14 s15 s16
    rw [evLp_succ, f36.s1_eq]
    delta f36.R1
    simp only [ih]
    rfl
def f36.X0_e0 {R : Type} (κ : KX R) := fun z6 z7 => κ (.exit 0) (f36.T0_e0 z6 z7) (f36.H0_e0 z6 z7)
def f36.R0 {R : Type} (rec : KT R) := fun s0 s1 s2 s3 s4 s5 => rec (f36.T0 s0 s1 s2 s3 s4 s5) (f36.H0 s0 s1 s2 s3 s4 s5)
theorem f36.p1_e2_eq {R : Type} (L N : Nat) (κ : KX R) (rec : KT R) (z17 : Int) (z18 : LI) (z19 : Int) (z20 : Int) (z21 : LLM) (z22 : LI) :
    (contAt (E36 L N) (evCallI (E36 L N) 1 2000) 1000 36 43 2 f36.c0 (rdK (E36 L N) 1000 36 43 0 κ rec)) (.exit 2) (f36.T1_e2 z17 z18 z19 z20 z21 z22) (f36.H1_e2 z17 z18 z19 z20 z21 z22)
    = f36.p1_e2 L N (f36.X0_e0 κ) (f36.R0 rec) z17 z18 z19 z20 z21 z22 := by kernel_rfl
theorem f36.s0_eq {R : Type} (L N : Nat) (κ : KX R) (rec : KT R) (s0 : Int) (s1 : LI) (s2 : Int) (s3 : Int) (s4 : LLM) (s5 : LI) :
    evRd (E36 L N) (evCallI (E36 L N) 1 2000) 1000 36 43 0 f36.c0 κ rec (f36.T0 s0 s1 s2 s3 s4 s5) (f36.H0 s0 s1 s2 s3 s4 s5)
    = f36.s0 L N (f36.X0_e0 κ) (f36.R0 rec) s0 s1 s2 s3 s4 s5 := by
  refine Eq.trans (b := f36.s0' L N (f36.X0_e0 κ) (f36.R0 rec) (fun s8 s9 s10 s11 s12 s13 s14 s15 s16 => evLp (E36 L N) (evCallI (E36 L N) 1 2000) 1000 36 43 2 f36.c1 (contAt (E36 L N) (evCallI (E36 L N) 1 2000) 1000 36 43 2 f36.c0 (rdK (E36 L N) 1000 36 43 0 κ rec)) L (f36.T1 s8 s9 s10 s11 s12 s13 s14 s15 s16) (f36.H1 s8 s9 s10 s11 s12 s13 s14 s15 s16)) s0 s1 s2 s3 s4 s5) (by kernel_rfl) ?_
  unfold f36.s0
  simp only [f36.l1_eq]
  delta f36.X1_e2
  simp only [f36.p1_e2_eq]
theorem f36.l0_eq {R : Type} (L N : Nat) (κ : KX R) : ∀ (n : Nat) (s0 : Int) (s1 : LI) (s2 : Int) (s3 : Int) (s4 : LLM) (s5 : LI),
    evLp (E36 L N) (evCallI (E36 L N) 1 2000) 1000 36 43 0 f36.c0 κ n (f36.T0 s0 s1 s2 s3 s4 s5) (f36.H0 s0 s1 s2 s3 s4 s5)
    = f36.l0 L N (f36.X0_e0 κ) n s0 s1 s2 s3 s4 s5 := by
  intro n
  induction n with
  | zero => intros; rfl
  | succ n ih =>
    intro s0 s1 s2 s3 s4 s5
    rw [evLp_succ, f36.s0_eq]
    delta f36.R0
    simp only [ih]
    rfl
theorem f36.p0_e0_eq {R : Type} (L N : Nat) (κ : RN.Den .row → List Int → Option R) (z6 : LLM) (z7 : LI) :
    (contAt (E36 L N) (evCallI (E36 L N) 1 2000) 1000 36 43 0 (codeOf Tryd.f36) (finK (E36 L N) 1000 Tryd.f36 (finN .row none 3 i64 κ))) (.exit 0) (f36.T0_e0 z6 z7) (f36.H0_e0 z6 z7)
    = f36.p0_e0 L N (fun a0 => κ () a0) z6 z7 := by kernel_rfl
theorem f36.b_eq {R : Type} (L N : Nat) (κ : RN.Den .row → List Int → Option R) (x0 : Graph) (x1 : LI) (x2 : Int) :
    evBody (E36 L N) (evCallI (E36 L N) 1 2000) 1000 36 Tryd.f36 [(.tv (.st 2) x0), (.tv (.sl i64) x1), (.tv i64 x2)] [] [] (finN .row none 3 i64 κ)
    = f36.b L N (fun a0 => κ () a0) x0 x1 x2 := by
  refine Eq.trans (b := f36.b' L N (fun a0 => κ () a0) (fun s0 s1 s2 s3 s4 s5 => evLp (E36 L N) (evCallI (E36 L N) 1 2000) 1000 36 43 0 f36.c0 (contAt (E36 L N) (evCallI (E36 L N) 1 2000) 1000 36 43 0 (codeOf Tryd.f36) (finK (E36 L N) 1000 Tryd.f36 (finN .row none 3 i64 κ))) L (f36.T0 s0 s1 s2 s3 s4 s5) (f36.H0 s0 s1 s2 s3 s4 s5)) x0 x1 x2) (by kernel_rfl) ?_
  unfold f36.b
  simp only [f36.l0_eq]
  delta f36.X0_e0
  simp only [f36.p0_e0_eq]
theorem f36.ok (L N : Nat) (hΦ : TellsOk Tryd.prog ((Φ64 L N))) : EntOk Tryd.prog 36 (f36.ent L N) := by
  intro args vw site h
  unfold f36.ent
  split
  · rename_i d ha
    intro y hy hs
    refine call_ron (y := y) (dep := 1000) (E := (E36 L N)) (ts := [(.st 2), (.sl i64), i64]) (rn := .row) (q := none) (el := 3) (ty := i64) (d1 := ()) (xs := y) (κ := (fun d xs => some xs)) (sound_of hΦ) okP (callI_sound (sound_of hΦ) okP 1 2000) (f := Tryd.f36) rfl hs ha ?_ (fun _ _ h => by obtain rfl := Option.some.inj h; exact ⟨rfl, rfl⟩) rfl site
    exact (f36.b_eq L N (fun d xs => some xs) d.1 d.2.1 d.2.2.1).trans (Eq.trans (b := f36.b L N some d.1 d.2.1 d.2.2.1) (by kernel_rfl) hy)
  · intro y hy
    cases hy
def Φ36 (L N : Nat) : Tells := (addT (Φ64 L N) 36 (f36.ent L N))
theorem Φ36_ok (L N : Nat) : TellsOk Tryd.prog (Φ36 L N) := addT_ok (Φ64_ok L N) (f36.ok L N (Φ64_ok L N))
def f33.s0' {R : Type} (L N : Nat) (k0_e0 : LI → Option R) (rec0 : LI → Int → Int → LLM → LI → Option R) (s1 : LI) (s2 : Int) (s3 : Int) (s4 : LLM) (s5 : LI) : Option R :=
  bif (decide (s3 < s2)) then
    bif (decide (0 ≤ s3) && decide (s3 < (s1.length : Int))) then
      (f36 L N (Graph.mk s4) s5 (listAt s1 (0 : Int) s3.toNat)).bind fun y7 =>
      rec0 s1 s2 (wi (s3 + (1 : Int))) s4 y7
    else none
  else k0_e0 s5
def f33.s0 {R : Type} (L N : Nat) (k0_e0 : LI → Option R) (rec0 : LI → Int → Int → LLM → LI → Option R) (s1 : LI) (s2 : Int) (s3 : Int) (s4 : LLM) (s5 : LI) : Option R :=
  f33.s0' L N k0_e0 rec0 s1 s2 s3 s4 s5
def f33.l0 {R : Type} (L N : Nat) (k0_e0 : LI → Option R) : Nat → LI → Int → Int → LLM → LI → Option R
  | 0, _, _, _, _, _ => none
  | n + 1, s1, s2, s3, s4, s5 => f33.s0 L N k0_e0 (f33.l0 L N k0_e0 n) s1 s2 s3 s4 s5
def f33.T0 (s1 : LI) (s2 : Int) (s3 : Int) (s4 : LLM) (s5 : LI) : T := mkT 23 [(2, (.ptr 1002 0)), (5, (.row 1010)), (11, (.tv (.sl i64) s1)), (12, (.tv i64 s2)), (13, (.tv i64 s3))]
def f33.H0 (s1 : LI) (s2 : Int) (s3 : Int) (s4 : LLM) (s5 : LI) : H := [(1002, (.box [(.tv (.sl (.sl (.st 0))) s4)])), (1010, (.row 3 i64 s5))]
def f33.T0_e0 (z6 : LI) : T := mkT 23 [(5, (.row 1010))]
def f33.H0_e0 (z6 : LI) : H := [(1010, (.row 3 i64 z6))]
def f33.p0_e0' {R : Type} (L N : Nat) (k : LI → Option R) (z6 : LI) : Option R :=
  k z6
def f33.p0_e0 {R : Type} (L N : Nat) (k : LI → Option R) (z6 : LI) : Option R :=
  f33.p0_e0' L N k z6
def f33.b' {R : Type} (L N : Nat) (k : LI → Option R) (w0 : LI → Int → Int → LLM → LI → Option R) (x0 : Graph) (x1 : LI) : Option R :=
  (f64 L N (Graph.mk x0.moves) ([(0 : Int)] : LI)).bind fun y0 =>
  w0 x1 (x1.length : Int) (0 : Int) x0.moves y0
def f33.b {R : Type} (L N : Nat) (k : LI → Option R) (x0 : Graph) (x1 : LI) : Option R :=
  f33.b' L N k (fun s1 s2 s3 s4 s5 => f33.l0 L N (fun z6 => f33.p0_e0 L N k z6) L s1 s2 s3 s4 s5) x0 x1
def f33 (L N : Nat) (x0 : Graph) (x1 : LI) : Option (LI) := f33.b L N some x0 x1
def f33.ent (L N : Nat) (args : List AV) (vw : View) (site : Nat) : Ans := match roD [(.st 2), (.sl i64)] vw args with
  | some d => ⟨LI, f33 L N d.1 d.2.1, fun y => (RN.av site .row (), [(site, some (mkO none 3 i64 y))], [])⟩
  | none => Ans.no
noncomputable def E33 (L N : Nat) : Env := { P := Tryd.prog, ty := tyOf, Φ := (Φ36 L N), inl := inlT, live := lives, liveX := livesX, L := L, dp := none, prom := promT, heal := healT, ren := renT }
noncomputable def f33.c0 : Code := loopAt 0 (codeOf Tryd.f33)
def f33.X0_e0 {R : Type} (κ : KX R) := fun z6 => κ (.exit 0) (f33.T0_e0 z6) (f33.H0_e0 z6)
def f33.R0 {R : Type} (rec : KT R) := fun s1 s2 s3 s4 s5 => rec (f33.T0 s1 s2 s3 s4 s5) (f33.H0 s1 s2 s3 s4 s5)
theorem f33.s0_eq {R : Type} (L N : Nat) (κ : KX R) (rec : KT R) (s1 : LI) (s2 : Int) (s3 : Int) (s4 : LLM) (s5 : LI) :
    evRd (E33 L N) (evCallI (E33 L N) 1 2000) 1000 33 23 0 f33.c0 κ rec (f33.T0 s1 s2 s3 s4 s5) (f33.H0 s1 s2 s3 s4 s5)
    = f33.s0 L N (f33.X0_e0 κ) (f33.R0 rec) s1 s2 s3 s4 s5 := by kernel_rfl
theorem f33.l0_eq {R : Type} (L N : Nat) (κ : KX R) : ∀ (n : Nat) (s1 : LI) (s2 : Int) (s3 : Int) (s4 : LLM) (s5 : LI),
    evLp (E33 L N) (evCallI (E33 L N) 1 2000) 1000 33 23 0 f33.c0 κ n (f33.T0 s1 s2 s3 s4 s5) (f33.H0 s1 s2 s3 s4 s5)
    = f33.l0 L N (f33.X0_e0 κ) n s1 s2 s3 s4 s5 := by
  intro n
  induction n with
  | zero => intros; rfl
  | succ n ih =>
    intro s1 s2 s3 s4 s5
    rw [evLp_succ, f33.s0_eq]
    delta f33.R0
    simp only [ih]
    rfl
theorem f33.p0_e0_eq {R : Type} (L N : Nat) (κ : RN.Den .row → List Int → Option R) (z6 : LI) :
    (contAt (E33 L N) (evCallI (E33 L N) 1 2000) 1000 33 23 0 (codeOf Tryd.f33) (finK (E33 L N) 1000 Tryd.f33 (finN .row none 3 i64 κ))) (.exit 0) (f33.T0_e0 z6) (f33.H0_e0 z6)
    = f33.p0_e0 L N (fun a0 => κ () a0) z6 := by kernel_rfl
theorem f33.b_eq {R : Type} (L N : Nat) (κ : RN.Den .row → List Int → Option R) (x0 : Graph) (x1 : LI) :
    evBody (E33 L N) (evCallI (E33 L N) 1 2000) 1000 33 Tryd.f33 [(.tv (.st 2) x0), (.tv (.sl i64) x1)] [] [] (finN .row none 3 i64 κ)
    = f33.b L N (fun a0 => κ () a0) x0 x1 := by
  refine Eq.trans (b := f33.b' L N (fun a0 => κ () a0) (fun s1 s2 s3 s4 s5 => evLp (E33 L N) (evCallI (E33 L N) 1 2000) 1000 33 23 0 f33.c0 (contAt (E33 L N) (evCallI (E33 L N) 1 2000) 1000 33 23 0 (codeOf Tryd.f33) (finK (E33 L N) 1000 Tryd.f33 (finN .row none 3 i64 κ))) L (f33.T0 s1 s2 s3 s4 s5) (f33.H0 s1 s2 s3 s4 s5)) x0 x1) (by kernel_rfl) ?_
  unfold f33.b
  simp only [f33.l0_eq]
  delta f33.X0_e0
  simp only [f33.p0_e0_eq]
theorem f33.ok (L N : Nat) (hΦ : TellsOk Tryd.prog ((Φ36 L N))) : EntOk Tryd.prog 33 (f33.ent L N) := by
  intro args vw site h
  unfold f33.ent
  split
  · rename_i d ha
    intro y hy hs
    refine call_ron (y := y) (dep := 1000) (E := (E33 L N)) (ts := [(.st 2), (.sl i64)]) (rn := .row) (q := none) (el := 3) (ty := i64) (d1 := ()) (xs := y) (κ := (fun d xs => some xs)) (sound_of hΦ) okP (callI_sound (sound_of hΦ) okP 1 2000) (f := Tryd.f33) rfl hs ha ?_ (fun _ _ h => by obtain rfl := Option.some.inj h; exact ⟨rfl, rfl⟩) rfl site
    exact (f33.b_eq L N (fun d xs => some xs) d.1 d.2.1).trans (Eq.trans (b := f33.b L N some d.1 d.2.1) (by kernel_rfl) hy)
  · intro y hy
    cases hy
def Φ33 (L N : Nat) : Tells := (addT (Φ36 L N) 33 (f33.ent L N))
theorem Φ33_ok (L N : Nat) : TellsOk Tryd.prog (Φ33 L N) := addT_ok (Φ36_ok L N) (f33.ok L N (Φ36_ok L N))
def f34.s0' {R : Type} (L N : Nat) (k0_e0 : ByteArray → Option R) (rec0 : ByteArray → LI → Int → Int → Option R) (s0 : ByteArray) (s1 : LI) (s2 : Int) (s3 : Int) : Option R :=
  bif (decide (s3 < s2)) then
    bif (decide (0 ≤ s3) && decide (s3 < (s1.length : Int))) then
      ((fitoa (listAt s1 (0 : Int) s3.toNat))).bind fun y5 =>
      bif (decide (y5.size + (ByteArray.mk #[32]).size ≤ 4611686018427387904)) then
        bif (decide (s0.size + (y5 ++ (ByteArray.mk #[32])).size ≤ 4611686018427387904)) then
          rec0 (s0 ++ (y5 ++ (ByteArray.mk #[32]))) s1 s2 (wi (s3 + (1 : Int)))
        else none
      else none
    else none
  else k0_e0 s0
def f34.s0 {R : Type} (L N : Nat) (k0_e0 : ByteArray → Option R) (rec0 : ByteArray → LI → Int → Int → Option R) (s0 : ByteArray) (s1 : LI) (s2 : Int) (s3 : Int) : Option R :=
  f34.s0' L N k0_e0 rec0 s0 s1 s2 s3
def f34.l0 {R : Type} (L N : Nat) (k0_e0 : ByteArray → Option R) : Nat → ByteArray → LI → Int → Int → Option R
  | 0, _, _, _, _ => none
  | n + 1, s0, s1, s2, s3 => f34.s0 L N k0_e0 (f34.l0 L N k0_e0 n) s0 s1 s2 s3
def f34.T0 (s0 : ByteArray) (s1 : LI) (s2 : Int) (s3 : Int) : T := mkT 20 [(3, (.tv .str s0)), (6, (.tv (.sl i64) s1)), (7, (.tv i64 s2)), (8, (.tv i64 s3))]
def f34.H0 (s0 : ByteArray) (s1 : LI) (s2 : Int) (s3 : Int) : H := []
def f34.T0_e0 (z4 : ByteArray) : T := mkT 20 [(3, (.tv .str z4))]
def f34.H0_e0 (z4 : ByteArray) : H := []
def f34.p0_e0' {R : Type} (L N : Nat) (k : ByteArray → Option R) (z4 : ByteArray) : Option R :=
  bif (decide (z4.size + (ByteArray.mk #[93]).size ≤ 4611686018427387904)) then
    k (z4 ++ (ByteArray.mk #[93]))
  else none
def f34.p0_e0 {R : Type} (L N : Nat) (k : ByteArray → Option R) (z4 : ByteArray) : Option R :=
  f34.p0_e0' L N k z4
def f34.b' {R : Type} (L N : Nat) (k : ByteArray → Option R) (w0 : ByteArray → LI → Int → Int → Option R) (x0 : LI) : Option R :=
  w0 (ByteArray.mk #[91]) x0 (x0.length : Int) (0 : Int)
def f34.b {R : Type} (L N : Nat) (k : ByteArray → Option R) (x0 : LI) : Option R :=
  f34.b' L N k (fun s0 s1 s2 s3 => f34.l0 L N (fun z4 => f34.p0_e0 L N k z4) L s0 s1 s2 s3) x0
def f34 (L N : Nat) (x0 : LI) : Option (ByteArray) := f34.b L N some x0
def f34.ent (L N : Nat) := entRo [(.sl i64)] (.one .str) fun d => f34 L N d.1
noncomputable def E34 (L N : Nat) : Env := { P := Tryd.prog, ty := tyOf, Φ := (Φ33 L N), inl := inlT, live := lives, liveX := livesX, L := L, dp := none, prom := promT, heal := healT, ren := renT }
noncomputable def f34.c0 : Code := loopAt 0 (codeOf Tryd.f34)
def f34.X0_e0 {R : Type} (κ : KX R) := fun z4 => κ (.exit 0) (f34.T0_e0 z4) (f34.H0_e0 z4)
def f34.R0 {R : Type} (rec : KT R) := fun s0 s1 s2 s3 => rec (f34.T0 s0 s1 s2 s3) (f34.H0 s0 s1 s2 s3)
theorem f34.s0_eq {R : Type} (L N : Nat) (κ : KX R) (rec : KT R) (s0 : ByteArray) (s1 : LI) (s2 : Int) (s3 : Int) :
    evRd (E34 L N) (evCallI (E34 L N) 1 2000) 1000 34 20 0 f34.c0 κ rec (f34.T0 s0 s1 s2 s3) (f34.H0 s0 s1 s2 s3)
    = f34.s0 L N (f34.X0_e0 κ) (f34.R0 rec) s0 s1 s2 s3 := by kernel_rfl
theorem f34.l0_eq {R : Type} (L N : Nat) (κ : KX R) : ∀ (n : Nat) (s0 : ByteArray) (s1 : LI) (s2 : Int) (s3 : Int),
    evLp (E34 L N) (evCallI (E34 L N) 1 2000) 1000 34 20 0 f34.c0 κ n (f34.T0 s0 s1 s2 s3) (f34.H0 s0 s1 s2 s3)
    = f34.l0 L N (f34.X0_e0 κ) n s0 s1 s2 s3 := by
  intro n
  induction n with
  | zero => intros; rfl
  | succ n ih =>
    intro s0 s1 s2 s3
    rw [evLp_succ, f34.s0_eq]
    delta f34.R0
    simp only [ih]
    rfl
theorem f34.p0_e0_eq {R : Type} (L N : Nat) (κ : AV → Option R) (z4 : ByteArray) :
    (contAt (E34 L N) (evCallI (E34 L N) 1 2000) 1000 34 20 0 (codeOf Tryd.f34) (finK (E34 L N) 1000 Tryd.f34 (finC (.one .str) κ))) (.exit 0) (f34.T0_e0 z4) (f34.H0_e0 z4)
    = f34.p0_e0 L N (fun a0 => κ (.tv .str a0)) z4 := by kernel_rfl
theorem f34.b_eq {R : Type} (L N : Nat) (κ : AV → Option R) (x0 : LI) :
    evBody (E34 L N) (evCallI (E34 L N) 1 2000) 1000 34 Tryd.f34 [(.tv (.sl i64) x0)] [] [] (finC (.one .str) κ)
    = f34.b L N (fun a0 => κ (.tv .str a0)) x0 := by
  refine Eq.trans (b := f34.b' L N (fun a0 => κ (.tv .str a0)) (fun s0 s1 s2 s3 => evLp (E34 L N) (evCallI (E34 L N) 1 2000) 1000 34 20 0 f34.c0 (contAt (E34 L N) (evCallI (E34 L N) 1 2000) 1000 34 20 0 (codeOf Tryd.f34) (finK (E34 L N) 1000 Tryd.f34 (finC (.one .str) κ))) L (f34.T0 s0 s1 s2 s3) (f34.H0 s0 s1 s2 s3)) x0) (by kernel_rfl) ?_
  unfold f34.b
  simp only [f34.l0_eq]
  delta f34.X0_e0
  simp only [f34.p0_e0_eq]
theorem f34.ok (L N : Nat) (hΦ : TellsOk Tryd.prog ((Φ33 L N))) : EntOk Tryd.prog 34 (f34.ent L N) := entRo_ok (E := (E34 L N)) (dep := 1000) (f := Tryd.f34) (sound_of hΦ) okP (callI_sound (sound_of hΦ) okP 1 2000) rfl rfl fun d _ hy => (f34.b_eq L N (unR (.one .str)) d.1).trans (Eq.trans (b := f34.b L N some d.1) (by kernel_rfl) hy)
def Φ34 (L N : Nat) : Tells := (addT (Φ33 L N) 34 (f34.ent L N))
theorem Φ34_ok (L N : Nat) : TellsOk Tryd.prog (Φ34 L N) := addT_ok (Φ33_ok L N) (f34.ok L N (Φ33_ok L N))
def f60.b' {R : Type} (L N : Nat) (k : Bool → Option R) (x0 : Move) : Option R :=
  k (x0.act == (0 : Int))
def f60.b {R : Type} (L N : Nat) (k : Bool → Option R) (x0 : Move) : Option R :=
  f60.b' L N k x0
def f60 (L N : Nat) (x0 : Move) : Option (Bool) := f60.b L N some x0
def f60.ent (L N : Nat) := entRo [(.st 0)] (.one .bool) fun d => f60 L N d.1
noncomputable def E60 (L N : Nat) : Env := { P := Tryd.prog, ty := tyOf, Φ := (Φ34 L N), inl := inlT, live := lives, liveX := livesX, L := L, dp := none, prom := promT, heal := healT, ren := renT }
theorem f60.b_eq {R : Type} (L N : Nat) (κ : AV → Option R) (x0 : Move) :
    evBody (E60 L N) (evCallI (E60 L N) 1 2000) 1000 60 Tryd.f60 [(.tv (.st 0) x0)] [] [] (finC (.one .bool) κ)
    = f60.b L N (fun a0 => κ (.tv .bool a0)) x0 := by kernel_rfl
theorem f60.ok (L N : Nat) (hΦ : TellsOk Tryd.prog ((Φ34 L N))) : EntOk Tryd.prog 60 (f60.ent L N) := entRo_ok (E := (E60 L N)) (dep := 1000) (f := Tryd.f60) (sound_of hΦ) okP (callI_sound (sound_of hΦ) okP 1 2000) rfl rfl fun d _ hy => (f60.b_eq L N (unR (.one .bool)) d.1).trans (Eq.trans (b := f60.b L N some d.1) (by kernel_rfl) hy)
def Φ60 (L N : Nat) : Tells := (addT (Φ34 L N) 60 (f60.ent L N))
theorem Φ60_ok (L N : Nat) : TellsOk Tryd.prog (Φ60 L N) := addT_ok (Φ34_ok L N) (f60.ok L N (Φ34_ok L N))
def f61_2.s0' {R : Type} (L N : Nat) (k0_e0 : Option R) (k0_r : Int → Option R) (rec0 : LM → Int → Int → Option R) (s0 : LM) (s1 : Int) (s2 : Int) : Option R :=
  bif (decide (s2 < s1)) then
    bif (decide (0 ≤ s2) && decide (s2 < (s0.length : Int))) then
      (f60 L N (listAt s0 (Ty.dflt (.st 0)) s2.toNat)).bind fun y3 =>
      bif y3 then
        k0_r s2
      else rec0 s0 s1 (wi (s2 + (1 : Int)))
    else none
  else k0_e0
def f61_2.s0 {R : Type} (L N : Nat) (k0_e0 : Option R) (k0_r : Int → Option R) (rec0 : LM → Int → Int → Option R) (s0 : LM) (s1 : Int) (s2 : Int) : Option R :=
  f61_2.s0' L N k0_e0 k0_r rec0 s0 s1 s2
def f61_2.l0 {R : Type} (L N : Nat) (k0_e0 : Option R) (k0_r : Int → Option R) : Nat → LM → Int → Int → Option R
  | 0, _, _, _ => none
  | n + 1, s0, s1, s2 => f61_2.s0 L N k0_e0 k0_r (f61_2.l0 L N k0_e0 k0_r n) s0 s1 s2
def f61_2.T0 (s0 : LM) (s1 : Int) (s2 : Int) : T := mkT 19 [(0, (.tv (.sl (.st 0)) s0)), (1, (.fn 60 [])), (7, (.tv i64 s1)), (8, (.tv i64 s2))]
def f61_2.H0 (s0 : LM) (s1 : Int) (s2 : Int) : H := []
def f61_2.T0_e0 : T := mkT 19 []
def f61_2.H0_e0 : H := []
def f61_2.T0_r (z4 : Int) : T := mkT 19 [(4, (.tv i64 z4))]
def f61_2.H0_r (z4 : Int) : H := []
def f61_2.p0_e0' {R : Type} (L N : Nat) (k : Int → Option R) : Option R :=
  k (-1 : Int)
def f61_2.p0_e0 {R : Type} (L N : Nat) (k : Int → Option R) : Option R :=
  f61_2.p0_e0' L N k
def f61_2.p0_r' {R : Type} (L N : Nat) (k : Int → Option R) (z4 : Int) : Option R :=
  k z4
def f61_2.p0_r {R : Type} (L N : Nat) (k : Int → Option R) (z4 : Int) : Option R :=
  f61_2.p0_r' L N k z4
def f61_2.b' {R : Type} (L N : Nat) (k : Int → Option R) (w0 : LM → Int → Int → Option R) (x0 : LM) : Option R :=
  w0 x0 (x0.length : Int) (0 : Int)
def f61_2.b {R : Type} (L N : Nat) (k : Int → Option R) (x0 : LM) : Option R :=
  f61_2.b' L N k (fun s0 s1 s2 => f61_2.l0 L N (f61_2.p0_e0 L N k) (fun z4 => f61_2.p0_r L N k z4) L s0 s1 s2) x0
def f61_2 (L N : Nat) (x0 : LM) : Option (Int) := f61_2.b L N some x0
def f61_2.ent (L N : Nat) := entRf [(.dat (.sl (.st 0))), (.fn 60 [])] (.one i64) fun d => f61_2 L N d.1
noncomputable def E61_2 (L N : Nat) : Env := { P := Tryd.prog, ty := tyOf, Φ := (Φ60 L N), inl := inlT, live := lives, liveX := livesX, L := L, dp := none, prom := promT, heal := healT, ren := renT }
noncomputable def f61_2.c0 : Code := loopAt 0 (codeOf Tryd.f61)
def f61_2.X0_e0 {R : Type} (κ : KX R) := κ (.exit 0) f61_2.T0_e0 f61_2.H0_e0
def f61_2.X0_r {R : Type} (κ : KX R) := fun z4 => κ .ret (f61_2.T0_r z4) (f61_2.H0_r z4)
def f61_2.R0 {R : Type} (rec : KT R) := fun s0 s1 s2 => rec (f61_2.T0 s0 s1 s2) (f61_2.H0 s0 s1 s2)
theorem f61_2.s0_eq {R : Type} (L N : Nat) (κ : KX R) (rec : KT R) (s0 : LM) (s1 : Int) (s2 : Int) :
    evRd (E61_2 L N) (evCallI (E61_2 L N) 1 2000) 1000 61 19 0 f61_2.c0 κ rec (f61_2.T0 s0 s1 s2) (f61_2.H0 s0 s1 s2)
    = f61_2.s0 L N (f61_2.X0_e0 κ) (f61_2.X0_r κ) (f61_2.R0 rec) s0 s1 s2 := by kernel_rfl
theorem f61_2.l0_eq {R : Type} (L N : Nat) (κ : KX R) : ∀ (n : Nat) (s0 : LM) (s1 : Int) (s2 : Int),
    evLp (E61_2 L N) (evCallI (E61_2 L N) 1 2000) 1000 61 19 0 f61_2.c0 κ n (f61_2.T0 s0 s1 s2) (f61_2.H0 s0 s1 s2)
    = f61_2.l0 L N (f61_2.X0_e0 κ) (f61_2.X0_r κ) n s0 s1 s2 := by
  intro n
  induction n with
  | zero => intros; rfl
  | succ n ih =>
    intro s0 s1 s2
    rw [evLp_succ, f61_2.s0_eq]
    delta f61_2.R0
    simp only [ih]
    rfl
theorem f61_2.p0_e0_eq {R : Type} (L N : Nat) (κ : AV → Option R) :
    (contAt (E61_2 L N) (evCallI (E61_2 L N) 1 2000) 1000 61 19 0 (codeOf Tryd.f61) (finK (E61_2 L N) 1000 Tryd.f61 (finC (.one i64) κ))) (.exit 0) f61_2.T0_e0 f61_2.H0_e0
    = f61_2.p0_e0 L N (fun a0 => κ (.tv i64 a0)) := by kernel_rfl
theorem f61_2.p0_r_eq {R : Type} (L N : Nat) (κ : AV → Option R) (z4 : Int) :
    (contAt (E61_2 L N) (evCallI (E61_2 L N) 1 2000) 1000 61 19 0 (codeOf Tryd.f61) (finK (E61_2 L N) 1000 Tryd.f61 (finC (.one i64) κ))) .ret (f61_2.T0_r z4) (f61_2.H0_r z4)
    = f61_2.p0_r L N (fun a0 => κ (.tv i64 a0)) z4 := by kernel_rfl
theorem f61_2.b_eq {R : Type} (L N : Nat) (κ : AV → Option R) (x0 : LM) :
    evBody (E61_2 L N) (evCallI (E61_2 L N) 1 2000) 1000 61 Tryd.f61 [(.tv (.sl (.st 0)) x0), (.fn 60 [])] [] [] (finC (.one i64) κ)
    = f61_2.b L N (fun a0 => κ (.tv i64 a0)) x0 := by
  refine Eq.trans (b := f61_2.b' L N (fun a0 => κ (.tv i64 a0)) (fun s0 s1 s2 => evLp (E61_2 L N) (evCallI (E61_2 L N) 1 2000) 1000 61 19 0 f61_2.c0 (contAt (E61_2 L N) (evCallI (E61_2 L N) 1 2000) 1000 61 19 0 (codeOf Tryd.f61) (finK (E61_2 L N) 1000 Tryd.f61 (finC (.one i64) κ))) L (f61_2.T0 s0 s1 s2) (f61_2.H0 s0 s1 s2)) x0) (by kernel_rfl) ?_
  unfold f61_2.b
  simp only [f61_2.l0_eq]
  delta f61_2.X0_e0 f61_2.X0_r
  simp only [f61_2.p0_e0_eq, f61_2.p0_r_eq]
theorem f61_2.ok (L N : Nat) (hΦ : TellsOk Tryd.prog ((Φ60 L N))) : EntOkO Tryd.prog 61 (f61_2.ent L N) := entRf_ok (E := (E61_2 L N)) (dep := 1000) (f := Tryd.f61) (sound_of hΦ) okP (callI_sound (sound_of hΦ) okP 1 2000) rfl rfl fun d _ hy => (f61_2.b_eq L N (unR (.one i64)) d.1).trans (Eq.trans (b := f61_2.b L N some d.1) (by kernel_rfl) hy)
def Φ61_2 (L N : Nat) : Tells := (addO (Φ60 L N) 61 (f61_2.ent L N))
theorem Φ61_2_ok (L N : Nat) : TellsOk Tryd.prog (Φ61_2 L N) := addO_ok (Φ60_ok L N) (f61_2.ok L N (Φ60_ok L N))
def f29_3.b' {R : Type} (L N : Nat) (k : Bool → Option R) (x0 : LM) : Option R :=
  (f61_2 L N x0).bind fun y0 =>
  k (decide (y0 ≥ (0 : Int)))
def f29_3.b {R : Type} (L N : Nat) (k : Bool → Option R) (x0 : LM) : Option R :=
  f29_3.b' L N k x0
def f29_3 (L N : Nat) (x0 : LM) : Option (Bool) := f29_3.b L N some x0
def f29_3.ent (L N : Nat) := entRf [(.dat (.sl (.st 0))), (.fn 60 [])] (.one .bool) fun d => f29_3 L N d.1
noncomputable def E29_3 (L N : Nat) : Env := { P := Tryd.prog, ty := tyOf, Φ := (Φ61_2 L N), inl := inlT, live := lives, liveX := livesX, L := L, dp := none, prom := promT, heal := healT, ren := renT }
theorem f29_3.b_eq {R : Type} (L N : Nat) (κ : AV → Option R) (x0 : LM) :
    evBody (E29_3 L N) (evCallI (E29_3 L N) 1 2000) 1000 29 Tryd.f29 [(.tv (.sl (.st 0)) x0), (.fn 60 [])] [] [] (finC (.one .bool) κ)
    = f29_3.b L N (fun a0 => κ (.tv .bool a0)) x0 := by kernel_rfl
theorem f29_3.ok (L N : Nat) (hΦ : TellsOk Tryd.prog ((Φ61_2 L N))) : EntOkO Tryd.prog 29 (f29_3.ent L N) := entRf_ok (E := (E29_3 L N)) (dep := 1000) (f := Tryd.f29) (sound_of hΦ) okP (callI_sound (sound_of hΦ) okP 1 2000) rfl rfl fun d _ hy => (f29_3.b_eq L N (unR (.one .bool)) d.1).trans (Eq.trans (b := f29_3.b L N some d.1) (by kernel_rfl) hy)
def Φ29_3 (L N : Nat) : Tells := (addO (Φ61_2 L N) 29 (f29_3.ent L N))
theorem Φ29_3_ok (L N : Nat) : TellsOk Tryd.prog (Φ29_3 L N) := addO_ok (Φ61_2_ok L N) (f29_3.ok L N (Φ61_2_ok L N))
def f28.b' {R : Type} (L N : Nat) (k : Bool → Option R) (x0 : Graph) (x1 : Int) : Option R :=
  bif (decide (0 ≤ x1) && decide (x1 < (x0.moves.length : Int))) then
    (f29_3 L N (listAt x0.moves [] x1.toNat)).bind fun y0 =>
    k (!y0)
  else none
def f28.b {R : Type} (L N : Nat) (k : Bool → Option R) (x0 : Graph) (x1 : Int) : Option R :=
  f28.b' L N k x0 x1
def f28 (L N : Nat) (x0 : Graph) (x1 : Int) : Option (Bool) := f28.b L N some x0 x1
def f28.ent (L N : Nat) := entRo [(.st 2), i64] (.one .bool) fun d => f28 L N d.1 d.2.1
noncomputable def E28 (L N : Nat) : Env := { P := Tryd.prog, ty := tyOf, Φ := (Φ29_3 L N), inl := inlT, live := lives, liveX := livesX, L := L, dp := none, prom := promT, heal := healT, ren := renT }
theorem f28.b_eq {R : Type} (L N : Nat) (κ : AV → Option R) (x0 : Graph) (x1 : Int) :
    evBody (E28 L N) (evCallI (E28 L N) 1 2000) 1000 28 Tryd.f28 [(.tv (.st 2) x0), (.tv i64 x1)] [] [] (finC (.one .bool) κ)
    = f28.b L N (fun a0 => κ (.tv .bool a0)) x0 x1 := by kernel_rfl
theorem f28.ok (L N : Nat) (hΦ : TellsOk Tryd.prog ((Φ29_3 L N))) : EntOk Tryd.prog 28 (f28.ent L N) := entRo_ok (E := (E28 L N)) (dep := 1000) (f := Tryd.f28) (sound_of hΦ) okP (callI_sound (sound_of hΦ) okP 1 2000) rfl rfl fun d _ hy => (f28.b_eq L N (unR (.one .bool)) d.1 d.2.1).trans (Eq.trans (b := f28.b L N some d.1 d.2.1) (by kernel_rfl) hy)
def Φ28 (L N : Nat) : Tells := (addT (Φ29_3 L N) 28 (f28.ent L N))
theorem Φ28_ok (L N : Nat) : TellsOk Tryd.prog (Φ28 L N) := addT_ok (Φ29_3_ok L N) (f28.ok L N (Φ29_3_ok L N))
def f30_1.b' {R : Type} (L N : Nat) (k : Bool → Option R) (x0 : Move) (x1 : Int) : Option R :=
  k (x0.act == x1)
def f30_1.b {R : Type} (L N : Nat) (k : Bool → Option R) (x0 : Move) (x1 : Int) : Option R :=
  f30_1.b' L N k x0 x1
def f30_1 (L N : Nat) (x0 : Move) (x1 : Int) : Option (Bool) := f30_1.b L N some x0 x1
def f30_1.ent (L N : Nat) := entRf [(.dat (.st 0)), (.imp i64 0)] (.one .bool) fun d => f30_1 L N d.1 d.2.1
noncomputable def E30_1 (L N : Nat) : Env := { P := Tryd.prog, ty := tyOf, Φ := (Φ28 L N), inl := inlT, live := lives, liveX := livesX, L := L, dp := none, prom := promT, heal := healT, ren := renT }
theorem f30_1.b_eq {R : Type} (L N : Nat) (κ : AV → Option R) (x0 : Move) (x1 : Int) :
    evBody (E30_1 L N) (evCallI (E30_1 L N) 1 2000) 1000 30 Tryd.f30 [(.tv (.st 0) x0), (.imp i64 x1 0)] [] [] (finC (.one .bool) κ)
    = f30_1.b L N (fun a0 => κ (.tv .bool a0)) x0 x1 := by kernel_rfl
theorem f30_1.ok (L N : Nat) (hΦ : TellsOk Tryd.prog ((Φ28 L N))) : EntOkO Tryd.prog 30 (f30_1.ent L N) := entRf_ok (E := (E30_1 L N)) (dep := 1000) (f := Tryd.f30) (sound_of hΦ) okP (callI_sound (sound_of hΦ) okP 1 2000) rfl rfl fun d _ hy => (f30_1.b_eq L N (unR (.one .bool)) d.1 d.2.1).trans (Eq.trans (b := f30_1.b L N some d.1 d.2.1) (by kernel_rfl) hy)
def Φ30_1 (L N : Nat) : Tells := (addO (Φ28 L N) 30 (f30_1.ent L N))
theorem Φ30_1_ok (L N : Nat) : TellsOk Tryd.prog (Φ30_1 L N) := addO_ok (Φ28_ok L N) (f30_1.ok L N (Φ28_ok L N))
def f61_3.s0' {R : Type} (L N : Nat) (k0_e0 : Option R) (k0_r : Int → Option R) (rec0 : LM → Int → Int → Int → Option R) (s0 : LM) (s1 : Int) (s2 : Int) (s3 : Int) : Option R :=
  bif (decide (s3 < s2)) then
    bif (decide (0 ≤ s3) && decide (s3 < (s0.length : Int))) then
      (f30_1 L N (listAt s0 (Ty.dflt (.st 0)) s3.toNat) s1).bind fun y4 =>
      bif y4 then
        k0_r s3
      else rec0 s0 s1 s2 (wi (s3 + (1 : Int)))
    else none
  else k0_e0
def f61_3.s0 {R : Type} (L N : Nat) (k0_e0 : Option R) (k0_r : Int → Option R) (rec0 : LM → Int → Int → Int → Option R) (s0 : LM) (s1 : Int) (s2 : Int) (s3 : Int) : Option R :=
  f61_3.s0' L N k0_e0 k0_r rec0 s0 s1 s2 s3
def f61_3.l0 {R : Type} (L N : Nat) (k0_e0 : Option R) (k0_r : Int → Option R) : Nat → LM → Int → Int → Int → Option R
  | 0, _, _, _, _ => none
  | n + 1, s0, s1, s2, s3 => f61_3.s0 L N k0_e0 k0_r (f61_3.l0 L N k0_e0 k0_r n) s0 s1 s2 s3
def f61_3.T0 (s0 : LM) (s1 : Int) (s2 : Int) (s3 : Int) : T := mkT 19 [(0, (.tv (.sl (.st 0)) s0)), (1, (.fn 30 [(.imp i64 s1 0)])), (7, (.tv i64 s2)), (8, (.tv i64 s3))]
def f61_3.H0 (s0 : LM) (s1 : Int) (s2 : Int) (s3 : Int) : H := []
def f61_3.T0_e0 : T := mkT 19 []
def f61_3.H0_e0 : H := []
def f61_3.T0_r (z5 : Int) : T := mkT 19 [(4, (.tv i64 z5))]
def f61_3.H0_r (z5 : Int) : H := []
def f61_3.p0_e0' {R : Type} (L N : Nat) (k : Int → Option R) : Option R :=
  k (-1 : Int)
def f61_3.p0_e0 {R : Type} (L N : Nat) (k : Int → Option R) : Option R :=
  f61_3.p0_e0' L N k
def f61_3.p0_r' {R : Type} (L N : Nat) (k : Int → Option R) (z5 : Int) : Option R :=
  k z5
def f61_3.p0_r {R : Type} (L N : Nat) (k : Int → Option R) (z5 : Int) : Option R :=
  f61_3.p0_r' L N k z5
def f61_3.b' {R : Type} (L N : Nat) (k : Int → Option R) (w0 : LM → Int → Int → Int → Option R) (x0 : LM) (x1 : Int) : Option R :=
  w0 x0 x1 (x0.length : Int) (0 : Int)
def f61_3.b {R : Type} (L N : Nat) (k : Int → Option R) (x0 : LM) (x1 : Int) : Option R :=
  f61_3.b' L N k (fun s0 s1 s2 s3 => f61_3.l0 L N (f61_3.p0_e0 L N k) (fun z5 => f61_3.p0_r L N k z5) L s0 s1 s2 s3) x0 x1
def f61_3 (L N : Nat) (x0 : LM) (x1 : Int) : Option (Int) := f61_3.b L N some x0 x1
def f61_3.ent (L N : Nat) := entRf [(.dat (.sl (.st 0))), (.fn 30 [(.imp i64 0)])] (.one i64) fun d => f61_3 L N d.1 d.2.1.1
noncomputable def E61_3 (L N : Nat) : Env := { P := Tryd.prog, ty := tyOf, Φ := (Φ30_1 L N), inl := inlT, live := lives, liveX := livesX, L := L, dp := none, prom := promT, heal := healT, ren := renT }
noncomputable def f61_3.c0 : Code := loopAt 0 (codeOf Tryd.f61)
def f61_3.X0_e0 {R : Type} (κ : KX R) := κ (.exit 0) f61_3.T0_e0 f61_3.H0_e0
def f61_3.X0_r {R : Type} (κ : KX R) := fun z5 => κ .ret (f61_3.T0_r z5) (f61_3.H0_r z5)
def f61_3.R0 {R : Type} (rec : KT R) := fun s0 s1 s2 s3 => rec (f61_3.T0 s0 s1 s2 s3) (f61_3.H0 s0 s1 s2 s3)
theorem f61_3.s0_eq {R : Type} (L N : Nat) (κ : KX R) (rec : KT R) (s0 : LM) (s1 : Int) (s2 : Int) (s3 : Int) :
    evRd (E61_3 L N) (evCallI (E61_3 L N) 1 2000) 1000 61 19 0 f61_3.c0 κ rec (f61_3.T0 s0 s1 s2 s3) (f61_3.H0 s0 s1 s2 s3)
    = f61_3.s0 L N (f61_3.X0_e0 κ) (f61_3.X0_r κ) (f61_3.R0 rec) s0 s1 s2 s3 := by kernel_rfl
theorem f61_3.l0_eq {R : Type} (L N : Nat) (κ : KX R) : ∀ (n : Nat) (s0 : LM) (s1 : Int) (s2 : Int) (s3 : Int),
    evLp (E61_3 L N) (evCallI (E61_3 L N) 1 2000) 1000 61 19 0 f61_3.c0 κ n (f61_3.T0 s0 s1 s2 s3) (f61_3.H0 s0 s1 s2 s3)
    = f61_3.l0 L N (f61_3.X0_e0 κ) (f61_3.X0_r κ) n s0 s1 s2 s3 := by
  intro n
  induction n with
  | zero => intros; rfl
  | succ n ih =>
    intro s0 s1 s2 s3
    rw [evLp_succ, f61_3.s0_eq]
    delta f61_3.R0
    simp only [ih]
    rfl
theorem f61_3.p0_e0_eq {R : Type} (L N : Nat) (κ : AV → Option R) :
    (contAt (E61_3 L N) (evCallI (E61_3 L N) 1 2000) 1000 61 19 0 (codeOf Tryd.f61) (finK (E61_3 L N) 1000 Tryd.f61 (finC (.one i64) κ))) (.exit 0) f61_3.T0_e0 f61_3.H0_e0
    = f61_3.p0_e0 L N (fun a0 => κ (.tv i64 a0)) := by kernel_rfl
theorem f61_3.p0_r_eq {R : Type} (L N : Nat) (κ : AV → Option R) (z5 : Int) :
    (contAt (E61_3 L N) (evCallI (E61_3 L N) 1 2000) 1000 61 19 0 (codeOf Tryd.f61) (finK (E61_3 L N) 1000 Tryd.f61 (finC (.one i64) κ))) .ret (f61_3.T0_r z5) (f61_3.H0_r z5)
    = f61_3.p0_r L N (fun a0 => κ (.tv i64 a0)) z5 := by kernel_rfl
theorem f61_3.b_eq {R : Type} (L N : Nat) (κ : AV → Option R) (x0 : LM) (x1 : Int) :
    evBody (E61_3 L N) (evCallI (E61_3 L N) 1 2000) 1000 61 Tryd.f61 [(.tv (.sl (.st 0)) x0), (.fn 30 [(.imp i64 x1 0)])] [] [] (finC (.one i64) κ)
    = f61_3.b L N (fun a0 => κ (.tv i64 a0)) x0 x1 := by
  refine Eq.trans (b := f61_3.b' L N (fun a0 => κ (.tv i64 a0)) (fun s0 s1 s2 s3 => evLp (E61_3 L N) (evCallI (E61_3 L N) 1 2000) 1000 61 19 0 f61_3.c0 (contAt (E61_3 L N) (evCallI (E61_3 L N) 1 2000) 1000 61 19 0 (codeOf Tryd.f61) (finK (E61_3 L N) 1000 Tryd.f61 (finC (.one i64) κ))) L (f61_3.T0 s0 s1 s2 s3) (f61_3.H0 s0 s1 s2 s3)) x0 x1) (by kernel_rfl) ?_
  unfold f61_3.b
  simp only [f61_3.l0_eq]
  delta f61_3.X0_e0 f61_3.X0_r
  simp only [f61_3.p0_e0_eq, f61_3.p0_r_eq]
theorem f61_3.ok (L N : Nat) (hΦ : TellsOk Tryd.prog ((Φ30_1 L N))) : EntOkO Tryd.prog 61 (f61_3.ent L N) := entRf_ok (E := (E61_3 L N)) (dep := 1000) (f := Tryd.f61) (sound_of hΦ) okP (callI_sound (sound_of hΦ) okP 1 2000) rfl rfl fun d _ hy => (f61_3.b_eq L N (unR (.one i64)) d.1 d.2.1.1).trans (Eq.trans (b := f61_3.b L N some d.1 d.2.1.1) (by kernel_rfl) hy)
def Φ61_3 (L N : Nat) : Tells := (addO (Φ30_1 L N) 61 (f61_3.ent L N))
theorem Φ61_3_ok (L N : Nat) : TellsOk Tryd.prog (Φ61_3 L N) := addO_ok (Φ30_1_ok L N) (f61_3.ok L N (Φ30_1_ok L N))
def f29_2.b' {R : Type} (L N : Nat) (k : Bool → Option R) (x0 : LM) (x1 : Int) : Option R :=
  (f61_3 L N x0 x1).bind fun y0 =>
  k (decide (y0 ≥ (0 : Int)))
def f29_2.b {R : Type} (L N : Nat) (k : Bool → Option R) (x0 : LM) (x1 : Int) : Option R :=
  f29_2.b' L N k x0 x1
def f29_2 (L N : Nat) (x0 : LM) (x1 : Int) : Option (Bool) := f29_2.b L N some x0 x1
def f29_2.ent (L N : Nat) := entRf [(.dat (.sl (.st 0))), (.fn 30 [(.imp i64 0)])] (.one .bool) fun d => f29_2 L N d.1 d.2.1.1
noncomputable def E29_2 (L N : Nat) : Env := { P := Tryd.prog, ty := tyOf, Φ := (Φ61_3 L N), inl := inlT, live := lives, liveX := livesX, L := L, dp := none, prom := promT, heal := healT, ren := renT }
theorem f29_2.b_eq {R : Type} (L N : Nat) (κ : AV → Option R) (x0 : LM) (x1 : Int) :
    evBody (E29_2 L N) (evCallI (E29_2 L N) 1 2000) 1000 29 Tryd.f29 [(.tv (.sl (.st 0)) x0), (.fn 30 [(.imp i64 x1 0)])] [] [] (finC (.one .bool) κ)
    = f29_2.b L N (fun a0 => κ (.tv .bool a0)) x0 x1 := by kernel_rfl
theorem f29_2.ok (L N : Nat) (hΦ : TellsOk Tryd.prog ((Φ61_3 L N))) : EntOkO Tryd.prog 29 (f29_2.ent L N) := entRf_ok (E := (E29_2 L N)) (dep := 1000) (f := Tryd.f29) (sound_of hΦ) okP (callI_sound (sound_of hΦ) okP 1 2000) rfl rfl fun d _ hy => (f29_2.b_eq L N (unR (.one .bool)) d.1 d.2.1.1).trans (Eq.trans (b := f29_2.b L N some d.1 d.2.1.1) (by kernel_rfl) hy)
def Φ29_2 (L N : Nat) : Tells := (addO (Φ61_3 L N) 29 (f29_2.ent L N))
theorem Φ29_2_ok (L N : Nat) : TellsOk Tryd.prog (Φ29_2 L N) := addO_ok (Φ61_3_ok L N) (f29_2.ok L N (Φ61_3_ok L N))
def f26_1.s1' {R : Type} (L N : Nat) (k1_e2 : LLM → LI → Int → Int → Bool → LI → LI → LI → Option R) (rec1 : LLM → LI → Int → Int → LI → Int → Int → Bool → LI → LI → LI → Int → Option R) (s10 : LLM) (s11 : LI) (s12 : Int) (s13 : Int) (s14 : LI) (s15 : Int) (s16 : Int) (s17 : Bool) (s18 : LI) (s19 : LI) (s20 : LI) (s21 : Int) : Option R :=
  bif (decide (s16 < s15)) then
    bif (decide (0 ≤ s16) && decide (s16 < (s14.length : Int))) then
      bif s17 then
        rec1 s10 s11 s12 s13 s14 s15 (wi (s16 + (1 : Int))) true s18 s19 s20 s21
      else (f28 L N (Graph.mk s10) (listAt s14 (0 : Int) s16.toNat)).bind fun y30 =>
      bif y30 then
        bif (decide (0 ≤ (listAt s14 (0 : Int) s16.toNat)) && decide ((listAt s14 (0 : Int) s16.toNat) < (s10.length : Int))) then
          (f29_2 L N (listAt s10 [] (listAt s14 (0 : Int) s16.toNat).toNat) s21).bind fun y31 =>
          rec1 s10 s11 s12 s13 s14 s15 (wi (s16 + (1 : Int))) (!y31) s18 s19 s20 s21
        else none
      else rec1 s10 s11 s12 s13 s14 s15 (wi (s16 + (1 : Int))) false s18 s19 s20 s21
    else none
  else k1_e2 s10 s11 s12 s13 s17 s18 s19 s20
def f26_1.s1 {R : Type} (L N : Nat) (k1_e2 : LLM → LI → Int → Int → Bool → LI → LI → LI → Option R) (rec1 : LLM → LI → Int → Int → LI → Int → Int → Bool → LI → LI → LI → Int → Option R) (s10 : LLM) (s11 : LI) (s12 : Int) (s13 : Int) (s14 : LI) (s15 : Int) (s16 : Int) (s17 : Bool) (s18 : LI) (s19 : LI) (s20 : LI) (s21 : Int) : Option R :=
  f26_1.s1' L N k1_e2 rec1 s10 s11 s12 s13 s14 s15 s16 s17 s18 s19 s20 s21
def f26_1.l1 {R : Type} (L N : Nat) (k1_e2 : LLM → LI → Int → Int → Bool → LI → LI → LI → Option R) : Nat → LLM → LI → Int → Int → LI → Int → Int → Bool → LI → LI → LI → Int → Option R
  | 0, _, _, _, _, _, _, _, _, _, _, _, _ => none
  | n + 1, s10, s11, s12, s13, s14, s15, s16, s17, s18, s19, s20, s21 => f26_1.s1 L N k1_e2 (f26_1.l1 L N k1_e2 n) s10 s11 s12 s13 s14 s15 s16 s17 s18 s19 s20 s21
def f26_1.T1 (s10 : LLM) (s11 : LI) (s12 : Int) (s13 : Int) (s14 : LI) (s15 : Int) (s16 : Int) (s17 : Bool) (s18 : LI) (s19 : LI) (s20 : LI) (s21 : Int) : T := mkT 44 [(1, (.imp (.sl (.sl (.st 0))) s10 0)), (2, (.ptr 0 0)), (3, (.ptr 1003 0)), (6, (.ptr 1006 0)), (12, (.tv (.sl i64) s11)), (13, (.tv i64 s12)), (14, (.tv i64 s13)), (19, (.tv (.sl i64) s14)), (20, (.tv i64 s15)), (21, (.tv i64 s16))] ++ [.ptr 0 0]
def f26_1.H1 (s10 : LLM) (s11 : LI) (s12 : Int) (s13 : Int) (s14 : LI) (s15 : Int) (s16 : Int) (s17 : Bool) (s18 : LI) (s19 : LI) (s20 : LI) (s21 : Int) : H := [(0, (.box [(.tv .bool s17)])), (1003, (.box [(.tv (.sl i64) s18), (.tv (.sl i64) s19), (.tv (.sl i64) s20)])), (1006, (.box [(.tv i64 s21)]))]
def f26_1.T1_e2 (z22 : LLM) (z23 : LI) (z24 : Int) (z25 : Int) (z26 : Bool) (z27 : LI) (z28 : LI) (z29 : LI) : T := mkT 44 [(1, (.imp (.sl (.sl (.st 0))) z22 0)), (2, (.ptr 0 0)), (3, (.ptr 1003 0)), (12, (.tv (.sl i64) z23)), (13, (.tv i64 z24)), (14, (.tv i64 z25))] ++ [.ptr 0 0]
def f26_1.H1_e2 (z22 : LLM) (z23 : LI) (z24 : Int) (z25 : Int) (z26 : Bool) (z27 : LI) (z28 : LI) (z29 : LI) : H := [(0, (.box [(.tv .bool z26)])), (1003, (.box [(.tv (.sl i64) z27), (.tv (.sl i64) z28), (.tv (.sl i64) z29)]))]
def f26_1.p1_e2' {R : Type} (L N : Nat) (k0_e0 : Bool → Option R) (rec0 : LLM → LI → Int → Int → Bool → LI → LI → LI → Option R) (z22 : LLM) (z23 : LI) (z24 : Int) (z25 : Int) (z26 : Bool) (z27 : LI) (z28 : LI) (z29 : LI) : Option R :=
  rec0 z22 z23 z24 (wi (z25 + (1 : Int))) z26 z27 z28 z29
def f26_1.p1_e2 {R : Type} (L N : Nat) (k0_e0 : Bool → Option R) (rec0 : LLM → LI → Int → Int → Bool → LI → LI → LI → Option R) (z22 : LLM) (z23 : LI) (z24 : Int) (z25 : Int) (z26 : Bool) (z27 : LI) (z28 : LI) (z29 : LI) : Option R :=
  f26_1.p1_e2' L N k0_e0 rec0 z22 z23 z24 z25 z26 z27 z28 z29
def f26_1.s0' {R : Type} (L N : Nat) (k0_e0 : Bool → Option R) (rec0 : LLM → LI → Int → Int → Bool → LI → LI → LI → Option R) (w1 : LLM → LI → Int → Int → LI → Int → Int → Bool → LI → LI → LI → Int → Option R) (s1 : LLM) (s2 : LI) (s3 : Int) (s4 : Int) (s5 : Bool) (s6 : LI) (s7 : LI) (s8 : LI) : Option R :=
  bif (decide (s4 < s3)) then
    bif (decide (0 ≤ s4) && decide (s4 < (s2.length : Int))) then
      w1 s1 s2 s3 s4 s6 (s6.length : Int) (0 : Int) s5 s6 s7 s8 (listAt s2 (0 : Int) s4.toNat)
    else none
  else k0_e0 s5
def f26_1.s0 {R : Type} (L N : Nat) (k0_e0 : Bool → Option R) (rec0 : LLM → LI → Int → Int → Bool → LI → LI → LI → Option R) (s1 : LLM) (s2 : LI) (s3 : Int) (s4 : Int) (s5 : Bool) (s6 : LI) (s7 : LI) (s8 : LI) : Option R :=
  f26_1.s0' L N k0_e0 rec0 (fun s10 s11 s12 s13 s14 s15 s16 s17 s18 s19 s20 s21 => f26_1.l1 L N (fun z22 z23 z24 z25 z26 z27 z28 z29 => f26_1.p1_e2 L N k0_e0 rec0 z22 z23 z24 z25 z26 z27 z28 z29) L s10 s11 s12 s13 s14 s15 s16 s17 s18 s19 s20 s21) s1 s2 s3 s4 s5 s6 s7 s8
def f26_1.l0 {R : Type} (L N : Nat) (k0_e0 : Bool → Option R) : Nat → LLM → LI → Int → Int → Bool → LI → LI → LI → Option R
  | 0, _, _, _, _, _, _, _, _ => none
  | n + 1, s1, s2, s3, s4, s5, s6, s7, s8 => f26_1.s0 L N k0_e0 (f26_1.l0 L N k0_e0 n) s1 s2 s3 s4 s5 s6 s7 s8
def f26_1.T0 (s1 : LLM) (s2 : LI) (s3 : Int) (s4 : Int) (s5 : Bool) (s6 : LI) (s7 : LI) (s8 : LI) : T := mkT 44 [(1, (.imp (.sl (.sl (.st 0))) s1 0)), (2, (.ptr 0 0)), (3, (.ptr 1003 0)), (12, (.tv (.sl i64) s2)), (13, (.tv i64 s3)), (14, (.tv i64 s4))] ++ [.ptr 0 0]
def f26_1.H0 (s1 : LLM) (s2 : LI) (s3 : Int) (s4 : Int) (s5 : Bool) (s6 : LI) (s7 : LI) (s8 : LI) : H := [(0, (.box [(.tv .bool s5)])), (1003, (.box [(.tv (.sl i64) s6), (.tv (.sl i64) s7), (.tv (.sl i64) s8)]))]
def f26_1.T0_e0 (z9 : Bool) : T := mkT 44 [(2, (.ptr 0 0))] ++ [.ptr 0 0]
def f26_1.H0_e0 (z9 : Bool) : H := [(0, (.box [(.tv .bool z9)]))]
def f26_1.p0_e0' {R : Type} (L N : Nat) (k : Bool → Bool → Option R) (z9 : Bool) : Option R :=
  k z9 z9
def f26_1.p0_e0 {R : Type} (L N : Nat) (k : Bool → Bool → Option R) (z9 : Bool) : Option R :=
  f26_1.p0_e0' L N k z9
def f26_1.b' {R : Type} (L N : Nat) (k : Bool → Bool → Option R) (w0 : LLM → LI → Int → Int → Bool → LI → LI → LI → Option R) (c0 : Bool) (x0 : Duo) (x1 : LLM) : Option R :=
  (f27 L N (Graph.mk x1) x0.a).bind fun y0 =>
  w0 x1 y0 (y0.length : Int) (0 : Int) c0 x0.a x0.b x0.w
def f26_1.b {R : Type} (L N : Nat) (k : Bool → Bool → Option R) (c0 : Bool) (x0 : Duo) (x1 : LLM) : Option R :=
  f26_1.b' L N k (fun s1 s2 s3 s4 s5 s6 s7 s8 => f26_1.l0 L N (fun z9 => f26_1.p0_e0 L N k z9) L s1 s2 s3 s4 s5 s6 s7 s8) c0 x0 x1
def f26_1 (L N : Nat) (c0 : Bool) (x0 : Duo) (x1 : LLM) : Option (Bool × Bool) := f26_1.b L N (fun a0 a1 => some (a0, a1)) c0 x0 x1
def f26_1.ent (L N : Nat) (args : List AV) (vw : View) (_ : Nat) : Option Ans := match mutD [.bool] [(.sh (.dat (.st 4))), (.sh (.imp (.sl (.sl (.st 0))) 0)), (.mut 0)] vw args with
  | some (o, d0, d, u) => some ⟨Bool × Bool, f26_1 L N d0.1 d.1 d.2.1, fun y => ((.tv .bool y.1), u ++ [(o, some (.box [(.tv .bool y.2)]))], [])⟩
  | none => none
noncomputable def E26_1 (L N : Nat) : Env := { P := Tryd.prog, ty := tyOf, Φ := (Φ29_2 L N), inl := inlT, live := lives, liveX := livesX, L := L, dp := none, prom := promT, heal := healT, ren := renT }
noncomputable def f26_1.c0 : Code := loopAt 0 (codeOf Tryd.f26)
noncomputable def f26_1.c1 : Code := loopAt 2 f26_1.c0
def f26_1.X1_e2 {R : Type} (κ : KX R) := fun z22 z23 z24 z25 z26 z27 z28 z29 => κ (.exit 2) (f26_1.T1_e2 z22 z23 z24 z25 z26 z27 z28 z29) (f26_1.H1_e2 z22 z23 z24 z25 z26 z27 z28 z29)
def f26_1.R1 {R : Type} (rec : KT R) := fun s10 s11 s12 s13 s14 s15 s16 s17 s18 s19 s20 s21 => rec (f26_1.T1 s10 s11 s12 s13 s14 s15 s16 s17 s18 s19 s20 s21) (f26_1.H1 s10 s11 s12 s13 s14 s15 s16 s17 s18 s19 s20 s21)
theorem f26_1.s1_eq {R : Type} (L N : Nat) (κ : KX R) (rec : KT R) (s10 : LLM) (s11 : LI) (s12 : Int) (s13 : Int) (s14 : LI) (s15 : Int) (s16 : Int) (s17 : Bool) (s18 : LI) (s19 : LI) (s20 : LI) (s21 : Int) :
    evRd (E26_1 L N) (evCallI (E26_1 L N) 1 2000) 1000 26 44 2 f26_1.c1 κ rec (f26_1.T1 s10 s11 s12 s13 s14 s15 s16 s17 s18 s19 s20 s21) (f26_1.H1 s10 s11 s12 s13 s14 s15 s16 s17 s18 s19 s20 s21)
    = f26_1.s1 L N (f26_1.X1_e2 κ) (f26_1.R1 rec) s10 s11 s12 s13 s14 s15 s16 s17 s18 s19 s20 s21 := by kernel_rfl
theorem f26_1.l1_eq {R : Type} (L N : Nat) (κ : KX R) : ∀ (n : Nat) (s10 : LLM) (s11 : LI) (s12 : Int) (s13 : Int) (s14 : LI) (s15 : Int) (s16 : Int) (s17 : Bool) (s18 : LI) (s19 : LI) (s20 : LI) (s21 : Int),
    evLp (E26_1 L N) (evCallI (E26_1 L N) 1 2000) 1000 26 44 2 f26_1.c1 κ n (f26_1.T1 s10 s11 s12 s13 s14 s15 s16 s17 s18 s19 s20 s21) (f26_1.H1 s10 s11 s12 s13 s14 s15 s16 s17 s18 s19 s20 s21)
    = f26_1.l1 L N (f26_1.X1_e2 κ) n s10 s11 s12 s13 s14 s15 s16 s17 s18 s19 s20 s21 := by
  intro n
  induction n with
  | zero => intros; rfl
  | succ n ih =>
    intro s10 s11 s12 s13 s14 s15 s16 s17 s18 s19 s20 s21
    rw [evLp_succ, f26_1.s1_eq]
    delta f26_1.R1
    simp only [ih]
    rfl
def f26_1.X0_e0 {R : Type} (κ : KX R) := fun z9 => κ (.exit 0) (f26_1.T0_e0 z9) (f26_1.H0_e0 z9)
def f26_1.R0 {R : Type} (rec : KT R) := fun s1 s2 s3 s4 s5 s6 s7 s8 => rec (f26_1.T0 s1 s2 s3 s4 s5 s6 s7 s8) (f26_1.H0 s1 s2 s3 s4 s5 s6 s7 s8)
theorem f26_1.p1_e2_eq {R : Type} (L N : Nat) (κ : KX R) (rec : KT R) (z22 : LLM) (z23 : LI) (z24 : Int) (z25 : Int) (z26 : Bool) (z27 : LI) (z28 : LI) (z29 : LI) :
    (contAt (E26_1 L N) (evCallI (E26_1 L N) 1 2000) 1000 26 44 2 f26_1.c0 (rdK (E26_1 L N) 1000 26 44 0 κ rec)) (.exit 2) (f26_1.T1_e2 z22 z23 z24 z25 z26 z27 z28 z29) (f26_1.H1_e2 z22 z23 z24 z25 z26 z27 z28 z29)
    = f26_1.p1_e2 L N (f26_1.X0_e0 κ) (f26_1.R0 rec) z22 z23 z24 z25 z26 z27 z28 z29 := by kernel_rfl
theorem f26_1.s0_eq {R : Type} (L N : Nat) (κ : KX R) (rec : KT R) (s1 : LLM) (s2 : LI) (s3 : Int) (s4 : Int) (s5 : Bool) (s6 : LI) (s7 : LI) (s8 : LI) :
    evRd (E26_1 L N) (evCallI (E26_1 L N) 1 2000) 1000 26 44 0 f26_1.c0 κ rec (f26_1.T0 s1 s2 s3 s4 s5 s6 s7 s8) (f26_1.H0 s1 s2 s3 s4 s5 s6 s7 s8)
    = f26_1.s0 L N (f26_1.X0_e0 κ) (f26_1.R0 rec) s1 s2 s3 s4 s5 s6 s7 s8 := by
  refine Eq.trans (b := f26_1.s0' L N (f26_1.X0_e0 κ) (f26_1.R0 rec) (fun s10 s11 s12 s13 s14 s15 s16 s17 s18 s19 s20 s21 => evLp (E26_1 L N) (evCallI (E26_1 L N) 1 2000) 1000 26 44 2 f26_1.c1 (contAt (E26_1 L N) (evCallI (E26_1 L N) 1 2000) 1000 26 44 2 f26_1.c0 (rdK (E26_1 L N) 1000 26 44 0 κ rec)) L (f26_1.T1 s10 s11 s12 s13 s14 s15 s16 s17 s18 s19 s20 s21) (f26_1.H1 s10 s11 s12 s13 s14 s15 s16 s17 s18 s19 s20 s21)) s1 s2 s3 s4 s5 s6 s7 s8) (by kernel_rfl) ?_
  unfold f26_1.s0
  simp only [f26_1.l1_eq]
  delta f26_1.X1_e2
  simp only [f26_1.p1_e2_eq]
theorem f26_1.l0_eq {R : Type} (L N : Nat) (κ : KX R) : ∀ (n : Nat) (s1 : LLM) (s2 : LI) (s3 : Int) (s4 : Int) (s5 : Bool) (s6 : LI) (s7 : LI) (s8 : LI),
    evLp (E26_1 L N) (evCallI (E26_1 L N) 1 2000) 1000 26 44 0 f26_1.c0 κ n (f26_1.T0 s1 s2 s3 s4 s5 s6 s7 s8) (f26_1.H0 s1 s2 s3 s4 s5 s6 s7 s8)
    = f26_1.l0 L N (f26_1.X0_e0 κ) n s1 s2 s3 s4 s5 s6 s7 s8 := by
  intro n
  induction n with
  | zero => intros; rfl
  | succ n ih =>
    intro s1 s2 s3 s4 s5 s6 s7 s8
    rw [evLp_succ, f26_1.s0_eq]
    delta f26_1.R0
    simp only [ih]
    rfl
theorem f26_1.p0_e0_eq {R : Type} (L N : Nat) (κ : AV → Dens [.bool] → Option R) (z9 : Bool) :
    (contAt (E26_1 L N) (evCallI (E26_1 L N) 1 2000) 1000 26 44 0 (codeOf Tryd.f26) (finK (E26_1 L N) 1000 Tryd.f26 (finM (.one .bool) [.bool] κ))) (.exit 0) (f26_1.T0_e0 z9) (f26_1.H0_e0 z9)
    = f26_1.p0_e0 L N (fun a0 a1 => κ (.tv .bool a0) (a1, ())) z9 := by kernel_rfl
theorem f26_1.b_eq {R : Type} (L N : Nat) (κ : AV → Dens [.bool] → Option R) (c0 : Bool) (x0 : Duo) (x1 : LLM) :
    evBody (E26_1 L N) (evCallI (E26_1 L N) 1 2000) 1000 26 Tryd.f26 [(.tv (.st 4) x0), (.imp (.sl (.sl (.st 0))) x1 0), (.ptr 0 0)] [.ptr 0 0] [(0, (.box [(.tv .bool c0)]))] (finM (.one .bool) [.bool] κ)
    = f26_1.b L N (fun a0 a1 => κ (.tv .bool a0) (a1, ())) c0 x0 x1 := by
  refine Eq.trans (b := f26_1.b' L N (fun a0 a1 => κ (.tv .bool a0) (a1, ())) (fun s1 s2 s3 s4 s5 s6 s7 s8 => evLp (E26_1 L N) (evCallI (E26_1 L N) 1 2000) 1000 26 44 0 f26_1.c0 (contAt (E26_1 L N) (evCallI (E26_1 L N) 1 2000) 1000 26 44 0 (codeOf Tryd.f26) (finK (E26_1 L N) 1000 Tryd.f26 (finM (.one .bool) [.bool] κ))) L (f26_1.T0 s1 s2 s3 s4 s5 s6 s7 s8) (f26_1.H0 s1 s2 s3 s4 s5 s6 s7 s8)) c0 x0 x1) (by kernel_rfl) ?_
  unfold f26_1.b
  simp only [f26_1.l0_eq]
  delta f26_1.X0_e0
  simp only [f26_1.p0_e0_eq]
theorem f26_1.ok (L N : Nat) (hΦ : TellsOk Tryd.prog ((Φ29_2 L N))) : EntOkO Tryd.prog 26 (f26_1.ent L N) := by
  intro args vw site h a ha
  unfold f26_1.ent at ha
  split at ha
  · rename_i o d0 d u hd
    obtain rfl := Option.some.inj ha
    intro y hy hs
    obtain ⟨cs, ho, hd0, hr⟩ := mutD_some hd
    refine call_mut (y := y) (dep := 1000) (v' := (.tv .bool y.1)) (d1 := (y.2, ())) (E := (E26_1 L N)) (ts := [.bool]) (rs := (.one .bool)) (κ := (fun v d => (unR (.one .bool) v).bind fun x => some (x, d.1))) (sound_of hΦ) okP (callI_sound (sound_of hΦ) okP 1 2000) (f := Tryd.f26) rfl hs ho hd0 hr ?_ (fun _ _ h => by obtain ⟨x, h1, h2⟩ := unR_bind h; obtain rfl := Option.some.inj h2; exact ⟨h1, rfl⟩) site
    exact (f26_1.b_eq L N (fun v d => (unR (.one .bool) v).bind fun x => some (x, d.1)) d0.1 d.1 d.2.1).trans (Eq.trans (b := f26_1.b L N (fun a0 a1 => some (a0, a1)) d0.1 d.1 d.2.1) (by kernel_rfl) hy)
  · cases ha
def Φ26_1 (L N : Nat) : Tells := (addO (Φ29_2 L N) 26 (f26_1.ent L N))
theorem Φ26_1_ok (L N : Nat) : TellsOk Tryd.prog (Φ26_1 L N) := addO_ok (Φ29_2_ok L N) (f26_1.ok L N (Φ29_2_ok L N))
def f25_1.s1' {R : Type} (L N : Nat) (k1_e2 : Int → LLM → Int → Bool → LLM → LLM → (List Duo) → (List (ByteArray × Bool)) → Option R) (k1_r : Int → LLM → Bool → Int → Bool → LLM → LLM → (List Duo) → (List (ByteArray × Bool)) → Option R) (rec1 : Int → LLM → Int → LI → Int → Int → Bool → LLM → LLM → LI → LI → LI → (List Duo) → (List (ByteArray × Bool)) → Option R) (s17 : Int) (s18 : LLM) (s19 : Int) (s20 : LI) (s21 : Int) (s22 : Int) (s23 : Bool) (s24 : LLM) (s25 : LLM) (s26 : LI) (s27 : LI) (s28 : LI) (s29 : (List Duo)) (s30 : (List (ByteArray × Bool))) : Option R :=
  bif (decide (s22 < s21)) then
    bif (decide (0 ≤ s22) && decide (s22 < (s20.length : Int))) then
      (f36 L N (Graph.mk s24) s26 (listAt s20 (0 : Int) s22.toNat)).bind fun y39 =>
      (f36 L N (Graph.mk s25) s27 (listAt s20 (0 : Int) s22.toNat)).bind fun y40 =>
      ((fclone s28)).bind fun y41 =>
      bif (decide (s28.length + ([(listAt s20 (0 : Int) s22.toNat)] : LI).length ≤ lim)) then
        bif ((y40.length : Int) == (0 : Int)) then
          (f26_1 L N s23 (Duo.mk y39 y40 (s28 ++ ([(listAt s20 (0 : Int) s22.toNat)] : LI))) s18).bind fun y42 =>
          bif y42.1 then
            k1_r s17 s18 true s19 y42.2 s24 s25 s29 s30
          else rec1 s17 s18 s19 s20 s21 (wi (s22 + (1 : Int))) y42.2 s24 s25 s26 s27 s28 s29 s30
        else (f34 L N y39).bind fun y52 =>
        (f34 L N y40).bind fun y53 =>
        bif (decide (y52.size + y53.size ≤ 4611686018427387904)) then
          bif ((mapFind .str .bool (y52 ++ y53) s30).getD (Ty.dflt .bool)) then
            rec1 s17 s18 s19 s20 s21 (wi (s22 + (1 : Int))) s23 s24 s25 s26 s27 s28 s29 s30
          else bif (decide (s29.length + ([(Duo.mk y39 y40 (s28 ++ ([(listAt s20 (0 : Int) s22.toNat)] : LI)))] : (List Duo)).length ≤ lim)) then
            rec1 s17 s18 s19 s20 s21 (wi (s22 + (1 : Int))) s23 s24 s25 s26 s27 s28 (s29 ++ ([(Duo.mk y39 y40 (s28 ++ ([(listAt s20 (0 : Int) s22.toNat)] : LI)))] : (List Duo))) (mapPut .str .bool (y52 ++ y53) true s30)
          else none
        else none
      else none
    else none
  else k1_e2 s17 s18 s19 s23 s24 s25 s29 s30
def f25_1.s1 {R : Type} (L N : Nat) (k1_e2 : Int → LLM → Int → Bool → LLM → LLM → (List Duo) → (List (ByteArray × Bool)) → Option R) (k1_r : Int → LLM → Bool → Int → Bool → LLM → LLM → (List Duo) → (List (ByteArray × Bool)) → Option R) (rec1 : Int → LLM → Int → LI → Int → Int → Bool → LLM → LLM → LI → LI → LI → (List Duo) → (List (ByteArray × Bool)) → Option R) (s17 : Int) (s18 : LLM) (s19 : Int) (s20 : LI) (s21 : Int) (s22 : Int) (s23 : Bool) (s24 : LLM) (s25 : LLM) (s26 : LI) (s27 : LI) (s28 : LI) (s29 : (List Duo)) (s30 : (List (ByteArray × Bool))) : Option R :=
  f25_1.s1' L N k1_e2 k1_r rec1 s17 s18 s19 s20 s21 s22 s23 s24 s25 s26 s27 s28 s29 s30
def f25_1.l1 {R : Type} (L N : Nat) (k1_e2 : Int → LLM → Int → Bool → LLM → LLM → (List Duo) → (List (ByteArray × Bool)) → Option R) (k1_r : Int → LLM → Bool → Int → Bool → LLM → LLM → (List Duo) → (List (ByteArray × Bool)) → Option R) : Nat → Int → LLM → Int → LI → Int → Int → Bool → LLM → LLM → LI → LI → LI → (List Duo) → (List (ByteArray × Bool)) → Option R
  | 0, _, _, _, _, _, _, _, _, _, _, _, _, _, _ => none
  | n + 1, s17, s18, s19, s20, s21, s22, s23, s24, s25, s26, s27, s28, s29, s30 => f25_1.s1 L N k1_e2 k1_r (f25_1.l1 L N k1_e2 k1_r n) s17 s18 s19 s20 s21 s22 s23 s24 s25 s26 s27 s28 s29 s30
def f25_1.T1 (s17 : Int) (s18 : LLM) (s19 : Int) (s20 : LI) (s21 : Int) (s22 : Int) (s23 : Bool) (s24 : LLM) (s25 : LLM) (s26 : LI) (s27 : LI) (s28 : LI) (s29 : (List Duo)) (s30 : (List (ByteArray × Bool))) : T := mkT 107 [(2, (.tv i64 s17)), (3, (.fn 26 [(.imp (.sl (.sl (.st 0))) s18 0), (.ptr 0 0)])), (4, (.ptr 1004 0)), (5, (.ptr 1005 0)), (9, (.row 1022)), (10, (.mp 1023)), (11, (.tv i64 s19)), (12, (.ptr 1012 0)), (60, (.tv (.sl i64) s20)), (61, (.tv i64 s21)), (62, (.tv i64 s22))] ++ [.ptr 0 0]
def f25_1.H1 (s17 : Int) (s18 : LLM) (s19 : Int) (s20 : LI) (s21 : Int) (s22 : Int) (s23 : Bool) (s24 : LLM) (s25 : LLM) (s26 : LI) (s27 : LI) (s28 : LI) (s29 : (List Duo)) (s30 : (List (ByteArray × Bool))) : H := [(0, (.box [(.tv .bool s23)])), (1004, (.box [(.tv (.sl (.sl (.st 0))) s24)])), (1005, (.box [(.tv (.sl (.sl (.st 0))) s25)])), (1012, (.box [(.tv (.sl i64) s26), (.tv (.sl i64) s27), (.tv (.sl i64) s28)])), (1022, (.row 50 (.st 4) s29)), (1023, (.map .str .bool s30))]
def f25_1.T1_e2 (z31 : Int) (z32 : LLM) (z33 : Int) (z34 : Bool) (z35 : LLM) (z36 : LLM) (z37 : (List Duo)) (z38 : (List (ByteArray × Bool))) : T := mkT 107 [(2, (.tv i64 z31)), (3, (.fn 26 [(.imp (.sl (.sl (.st 0))) z32 0), (.ptr 0 0)])), (4, (.ptr 1004 0)), (5, (.ptr 1005 0)), (9, (.row 1022)), (10, (.mp 1023)), (11, (.tv i64 z33))] ++ [.ptr 0 0]
def f25_1.H1_e2 (z31 : Int) (z32 : LLM) (z33 : Int) (z34 : Bool) (z35 : LLM) (z36 : LLM) (z37 : (List Duo)) (z38 : (List (ByteArray × Bool))) : H := [(0, (.box [(.tv .bool z34)])), (1004, (.box [(.tv (.sl (.sl (.st 0))) z35)])), (1005, (.box [(.tv (.sl (.sl (.st 0))) z36)])), (1022, (.row 50 (.st 4) z37)), (1023, (.map .str .bool z38))]
def f25_1.T1_r (z43 : Int) (z44 : LLM) (z45 : Bool) (z46 : Int) (z47 : Bool) (z48 : LLM) (z49 : LLM) (z50 : (List Duo)) (z51 : (List (ByteArray × Bool))) : T := mkT 107 [(2, (.tv i64 z43)), (3, (.fn 26 [(.imp (.sl (.sl (.st 0))) z44 0), (.ptr 0 0)])), (4, (.ptr 1004 0)), (5, (.ptr 1005 0)), (8, (.tv .bool z45)), (9, (.row 1022)), (10, (.mp 1023)), (11, (.tv i64 z46))] ++ [.ptr 0 0]
def f25_1.H1_r (z43 : Int) (z44 : LLM) (z45 : Bool) (z46 : Int) (z47 : Bool) (z48 : LLM) (z49 : LLM) (z50 : (List Duo)) (z51 : (List (ByteArray × Bool))) : H := [(0, (.box [(.tv .bool z47)])), (1004, (.box [(.tv (.sl (.sl (.st 0))) z48)])), (1005, (.box [(.tv (.sl (.sl (.st 0))) z49)])), (1022, (.row 50 (.st 4) z50)), (1023, (.map .str .bool z51))]
def f25_1.p1_e2' {R : Type} (L N : Nat) (k0_e0 : Bool → Option R) (k0_r : Bool → Bool → Option R) (rec0 : Int → LLM → Int → Bool → LLM → LLM → (List Duo) → (List (ByteArray × Bool)) → Option R) (z31 : Int) (z32 : LLM) (z33 : Int) (z34 : Bool) (z35 : LLM) (z36 : LLM) (z37 : (List Duo)) (z38 : (List (ByteArray × Bool))) : Option R :=
  rec0 z31 z32 (wi (z33 + (1 : Int))) z34 z35 z36 z37 z38
def f25_1.p1_e2 {R : Type} (L N : Nat) (k0_e0 : Bool → Option R) (k0_r : Bool → Bool → Option R) (rec0 : Int → LLM → Int → Bool → LLM → LLM → (List Duo) → (List (ByteArray × Bool)) → Option R) (z31 : Int) (z32 : LLM) (z33 : Int) (z34 : Bool) (z35 : LLM) (z36 : LLM) (z37 : (List Duo)) (z38 : (List (ByteArray × Bool))) : Option R :=
  f25_1.p1_e2' L N k0_e0 k0_r rec0 z31 z32 z33 z34 z35 z36 z37 z38
def f25_1.p1_r' {R : Type} (L N : Nat) (k0_e0 : Bool → Option R) (k0_r : Bool → Bool → Option R) (rec0 : Int → LLM → Int → Bool → LLM → LLM → (List Duo) → (List (ByteArray × Bool)) → Option R) (z43 : Int) (z44 : LLM) (z45 : Bool) (z46 : Int) (z47 : Bool) (z48 : LLM) (z49 : LLM) (z50 : (List Duo)) (z51 : (List (ByteArray × Bool))) : Option R :=
  k0_r z45 z47
def f25_1.p1_r {R : Type} (L N : Nat) (k0_e0 : Bool → Option R) (k0_r : Bool → Bool → Option R) (rec0 : Int → LLM → Int → Bool → LLM → LLM → (List Duo) → (List (ByteArray × Bool)) → Option R) (z43 : Int) (z44 : LLM) (z45 : Bool) (z46 : Int) (z47 : Bool) (z48 : LLM) (z49 : LLM) (z50 : (List Duo)) (z51 : (List (ByteArray × Bool))) : Option R :=
  f25_1.p1_r' L N k0_e0 k0_r rec0 z43 z44 z45 z46 z47 z48 z49 z50 z51
def f25_1.s0' {R : Type} (L N : Nat) (k0_e0 : Bool → Option R) (k0_r : Bool → Bool → Option R) (rec0 : Int → LLM → Int → Bool → LLM → LLM → (List Duo) → (List (ByteArray × Bool)) → Option R) (w1 : Int → LLM → Int → LI → Int → Int → Bool → LLM → LLM → LI → LI → LI → (List Duo) → (List (ByteArray × Bool)) → Option R) (s4 : Int) (s5 : LLM) (s6 : Int) (s7 : Bool) (s8 : LLM) (s9 : LLM) (s10 : (List Duo)) (s11 : (List (ByteArray × Bool))) : Option R :=
  bif (decide (s6 < (s10.length : Int))) then
    bif (decide (0 ≤ s6) && decide (s6 < (s10.length : Int))) then
      bif (decide ((s10.length : Int) > (400 : Int))) then
        k0_r false s7
      else (f26_1 L N s7 (Duo.mk ((listAt s10 (Ty.dflt (.st 4)) s6.toNat).a) ((listAt s10 (Ty.dflt (.st 4)) s6.toNat).b) ((listAt s10 (Ty.dflt (.st 4)) s6.toNat).w)) s5).bind fun y15 =>
      bif y15.1 then
        k0_r true y15.2
      else bif ((((listAt s10 (Ty.dflt (.st 4)) s6.toNat).w).length : Int) == s4) then
        rec0 s4 s5 (wi (s6 + (1 : Int))) y15.2 s8 s9 s10 s11
      else (f27 L N (Graph.mk s8) ((listAt s10 (Ty.dflt (.st 4)) s6.toNat).a)).bind fun y16 =>
      w1 s4 s5 s6 y16 (y16.length : Int) (0 : Int) y15.2 s8 s9 ((listAt s10 (Ty.dflt (.st 4)) s6.toNat).a) ((listAt s10 (Ty.dflt (.st 4)) s6.toNat).b) ((listAt s10 (Ty.dflt (.st 4)) s6.toNat).w) s10 s11
    else none
  else k0_e0 s7
def f25_1.s0 {R : Type} (L N : Nat) (k0_e0 : Bool → Option R) (k0_r : Bool → Bool → Option R) (rec0 : Int → LLM → Int → Bool → LLM → LLM → (List Duo) → (List (ByteArray × Bool)) → Option R) (s4 : Int) (s5 : LLM) (s6 : Int) (s7 : Bool) (s8 : LLM) (s9 : LLM) (s10 : (List Duo)) (s11 : (List (ByteArray × Bool))) : Option R :=
  f25_1.s0' L N k0_e0 k0_r rec0 (fun s17 s18 s19 s20 s21 s22 s23 s24 s25 s26 s27 s28 s29 s30 => f25_1.l1 L N (fun z31 z32 z33 z34 z35 z36 z37 z38 => f25_1.p1_e2 L N k0_e0 k0_r rec0 z31 z32 z33 z34 z35 z36 z37 z38) (fun z43 z44 z45 z46 z47 z48 z49 z50 z51 => f25_1.p1_r L N k0_e0 k0_r rec0 z43 z44 z45 z46 z47 z48 z49 z50 z51) L s17 s18 s19 s20 s21 s22 s23 s24 s25 s26 s27 s28 s29 s30) s4 s5 s6 s7 s8 s9 s10 s11
def f25_1.l0 {R : Type} (L N : Nat) (k0_e0 : Bool → Option R) (k0_r : Bool → Bool → Option R) : Nat → Int → LLM → Int → Bool → LLM → LLM → (List Duo) → (List (ByteArray × Bool)) → Option R
  | 0, _, _, _, _, _, _, _, _ => none
  | n + 1, s4, s5, s6, s7, s8, s9, s10, s11 => f25_1.s0 L N k0_e0 k0_r (f25_1.l0 L N k0_e0 k0_r n) s4 s5 s6 s7 s8 s9 s10 s11
def f25_1.T0 (s4 : Int) (s5 : LLM) (s6 : Int) (s7 : Bool) (s8 : LLM) (s9 : LLM) (s10 : (List Duo)) (s11 : (List (ByteArray × Bool))) : T := mkT 107 [(2, (.tv i64 s4)), (3, (.fn 26 [(.imp (.sl (.sl (.st 0))) s5 0), (.ptr 0 0)])), (4, (.ptr 1004 0)), (5, (.ptr 1005 0)), (9, (.row 1022)), (10, (.mp 1023)), (11, (.tv i64 s6))] ++ [.ptr 0 0]
def f25_1.H0 (s4 : Int) (s5 : LLM) (s6 : Int) (s7 : Bool) (s8 : LLM) (s9 : LLM) (s10 : (List Duo)) (s11 : (List (ByteArray × Bool))) : H := [(0, (.box [(.tv .bool s7)])), (1004, (.box [(.tv (.sl (.sl (.st 0))) s8)])), (1005, (.box [(.tv (.sl (.sl (.st 0))) s9)])), (1022, (.row 50 (.st 4) s10)), (1023, (.map .str .bool s11))]
def f25_1.T0_e0 (z12 : Bool) : T := mkT 107 [] ++ [.ptr 0 0]
def f25_1.H0_e0 (z12 : Bool) : H := [(0, (.box [(.tv .bool z12)]))]
def f25_1.T0_r (z13 : Bool) (z14 : Bool) : T := mkT 107 [(8, (.tv .bool z13))] ++ [.ptr 0 0]
def f25_1.H0_r (z13 : Bool) (z14 : Bool) : H := [(0, (.box [(.tv .bool z14)]))]
def f25_1.p0_e0' {R : Type} (L N : Nat) (k : Bool → Bool → Option R) (z12 : Bool) : Option R :=
  k true z12
def f25_1.p0_e0 {R : Type} (L N : Nat) (k : Bool → Bool → Option R) (z12 : Bool) : Option R :=
  f25_1.p0_e0' L N k z12
def f25_1.p0_r' {R : Type} (L N : Nat) (k : Bool → Bool → Option R) (z13 : Bool) (z14 : Bool) : Option R :=
  k z13 z14
def f25_1.p0_r {R : Type} (L N : Nat) (k : Bool → Bool → Option R) (z13 : Bool) (z14 : Bool) : Option R :=
  f25_1.p0_r' L N k z13 z14
def f25_1.b' {R : Type} (L N : Nat) (k : Bool → Bool → Option R) (w0 : Int → LLM → Int → Bool → LLM → LLM → (List Duo) → (List (ByteArray × Bool)) → Option R) (c0 : Bool) (x0 : Graph) (x1 : Graph) (x2 : Int) (x3 : LLM) : Option R :=
  (f33 L N (Graph.mk x0.moves) []).bind fun y0 =>
  (f33 L N (Graph.mk x1.moves) []).bind fun y1 =>
  bif (decide (0 ≤ (0 : Int)) && decide ((0 : Int) < (([(Duo.mk y0 y1 [])] : (List Duo)).length : Int))) then
    (f34 L N ((listAt ([(Duo.mk y0 y1 [])] : (List Duo)) (Ty.dflt (.st 4)) (0 : Int).toNat).a)).bind fun y2 =>
    bif (decide (0 ≤ (0 : Int)) && decide ((0 : Int) < (([(Duo.mk y0 y1 [])] : (List Duo)).length : Int))) then
      (f34 L N ((listAt ([(Duo.mk y0 y1 [])] : (List Duo)) (Ty.dflt (.st 4)) (0 : Int).toNat).b)).bind fun y3 =>
      bif (decide (y2.size + y3.size ≤ 4611686018427387904)) then
        w0 x2 x3 (0 : Int) c0 x0.moves x1.moves ([(Duo.mk y0 y1 [])] : (List Duo)) (mapPut .str .bool (y2 ++ y3) true ([] : (List (ByteArray × Bool))))
      else none
    else none
  else none
def f25_1.b {R : Type} (L N : Nat) (k : Bool → Bool → Option R) (c0 : Bool) (x0 : Graph) (x1 : Graph) (x2 : Int) (x3 : LLM) : Option R :=
  f25_1.b' L N k (fun s4 s5 s6 s7 s8 s9 s10 s11 => f25_1.l0 L N (fun z12 => f25_1.p0_e0 L N k z12) (fun z13 z14 => f25_1.p0_r L N k z13 z14) L s4 s5 s6 s7 s8 s9 s10 s11) c0 x0 x1 x2 x3
def f25_1 (L N : Nat) (c0 : Bool) (x0 : Graph) (x1 : Graph) (x2 : Int) (x3 : LLM) : Option (Bool × Bool) := f25_1.b L N (fun a0 a1 => some (a0, a1)) c0 x0 x1 x2 x3
def f25_1.ent (L N : Nat) (args : List AV) (vw : View) (_ : Nat) : Option Ans := match mutD [.bool] [(.sh (.dat (.st 2))), (.sh (.dat (.st 2))), (.sh (.dat i64)), (.fn 26 [(.sh (.imp (.sl (.sl (.st 0))) 0)), (.mut 0)])] vw args with
  | some (o, d0, d, u) => some ⟨Bool × Bool, f25_1 L N d0.1 d.1 d.2.1 d.2.2.1 d.2.2.2.1.1, fun y => ((.tv .bool y.1), u ++ [(o, some (.box [(.tv .bool y.2)]))], [])⟩
  | none => none
noncomputable def E25_1 (L N : Nat) : Env := { P := Tryd.prog, ty := tyOf, Φ := (Φ26_1 L N), inl := inlT, live := lives, liveX := livesX, L := L, dp := none, prom := promT, heal := healT, ren := renT, fresh := fun s => Nat.beq s 1081 }
noncomputable def f25_1.c0 : Code := loopAt 0 (codeOf Tryd.f25)
noncomputable def f25_1.c1 : Code := loopAt 2 f25_1.c0
def f25_1.X1_e2 {R : Type} (κ : KX R) := fun z31 z32 z33 z34 z35 z36 z37 z38 => κ (.exit 2) (f25_1.T1_e2 z31 z32 z33 z34 z35 z36 z37 z38) (f25_1.H1_e2 z31 z32 z33 z34 z35 z36 z37 z38)
def f25_1.X1_r {R : Type} (κ : KX R) := fun z43 z44 z45 z46 z47 z48 z49 z50 z51 => κ .ret (f25_1.T1_r z43 z44 z45 z46 z47 z48 z49 z50 z51) (f25_1.H1_r z43 z44 z45 z46 z47 z48 z49 z50 z51)
def f25_1.R1 {R : Type} (rec : KT R) := fun s17 s18 s19 s20 s21 s22 s23 s24 s25 s26 s27 s28 s29 s30 => rec (f25_1.T1 s17 s18 s19 s20 s21 s22 s23 s24 s25 s26 s27 s28 s29 s30) (f25_1.H1 s17 s18 s19 s20 s21 s22 s23 s24 s25 s26 s27 s28 s29 s30)
theorem f25_1.s1_eq {R : Type} (L N : Nat) (κ : KX R) (rec : KT R) (s17 : Int) (s18 : LLM) (s19 : Int) (s20 : LI) (s21 : Int) (s22 : Int) (s23 : Bool) (s24 : LLM) (s25 : LLM) (s26 : LI) (s27 : LI) (s28 : LI) (s29 : (List Duo)) (s30 : (List (ByteArray × Bool))) :
    evRd (E25_1 L N) (evCallI (E25_1 L N) 1 2000) 1000 25 107 2 f25_1.c1 κ rec (f25_1.T1 s17 s18 s19 s20 s21 s22 s23 s24 s25 s26 s27 s28 s29 s30) (f25_1.H1 s17 s18 s19 s20 s21 s22 s23 s24 s25 s26 s27 s28 s29 s30)
    = f25_1.s1 L N (f25_1.X1_e2 κ) (f25_1.X1_r κ) (f25_1.R1 rec) s17 s18 s19 s20 s21 s22 s23 s24 s25 s26 s27 s28 s29 s30 := by kernel_rfl
theorem f25_1.l1_eq {R : Type} (L N : Nat) (κ : KX R) : ∀ (n : Nat) (s17 : Int) (s18 : LLM) (s19 : Int) (s20 : LI) (s21 : Int) (s22 : Int) (s23 : Bool) (s24 : LLM) (s25 : LLM) (s26 : LI) (s27 : LI) (s28 : LI) (s29 : (List Duo)) (s30 : (List (ByteArray × Bool))),
    evLp (E25_1 L N) (evCallI (E25_1 L N) 1 2000) 1000 25 107 2 f25_1.c1 κ n (f25_1.T1 s17 s18 s19 s20 s21 s22 s23 s24 s25 s26 s27 s28 s29 s30) (f25_1.H1 s17 s18 s19 s20 s21 s22 s23 s24 s25 s26 s27 s28 s29 s30)
    = f25_1.l1 L N (f25_1.X1_e2 κ) (f25_1.X1_r κ) n s17 s18 s19 s20 s21 s22 s23 s24 s25 s26 s27 s28 s29 s30 := by
  intro n
  induction n with
  | zero => intros; rfl
  | succ n ih =>
    intro s17 s18 s19 s20 s21 s22 s23 s24 s25 s26 s27 s28 s29 s30
    rw [evLp_succ, f25_1.s1_eq]
    delta f25_1.R1
    simp only [ih]
    rfl
def f25_1.X0_e0 {R : Type} (κ : KX R) := fun z12 => κ (.exit 0) (f25_1.T0_e0 z12) (f25_1.H0_e0 z12)
def f25_1.X0_r {R : Type} (κ : KX R) := fun z13 z14 => κ .ret (f25_1.T0_r z13 z14) (f25_1.H0_r z13 z14)
def f25_1.R0 {R : Type} (rec : KT R) := fun s4 s5 s6 s7 s8 s9 s10 s11 => rec (f25_1.T0 s4 s5 s6 s7 s8 s9 s10 s11) (f25_1.H0 s4 s5 s6 s7 s8 s9 s10 s11)
theorem f25_1.p1_e2_eq {R : Type} (L N : Nat) (κ : KX R) (rec : KT R) (z31 : Int) (z32 : LLM) (z33 : Int) (z34 : Bool) (z35 : LLM) (z36 : LLM) (z37 : (List Duo)) (z38 : (List (ByteArray × Bool))) :
    (contAt (E25_1 L N) (evCallI (E25_1 L N) 1 2000) 1000 25 107 2 f25_1.c0 (rdK (E25_1 L N) 1000 25 107 0 κ rec)) (.exit 2) (f25_1.T1_e2 z31 z32 z33 z34 z35 z36 z37 z38) (f25_1.H1_e2 z31 z32 z33 z34 z35 z36 z37 z38)
    = f25_1.p1_e2 L N (f25_1.X0_e0 κ) (f25_1.X0_r κ) (f25_1.R0 rec) z31 z32 z33 z34 z35 z36 z37 z38 := by kernel_rfl
theorem f25_1.p1_r_eq {R : Type} (L N : Nat) (κ : KX R) (rec : KT R) (z43 : Int) (z44 : LLM) (z45 : Bool) (z46 : Int) (z47 : Bool) (z48 : LLM) (z49 : LLM) (z50 : (List Duo)) (z51 : (List (ByteArray × Bool))) :
    (contAt (E25_1 L N) (evCallI (E25_1 L N) 1 2000) 1000 25 107 2 f25_1.c0 (rdK (E25_1 L N) 1000 25 107 0 κ rec)) .ret (f25_1.T1_r z43 z44 z45 z46 z47 z48 z49 z50 z51) (f25_1.H1_r z43 z44 z45 z46 z47 z48 z49 z50 z51)
    = f25_1.p1_r L N (f25_1.X0_e0 κ) (f25_1.X0_r κ) (f25_1.R0 rec) z43 z44 z45 z46 z47 z48 z49 z50 z51 := by kernel_rfl
theorem f25_1.s0_eq {R : Type} (L N : Nat) (κ : KX R) (rec : KT R) (s4 : Int) (s5 : LLM) (s6 : Int) (s7 : Bool) (s8 : LLM) (s9 : LLM) (s10 : (List Duo)) (s11 : (List (ByteArray × Bool))) :
    evRd (E25_1 L N) (evCallI (E25_1 L N) 1 2000) 1000 25 107 0 f25_1.c0 κ rec (f25_1.T0 s4 s5 s6 s7 s8 s9 s10 s11) (f25_1.H0 s4 s5 s6 s7 s8 s9 s10 s11)
    = f25_1.s0 L N (f25_1.X0_e0 κ) (f25_1.X0_r κ) (f25_1.R0 rec) s4 s5 s6 s7 s8 s9 s10 s11 := by
  refine Eq.trans (b := f25_1.s0' L N (f25_1.X0_e0 κ) (f25_1.X0_r κ) (f25_1.R0 rec) (fun s17 s18 s19 s20 s21 s22 s23 s24 s25 s26 s27 s28 s29 s30 => evLp (E25_1 L N) (evCallI (E25_1 L N) 1 2000) 1000 25 107 2 f25_1.c1 (contAt (E25_1 L N) (evCallI (E25_1 L N) 1 2000) 1000 25 107 2 f25_1.c0 (rdK (E25_1 L N) 1000 25 107 0 κ rec)) L (f25_1.T1 s17 s18 s19 s20 s21 s22 s23 s24 s25 s26 s27 s28 s29 s30) (f25_1.H1 s17 s18 s19 s20 s21 s22 s23 s24 s25 s26 s27 s28 s29 s30)) s4 s5 s6 s7 s8 s9 s10 s11) (by kernel_rfl) ?_
  unfold f25_1.s0
  simp only [f25_1.l1_eq]
  delta f25_1.X1_e2 f25_1.X1_r
  simp only [f25_1.p1_e2_eq, f25_1.p1_r_eq]
theorem f25_1.l0_eq {R : Type} (L N : Nat) (κ : KX R) : ∀ (n : Nat) (s4 : Int) (s5 : LLM) (s6 : Int) (s7 : Bool) (s8 : LLM) (s9 : LLM) (s10 : (List Duo)) (s11 : (List (ByteArray × Bool))),
    evLp (E25_1 L N) (evCallI (E25_1 L N) 1 2000) 1000 25 107 0 f25_1.c0 κ n (f25_1.T0 s4 s5 s6 s7 s8 s9 s10 s11) (f25_1.H0 s4 s5 s6 s7 s8 s9 s10 s11)
    = f25_1.l0 L N (f25_1.X0_e0 κ) (f25_1.X0_r κ) n s4 s5 s6 s7 s8 s9 s10 s11 := by
  intro n
  induction n with
  | zero => intros; rfl
  | succ n ih =>
    intro s4 s5 s6 s7 s8 s9 s10 s11
    rw [evLp_succ, f25_1.s0_eq]
    delta f25_1.R0
    simp only [ih]
    rfl
theorem f25_1.p0_e0_eq {R : Type} (L N : Nat) (κ : AV → Dens [.bool] → Option R) (z12 : Bool) :
    (contAt (E25_1 L N) (evCallI (E25_1 L N) 1 2000) 1000 25 107 0 (codeOf Tryd.f25) (finK (E25_1 L N) 1000 Tryd.f25 (finM (.one .bool) [.bool] κ))) (.exit 0) (f25_1.T0_e0 z12) (f25_1.H0_e0 z12)
    = f25_1.p0_e0 L N (fun a0 a1 => κ (.tv .bool a0) (a1, ())) z12 := by kernel_rfl
theorem f25_1.p0_r_eq {R : Type} (L N : Nat) (κ : AV → Dens [.bool] → Option R) (z13 : Bool) (z14 : Bool) :
    (contAt (E25_1 L N) (evCallI (E25_1 L N) 1 2000) 1000 25 107 0 (codeOf Tryd.f25) (finK (E25_1 L N) 1000 Tryd.f25 (finM (.one .bool) [.bool] κ))) .ret (f25_1.T0_r z13 z14) (f25_1.H0_r z13 z14)
    = f25_1.p0_r L N (fun a0 a1 => κ (.tv .bool a0) (a1, ())) z13 z14 := by kernel_rfl
theorem f25_1.b_eq {R : Type} (L N : Nat) (κ : AV → Dens [.bool] → Option R) (c0 : Bool) (x0 : Graph) (x1 : Graph) (x2 : Int) (x3 : LLM) :
    evBody (E25_1 L N) (evCallI (E25_1 L N) 1 2000) 1000 25 Tryd.f25 [(.tv (.st 2) x0), (.tv (.st 2) x1), (.tv i64 x2), (.fn 26 [(.imp (.sl (.sl (.st 0))) x3 0), (.ptr 0 0)])] [.ptr 0 0] [(0, (.box [(.tv .bool c0)]))] (finM (.one .bool) [.bool] κ)
    = f25_1.b L N (fun a0 a1 => κ (.tv .bool a0) (a1, ())) c0 x0 x1 x2 x3 := by
  refine Eq.trans (b := f25_1.b' L N (fun a0 a1 => κ (.tv .bool a0) (a1, ())) (fun s4 s5 s6 s7 s8 s9 s10 s11 => evLp (E25_1 L N) (evCallI (E25_1 L N) 1 2000) 1000 25 107 0 f25_1.c0 (contAt (E25_1 L N) (evCallI (E25_1 L N) 1 2000) 1000 25 107 0 (codeOf Tryd.f25) (finK (E25_1 L N) 1000 Tryd.f25 (finM (.one .bool) [.bool] κ))) L (f25_1.T0 s4 s5 s6 s7 s8 s9 s10 s11) (f25_1.H0 s4 s5 s6 s7 s8 s9 s10 s11)) c0 x0 x1 x2 x3) (by kernel_rfl) ?_
  unfold f25_1.b
  simp only [f25_1.l0_eq]
  delta f25_1.X0_e0 f25_1.X0_r
  simp only [f25_1.p0_e0_eq, f25_1.p0_r_eq]
theorem f25_1.ok (L N : Nat) (hΦ : TellsOk Tryd.prog ((Φ26_1 L N))) : EntOkO Tryd.prog 25 (f25_1.ent L N) := by
  intro args vw site h a ha
  unfold f25_1.ent at ha
  split at ha
  · rename_i o d0 d u hd
    obtain rfl := Option.some.inj ha
    intro y hy hs
    obtain ⟨cs, ho, hd0, hr⟩ := mutD_some hd
    refine call_mut (y := y) (dep := 1000) (v' := (.tv .bool y.1)) (d1 := (y.2, ())) (E := (E25_1 L N)) (ts := [.bool]) (rs := (.one .bool)) (κ := (fun v d => (unR (.one .bool) v).bind fun x => some (x, d.1))) (sound_of hΦ) okP (callI_sound (sound_of hΦ) okP 1 2000) (f := Tryd.f25) rfl hs ho hd0 hr ?_ (fun _ _ h => by obtain ⟨x, h1, h2⟩ := unR_bind h; obtain rfl := Option.some.inj h2; exact ⟨h1, rfl⟩) site
    exact (f25_1.b_eq L N (fun v d => (unR (.one .bool) v).bind fun x => some (x, d.1)) d0.1 d.1 d.2.1 d.2.2.1 d.2.2.2.1.1).trans (Eq.trans (b := f25_1.b L N (fun a0 a1 => some (a0, a1)) d0.1 d.1 d.2.1 d.2.2.1 d.2.2.2.1.1) (by kernel_rfl) hy)
  · cases ha
def Φ25_1 (L N : Nat) : Tells := (addO (Φ26_1 L N) 25 (f25_1.ent L N))
theorem Φ25_1_ok (L N : Nat) : TellsOk Tryd.prog (Φ25_1 L N) := addO_ok (Φ26_1_ok L N) (f25_1.ok L N (Φ26_1_ok L N))
def f8.j0' {R : Type} (L N : Nat) (k : Bool → Bool → Option R) (v4 : LLM) : Option R :=
  (f25_1 L N false (Graph.mk v4) (Graph.mk v4) (-1 : Int) v4).bind fun y5 =>
  bif (!y5.1) then
    k false false
  else k (!y5.2) true
def f8.b' {R : Type} (L N : Nat) (k : Bool → Bool → Option R) (x0 : Graph) : Option R :=
  (f23 L N (Graph.mk x0.moves)).bind fun y0 =>
  bif (!y0) then
    k false false
  else (f24 L N (Graph.mk x0.moves)).bind fun y1 =>
  bif y1 then
    k false false
  else f8.j0' L N k x0.moves
def f8.b {R : Type} (L N : Nat) (k : Bool → Bool → Option R) (x0 : Graph) : Option R :=
  f8.b' L N k x0
def f8 (L N : Nat) (x0 : Graph) : Option (Bool × Bool) := f8.b L N (fun a0 a1 => some (a0, a1)) x0
def f8.ent (L N : Nat) := entRo [(.st 2)] (.many [.bool, .bool]) fun d => f8 L N d.1
noncomputable def E8 (L N : Nat) : Env := { P := Tryd.prog, ty := tyOf, Φ := (Φ25_1 L N), inl := inlT, live := lives, liveX := livesX, L := L, dp := none, prom := promT, heal := healT, ren := renT }
theorem f8.b_eq {R : Type} (L N : Nat) (κ : AV → Option R) (x0 : Graph) :
    evBody (E8 L N) (evCallI (E8 L N) 1 2000) 1000 8 Tryd.f8 [(.tv (.st 2) x0)] [] [] (finC (.many [.bool, .bool]) κ)
    = f8.b L N (fun a0 a1 => κ (.tup [(.tv .bool a0), (.tv .bool a1)])) x0 := by kernel_rfl
theorem f8.ok (L N : Nat) (hΦ : TellsOk Tryd.prog ((Φ25_1 L N))) : EntOk Tryd.prog 8 (f8.ent L N) := entRo_ok (E := (E8 L N)) (dep := 1000) (f := Tryd.f8) (sound_of hΦ) okP (callI_sound (sound_of hΦ) okP 1 2000) rfl rfl fun d _ hy => (f8.b_eq L N (unR (.many [.bool, .bool])) d.1).trans (Eq.trans (b := f8.b L N (fun a0 a1 => some (a0, a1)) d.1) (by kernel_rfl) hy)
def Φ8 (L N : Nat) : Tells := (addT (Φ25_1 L N) 8 (f8.ent L N))
theorem Φ8_ok (L N : Nat) : TellsOk Tryd.prog (Φ8 L N) := addT_ok (Φ25_1_ok L N) (f8.ok L N (Φ25_1_ok L N))
def f75.b' {R : Type} (L N : Nat) (k : Bool → Option R) (x0 : Move) (x1 : Move) : Option R :=
  bif (x0.act != x1.act) then
    k false
  else bif (x0.to != x1.to) then
    k false
  else k true
def f75.b {R : Type} (L N : Nat) (k : Bool → Option R) (x0 : Move) (x1 : Move) : Option R :=
  f75.b' L N k x0 x1
def f75 (L N : Nat) (x0 : Move) (x1 : Move) : Option (Bool) := f75.b L N some x0 x1
def f75.ent (L N : Nat) := entRo [(.st 0), (.st 0)] (.one .bool) fun d => f75 L N d.1 d.2.1
noncomputable def E75 (L N : Nat) : Env := { P := Tryd.prog, ty := tyOf, Φ := (Φ8 L N), inl := inlT, live := lives, liveX := livesX, L := L, dp := none, prom := promT, heal := healT, ren := renT }
theorem f75.b_eq {R : Type} (L N : Nat) (κ : AV → Option R) (x0 : Move) (x1 : Move) :
    evBody (E75 L N) (evCallI (E75 L N) 1 2000) 1000 75 Tryd.f75 [(.tv (.st 0) x0), (.tv (.st 0) x1)] [] [] (finC (.one .bool) κ)
    = f75.b L N (fun a0 => κ (.tv .bool a0)) x0 x1 := by kernel_rfl
theorem f75.ok (L N : Nat) (hΦ : TellsOk Tryd.prog ((Φ8 L N))) : EntOk Tryd.prog 75 (f75.ent L N) := entRo_ok (E := (E75 L N)) (dep := 1000) (f := Tryd.f75) (sound_of hΦ) okP (callI_sound (sound_of hΦ) okP 1 2000) rfl rfl fun d _ hy => (f75.b_eq L N (unR (.one .bool)) d.1 d.2.1).trans (Eq.trans (b := f75.b L N some d.1 d.2.1) (by kernel_rfl) hy)
def Φ75 (L N : Nat) : Tells := (addT (Φ8 L N) 75 (f75.ent L N))
theorem Φ75_ok (L N : Nat) : TellsOk Tryd.prog (Φ75 L N) := addT_ok (Φ8_ok L N) (f75.ok L N (Φ8_ok L N))
def f62.s0' {R : Type} (L N : Nat) (k0_e0 : Option R) (k0_r : Bool → Option R) (rec0 : LM → LM → Int → Option R) (s0 : LM) (s1 : LM) (s2 : Int) : Option R :=
  bif (decide (s2 < (s0.length : Int))) then
    bif (decide (0 ≤ s2) && decide (s2 < (s0.length : Int))) then
      bif (decide (0 ≤ s2) && decide (s2 < (s1.length : Int))) then
        (f75 L N (listAt s0 (Ty.dflt (.st 0)) s2.toNat) (listAt s1 (Ty.dflt (.st 0)) s2.toNat)).bind fun y3 =>
        bif (!y3) then
          k0_r false
        else rec0 s0 s1 (wi (s2 + (1 : Int)))
      else none
    else none
  else k0_e0
def f62.s0 {R : Type} (L N : Nat) (k0_e0 : Option R) (k0_r : Bool → Option R) (rec0 : LM → LM → Int → Option R) (s0 : LM) (s1 : LM) (s2 : Int) : Option R :=
  f62.s0' L N k0_e0 k0_r rec0 s0 s1 s2
def f62.l0 {R : Type} (L N : Nat) (k0_e0 : Option R) (k0_r : Bool → Option R) : Nat → LM → LM → Int → Option R
  | 0, _, _, _ => none
  | n + 1, s0, s1, s2 => f62.s0 L N k0_e0 k0_r (f62.l0 L N k0_e0 k0_r n) s0 s1 s2
def f62.T0 (s0 : LM) (s1 : LM) (s2 : Int) : T := mkT 27 [(0, (.tv (.sl (.st 0)) s0)), (1, (.tv (.sl (.st 0)) s1)), (5, (.tv i64 s2))]
def f62.H0 (s0 : LM) (s1 : LM) (s2 : Int) : H := []
def f62.T0_e0 : T := mkT 27 []
def f62.H0_e0 : H := []
def f62.T0_r (z4 : Bool) : T := mkT 27 [(4, (.tv .bool z4))]
def f62.H0_r (z4 : Bool) : H := []
def f62.p0_e0' {R : Type} (L N : Nat) (k : Bool → Option R) : Option R :=
  k true
def f62.p0_e0 {R : Type} (L N : Nat) (k : Bool → Option R) : Option R :=
  f62.p0_e0' L N k
def f62.p0_r' {R : Type} (L N : Nat) (k : Bool → Option R) (z4 : Bool) : Option R :=
  k z4
def f62.p0_r {R : Type} (L N : Nat) (k : Bool → Option R) (z4 : Bool) : Option R :=
  f62.p0_r' L N k z4
def f62.b' {R : Type} (L N : Nat) (k : Bool → Option R) (w0 : LM → LM → Int → Option R) (x0 : LM) (x1 : LM) : Option R :=
  bif ((x0.length : Int) != (x1.length : Int)) then
    k false
  else w0 x0 x1 (0 : Int)
def f62.b {R : Type} (L N : Nat) (k : Bool → Option R) (x0 : LM) (x1 : LM) : Option R :=
  f62.b' L N k (fun s0 s1 s2 => f62.l0 L N (f62.p0_e0 L N k) (fun z4 => f62.p0_r L N k z4) L s0 s1 s2) x0 x1
def f62 (L N : Nat) (x0 : LM) (x1 : LM) : Option (Bool) := f62.b L N some x0 x1
def f62.ent (L N : Nat) := entRo [(.sl (.st 0)), (.sl (.st 0))] (.one .bool) fun d => f62 L N d.1 d.2.1
noncomputable def E62 (L N : Nat) : Env := { P := Tryd.prog, ty := tyOf, Φ := (Φ75 L N), inl := inlT, live := lives, liveX := livesX, L := L, dp := none, prom := promT, heal := healT, ren := renT }
noncomputable def f62.c0 : Code := loopAt 0 (codeOf Tryd.f62)
def f62.X0_e0 {R : Type} (κ : KX R) := κ (.exit 0) f62.T0_e0 f62.H0_e0
def f62.X0_r {R : Type} (κ : KX R) := fun z4 => κ .ret (f62.T0_r z4) (f62.H0_r z4)
def f62.R0 {R : Type} (rec : KT R) := fun s0 s1 s2 => rec (f62.T0 s0 s1 s2) (f62.H0 s0 s1 s2)
theorem f62.s0_eq {R : Type} (L N : Nat) (κ : KX R) (rec : KT R) (s0 : LM) (s1 : LM) (s2 : Int) :
    evRd (E62 L N) (evCallI (E62 L N) 1 2000) 1000 62 27 0 f62.c0 κ rec (f62.T0 s0 s1 s2) (f62.H0 s0 s1 s2)
    = f62.s0 L N (f62.X0_e0 κ) (f62.X0_r κ) (f62.R0 rec) s0 s1 s2 := by kernel_rfl
theorem f62.l0_eq {R : Type} (L N : Nat) (κ : KX R) : ∀ (n : Nat) (s0 : LM) (s1 : LM) (s2 : Int),
    evLp (E62 L N) (evCallI (E62 L N) 1 2000) 1000 62 27 0 f62.c0 κ n (f62.T0 s0 s1 s2) (f62.H0 s0 s1 s2)
    = f62.l0 L N (f62.X0_e0 κ) (f62.X0_r κ) n s0 s1 s2 := by
  intro n
  induction n with
  | zero => intros; rfl
  | succ n ih =>
    intro s0 s1 s2
    rw [evLp_succ, f62.s0_eq]
    delta f62.R0
    simp only [ih]
    rfl
theorem f62.p0_e0_eq {R : Type} (L N : Nat) (κ : AV → Option R) :
    (contAt (E62 L N) (evCallI (E62 L N) 1 2000) 1000 62 27 0 (codeOf Tryd.f62) (finK (E62 L N) 1000 Tryd.f62 (finC (.one .bool) κ))) (.exit 0) f62.T0_e0 f62.H0_e0
    = f62.p0_e0 L N (fun a0 => κ (.tv .bool a0)) := by kernel_rfl
theorem f62.p0_r_eq {R : Type} (L N : Nat) (κ : AV → Option R) (z4 : Bool) :
    (contAt (E62 L N) (evCallI (E62 L N) 1 2000) 1000 62 27 0 (codeOf Tryd.f62) (finK (E62 L N) 1000 Tryd.f62 (finC (.one .bool) κ))) .ret (f62.T0_r z4) (f62.H0_r z4)
    = f62.p0_r L N (fun a0 => κ (.tv .bool a0)) z4 := by kernel_rfl
theorem f62.b_eq {R : Type} (L N : Nat) (κ : AV → Option R) (x0 : LM) (x1 : LM) :
    evBody (E62 L N) (evCallI (E62 L N) 1 2000) 1000 62 Tryd.f62 [(.tv (.sl (.st 0)) x0), (.tv (.sl (.st 0)) x1)] [] [] (finC (.one .bool) κ)
    = f62.b L N (fun a0 => κ (.tv .bool a0)) x0 x1 := by
  refine Eq.trans (b := f62.b' L N (fun a0 => κ (.tv .bool a0)) (fun s0 s1 s2 => evLp (E62 L N) (evCallI (E62 L N) 1 2000) 1000 62 27 0 f62.c0 (contAt (E62 L N) (evCallI (E62 L N) 1 2000) 1000 62 27 0 (codeOf Tryd.f62) (finK (E62 L N) 1000 Tryd.f62 (finC (.one .bool) κ))) L (f62.T0 s0 s1 s2) (f62.H0 s0 s1 s2)) x0 x1) (by kernel_rfl) ?_
  unfold f62.b
  simp only [f62.l0_eq]
  delta f62.X0_e0 f62.X0_r
  simp only [f62.p0_e0_eq, f62.p0_r_eq]
theorem f62.ok (L N : Nat) (hΦ : TellsOk Tryd.prog ((Φ75 L N))) : EntOk Tryd.prog 62 (f62.ent L N) := entRo_ok (E := (E62 L N)) (dep := 1000) (f := Tryd.f62) (sound_of hΦ) okP (callI_sound (sound_of hΦ) okP 1 2000) rfl rfl fun d _ hy => (f62.b_eq L N (unR (.one .bool)) d.1 d.2.1).trans (Eq.trans (b := f62.b L N some d.1 d.2.1) (by kernel_rfl) hy)
def Φ62 (L N : Nat) : Tells := (addT (Φ75 L N) 62 (f62.ent L N))
theorem Φ62_ok (L N : Nat) : TellsOk Tryd.prog (Φ62 L N) := addT_ok (Φ75_ok L N) (f62.ok L N (Φ75_ok L N))
def f31.s0' {R : Type} (L N : Nat) (k0_e0 : Option R) (k0_r : Bool → Option R) (rec0 : LLM → LLM → Int → Option R) (s0 : LLM) (s1 : LLM) (s2 : Int) : Option R :=
  bif (decide (s2 < (s0.length : Int))) then
    bif (decide (0 ≤ s2) && decide (s2 < (s0.length : Int))) then
      bif (decide (0 ≤ s2) && decide (s2 < (s1.length : Int))) then
        (f62 L N (listAt s0 [] s2.toNat) (listAt s1 [] s2.toNat)).bind fun y3 =>
        bif (!y3) then
          k0_r false
        else rec0 s0 s1 (wi (s2 + (1 : Int)))
      else none
    else none
  else k0_e0
def f31.s0 {R : Type} (L N : Nat) (k0_e0 : Option R) (k0_r : Bool → Option R) (rec0 : LLM → LLM → Int → Option R) (s0 : LLM) (s1 : LLM) (s2 : Int) : Option R :=
  f31.s0' L N k0_e0 k0_r rec0 s0 s1 s2
def f31.l0 {R : Type} (L N : Nat) (k0_e0 : Option R) (k0_r : Bool → Option R) : Nat → LLM → LLM → Int → Option R
  | 0, _, _, _ => none
  | n + 1, s0, s1, s2 => f31.s0 L N k0_e0 k0_r (f31.l0 L N k0_e0 k0_r n) s0 s1 s2
def f31.T0 (s0 : LLM) (s1 : LLM) (s2 : Int) : T := mkT 27 [(0, (.tv (.sl (.sl (.st 0))) s0)), (1, (.tv (.sl (.sl (.st 0))) s1)), (5, (.tv i64 s2))]
def f31.H0 (s0 : LLM) (s1 : LLM) (s2 : Int) : H := []
def f31.T0_e0 : T := mkT 27 []
def f31.H0_e0 : H := []
def f31.T0_r (z4 : Bool) : T := mkT 27 [(4, (.tv .bool z4))]
def f31.H0_r (z4 : Bool) : H := []
def f31.p0_e0' {R : Type} (L N : Nat) (k : Bool → Option R) : Option R :=
  k true
def f31.p0_e0 {R : Type} (L N : Nat) (k : Bool → Option R) : Option R :=
  f31.p0_e0' L N k
def f31.p0_r' {R : Type} (L N : Nat) (k : Bool → Option R) (z4 : Bool) : Option R :=
  k z4
def f31.p0_r {R : Type} (L N : Nat) (k : Bool → Option R) (z4 : Bool) : Option R :=
  f31.p0_r' L N k z4
def f31.b' {R : Type} (L N : Nat) (k : Bool → Option R) (w0 : LLM → LLM → Int → Option R) (x0 : LLM) (x1 : LLM) : Option R :=
  bif ((x0.length : Int) != (x1.length : Int)) then
    k false
  else w0 x0 x1 (0 : Int)
def f31.b {R : Type} (L N : Nat) (k : Bool → Option R) (x0 : LLM) (x1 : LLM) : Option R :=
  f31.b' L N k (fun s0 s1 s2 => f31.l0 L N (f31.p0_e0 L N k) (fun z4 => f31.p0_r L N k z4) L s0 s1 s2) x0 x1
def f31 (L N : Nat) (x0 : LLM) (x1 : LLM) : Option (Bool) := f31.b L N some x0 x1
def f31.ent (L N : Nat) := entRo [(.sl (.sl (.st 0))), (.sl (.sl (.st 0)))] (.one .bool) fun d => f31 L N d.1 d.2.1
noncomputable def E31 (L N : Nat) : Env := { P := Tryd.prog, ty := tyOf, Φ := (Φ62 L N), inl := inlT, live := lives, liveX := livesX, L := L, dp := none, prom := promT, heal := healT, ren := renT }
noncomputable def f31.c0 : Code := loopAt 0 (codeOf Tryd.f31)
def f31.X0_e0 {R : Type} (κ : KX R) := κ (.exit 0) f31.T0_e0 f31.H0_e0
def f31.X0_r {R : Type} (κ : KX R) := fun z4 => κ .ret (f31.T0_r z4) (f31.H0_r z4)
def f31.R0 {R : Type} (rec : KT R) := fun s0 s1 s2 => rec (f31.T0 s0 s1 s2) (f31.H0 s0 s1 s2)
theorem f31.s0_eq {R : Type} (L N : Nat) (κ : KX R) (rec : KT R) (s0 : LLM) (s1 : LLM) (s2 : Int) :
    evRd (E31 L N) (evCallI (E31 L N) 1 2000) 1000 31 27 0 f31.c0 κ rec (f31.T0 s0 s1 s2) (f31.H0 s0 s1 s2)
    = f31.s0 L N (f31.X0_e0 κ) (f31.X0_r κ) (f31.R0 rec) s0 s1 s2 := by kernel_rfl
theorem f31.l0_eq {R : Type} (L N : Nat) (κ : KX R) : ∀ (n : Nat) (s0 : LLM) (s1 : LLM) (s2 : Int),
    evLp (E31 L N) (evCallI (E31 L N) 1 2000) 1000 31 27 0 f31.c0 κ n (f31.T0 s0 s1 s2) (f31.H0 s0 s1 s2)
    = f31.l0 L N (f31.X0_e0 κ) (f31.X0_r κ) n s0 s1 s2 := by
  intro n
  induction n with
  | zero => intros; rfl
  | succ n ih =>
    intro s0 s1 s2
    rw [evLp_succ, f31.s0_eq]
    delta f31.R0
    simp only [ih]
    rfl
theorem f31.p0_e0_eq {R : Type} (L N : Nat) (κ : AV → Option R) :
    (contAt (E31 L N) (evCallI (E31 L N) 1 2000) 1000 31 27 0 (codeOf Tryd.f31) (finK (E31 L N) 1000 Tryd.f31 (finC (.one .bool) κ))) (.exit 0) f31.T0_e0 f31.H0_e0
    = f31.p0_e0 L N (fun a0 => κ (.tv .bool a0)) := by kernel_rfl
theorem f31.p0_r_eq {R : Type} (L N : Nat) (κ : AV → Option R) (z4 : Bool) :
    (contAt (E31 L N) (evCallI (E31 L N) 1 2000) 1000 31 27 0 (codeOf Tryd.f31) (finK (E31 L N) 1000 Tryd.f31 (finC (.one .bool) κ))) .ret (f31.T0_r z4) (f31.H0_r z4)
    = f31.p0_r L N (fun a0 => κ (.tv .bool a0)) z4 := by kernel_rfl
theorem f31.b_eq {R : Type} (L N : Nat) (κ : AV → Option R) (x0 : LLM) (x1 : LLM) :
    evBody (E31 L N) (evCallI (E31 L N) 1 2000) 1000 31 Tryd.f31 [(.tv (.sl (.sl (.st 0))) x0), (.tv (.sl (.sl (.st 0))) x1)] [] [] (finC (.one .bool) κ)
    = f31.b L N (fun a0 => κ (.tv .bool a0)) x0 x1 := by
  refine Eq.trans (b := f31.b' L N (fun a0 => κ (.tv .bool a0)) (fun s0 s1 s2 => evLp (E31 L N) (evCallI (E31 L N) 1 2000) 1000 31 27 0 f31.c0 (contAt (E31 L N) (evCallI (E31 L N) 1 2000) 1000 31 27 0 (codeOf Tryd.f31) (finK (E31 L N) 1000 Tryd.f31 (finC (.one .bool) κ))) L (f31.T0 s0 s1 s2) (f31.H0 s0 s1 s2)) x0 x1) (by kernel_rfl) ?_
  unfold f31.b
  simp only [f31.l0_eq]
  delta f31.X0_e0 f31.X0_r
  simp only [f31.p0_e0_eq, f31.p0_r_eq]
theorem f31.ok (L N : Nat) (hΦ : TellsOk Tryd.prog ((Φ62 L N))) : EntOk Tryd.prog 31 (f31.ent L N) := entRo_ok (E := (E31 L N)) (dep := 1000) (f := Tryd.f31) (sound_of hΦ) okP (callI_sound (sound_of hΦ) okP 1 2000) rfl rfl fun d _ hy => (f31.b_eq L N (unR (.one .bool)) d.1 d.2.1).trans (Eq.trans (b := f31.b L N some d.1 d.2.1) (by kernel_rfl) hy)
def Φ31 (L N : Nat) : Tells := (addT (Φ62 L N) 31 (f31.ent L N))
theorem Φ31_ok (L N : Nat) : TellsOk Tryd.prog (Φ31 L N) := addT_ok (Φ62_ok L N) (f31.ok L N (Φ62_ok L N))
def f9.b' {R : Type} (L N : Nat) (k : Bool → Option R) (x0 : Graph) (x1 : Graph) : Option R :=
  (f31 L N x0.moves x1.moves).bind fun y0 =>
  bif (!y0) then
    k false
  else k true
def f9.b {R : Type} (L N : Nat) (k : Bool → Option R) (x0 : Graph) (x1 : Graph) : Option R :=
  f9.b' L N k x0 x1
def f9 (L N : Nat) (x0 : Graph) (x1 : Graph) : Option (Bool) := f9.b L N some x0 x1
def f9.ent (L N : Nat) := entRo [(.st 2), (.st 2)] (.one .bool) fun d => f9 L N d.1 d.2.1
noncomputable def E9 (L N : Nat) : Env := { P := Tryd.prog, ty := tyOf, Φ := (Φ31 L N), inl := inlT, live := lives, liveX := livesX, L := L, dp := none, prom := promT, heal := healT, ren := renT }
theorem f9.b_eq {R : Type} (L N : Nat) (κ : AV → Option R) (x0 : Graph) (x1 : Graph) :
    evBody (E9 L N) (evCallI (E9 L N) 1 2000) 1000 9 Tryd.f9 [(.tv (.st 2) x0), (.tv (.st 2) x1)] [] [] (finC (.one .bool) κ)
    = f9.b L N (fun a0 => κ (.tv .bool a0)) x0 x1 := by kernel_rfl
theorem f9.ok (L N : Nat) (hΦ : TellsOk Tryd.prog ((Φ31 L N))) : EntOk Tryd.prog 9 (f9.ent L N) := entRo_ok (E := (E9 L N)) (dep := 1000) (f := Tryd.f9) (sound_of hΦ) okP (callI_sound (sound_of hΦ) okP 1 2000) rfl rfl fun d _ hy => (f9.b_eq L N (unR (.one .bool)) d.1 d.2.1).trans (Eq.trans (b := f9.b L N some d.1 d.2.1) (by kernel_rfl) hy)
def Φ9 (L N : Nat) : Tells := (addT (Φ31 L N) 9 (f9.ent L N))
theorem Φ9_ok (L N : Nat) : TellsOk Tryd.prog (Φ9 L N) := addT_ok (Φ31_ok L N) (f9.ok L N (Φ31_ok L N))
def f3.j0' {R : Type} (L N : Nat) (k : Bool → Option R) (v8 : LLM) (v9 : LLM) : Option R :=
  (f7 L N (Graph.mk v8)).bind fun y10 =>
  (f9 L N (Graph.mk v9) (Graph.mk y10)).bind fun y11 =>
  bif (!y11) then
    k false
  else k true
def f3.b' {R : Type} (L N : Nat) (k : Bool → Option R) (x0 : Graph) : Option R :=
  (f5 L N (Graph.mk x0.moves) (1048576 : Int)).bind fun y0 =>
  bif (decide (y0 < (0 : Int))) then
    k true
  else (f7 L N (Graph.mk x0.moves)).bind fun y1 =>
  (f6 L N (Graph.mk y1)).bind fun y2 =>
  (f7 L N (Graph.mk x0.moves)).bind fun y3 =>
  (f8 L N (Graph.mk y3)).bind fun y4 =>
  bif (!(y4.1 == y2.1)) then
    k false
  else bif (!(y4.2 == y2.2)) then
    k false
  else f3.j0' L N k x0.moves y3
def f3.b {R : Type} (L N : Nat) (k : Bool → Option R) (x0 : Graph) : Option R :=
  f3.b' L N k x0
def f3 (L N : Nat) (x0 : Graph) : Option (Bool) := f3.b L N some x0
def f3.ent (L N : Nat) := entRo [(.st 2)] (.one .bool) fun d => f3 L N d.1
noncomputable def E3 (L N : Nat) : Env := { P := Tryd.prog, ty := tyOf, Φ := (Φ9 L N), inl := inlT, live := lives, liveX := livesX, L := L, dp := none, prom := promT, heal := healT, ren := renT }
theorem f3.b_eq {R : Type} (L N : Nat) (κ : AV → Option R) (x0 : Graph) :
    evBody (E3 L N) (evCallI (E3 L N) 1 2000) 1000 3 Tryd.f3 [(.tv (.st 2) x0)] [] [] (finC (.one .bool) κ)
    = f3.b L N (fun a0 => κ (.tv .bool a0)) x0 := by kernel_rfl
theorem f3.ok (L N : Nat) (hΦ : TellsOk Tryd.prog ((Φ9 L N))) : EntOk Tryd.prog 3 (f3.ent L N) := entRo_ok (E := (E3 L N)) (dep := 1000) (f := Tryd.f3) (sound_of hΦ) okP (callI_sound (sound_of hΦ) okP 1 2000) rfl rfl fun d _ hy => (f3.b_eq L N (unR (.one .bool)) d.1).trans (Eq.trans (b := f3.b L N some d.1) (by kernel_rfl) hy)
def Φ3 (L N : Nat) : Tells := (addT (Φ9 L N) 3 (f3.ent L N))
theorem Φ3_ok (L N : Nat) : TellsOk Tryd.prog (Φ3 L N) := addT_ok (Φ9_ok L N) (f3.ok L N (Φ9_ok L N))
end Go.Proofs.YtffkhhblppfbfaaDoor.Ev
