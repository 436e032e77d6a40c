/- The seat's functions as plain functions, continued: made by program (wip/gen/gen.py). -/
import Derived.Test.YtdfjdbpklbehoaaGD14a
namespace Go.Proofs.Ytdfjdbpklbehoaa.Ev
open Go
set_option linter.unusedVariables false
set_option maxRecDepth 20000
def f87.s2 {R : Type} (L N : Nat) (k2_e4 : Bool → LLB → Int → Int → LLM → LM → LLM → Option R) (rec2 : Bool → LLB → Int → Int → Int → LLM → LM → LLM → Option R) (s27 : Bool) (s28 : LLB) (s29 : Int) (s30 : Int) (s31 : Int) (s32 : LLM) (s33 : LM) (s34 : LLM) : Option R :=
  f87.s2' L N k2_e4 rec2 (fun s42 s43 s44 s45 s46 s47 s48 s49 s50 s51 s52 => f87.l3 L N (fun z53 z54 z55 z56 z57 z58 z59 z60 => f87.p3_e6 L N k2_e4 rec2 z53 z54 z55 z56 z57 z58 z59 z60) L s42 s43 s44 s45 s46 s47 s48 s49 s50 s51 s52) s27 s28 s29 s30 s31 s32 s33 s34
def f87.l2 {R : Type} (L N : Nat) (k2_e4 : Bool → LLB → Int → Int → LLM → LM → LLM → Option R) : Nat → Bool → LLB → Int → Int → Int → LLM → LM → LLM → Option R
  | 0, _, _, _, _, _, _, _, _ => none
  | n + 1, s27, s28, s29, s30, s31, s32, s33, s34 => f87.s2 L N k2_e4 (f87.l2 L N k2_e4 n) s27 s28 s29 s30 s31 s32 s33 s34
def f87.T2 (s27 : Bool) (s28 : LLB) (s29 : Int) (s30 : Int) (s31 : Int) (s32 : LLM) (s33 : LM) (s34 : LLM) : T := mkT 94 [(1, (.tv .bool s27)), (2, (.ptr 1002 0)), (4, (.ptr 1004 0)), (5, (.tv (.sl (.sl .bool)) s28)), (6, (.ptr 1006 0)), (7, (.tv i64 s29)), (8, (.row 1023)), (9, (.tv i64 s30)), (10, (.tv i64 s31))]
def f87.H2 (s27 : Bool) (s28 : LLB) (s29 : Int) (s30 : Int) (s31 : Int) (s32 : LLM) (s33 : LM) (s34 : LLM) : H := [(1002, (.box [(.tv (.sl (.sl (.st 0))) s32)])), (1004, (.box [.nil])), (1006, (.box [(.row 1900)])), (1023, (.row 53 (.st 0) s33)), (1900, (.row 51 (.sl (.st 0)) s34))]
def f87.T2_e4 (z35 : Bool) (z36 : LLB) (z37 : Int) (z38 : Int) (z39 : LLM) (z40 : LM) (z41 : LLM) : T := mkT 94 [(1, (.tv .bool z35)), (2, (.ptr 1002 0)), (4, (.ptr 1004 0)), (5, (.tv (.sl (.sl .bool)) z36)), (6, (.ptr 1006 0)), (7, (.tv i64 z37)), (8, (.row 1023)), (9, (.tv i64 z38))]
def f87.H2_e4 (z35 : Bool) (z36 : LLB) (z37 : Int) (z38 : Int) (z39 : LLM) (z40 : LM) (z41 : LLM) : H := [(1002, (.box [(.tv (.sl (.sl (.st 0))) z39)])), (1004, (.box [.nil])), (1006, (.box [(.row 1900)])), (1023, (.row 53 (.st 0) z40)), (1900, (.row 51 (.sl (.st 0)) z41))]
def f87.p2_e4' {R : Type} (L N : Nat) (k1_e2 : Bool → LLB → Int → LLM → LM → LLM → Option R) (rec1 : Bool → LLB → Int → Int → LLM → LM → LLM → Option R) (z35 : Bool) (z36 : LLB) (z37 : Int) (z38 : Int) (z39 : LLM) (z40 : LM) (z41 : LLM) : Option R :=
  rec1 z35 z36 z37 (wi (z38 + (1 : Int))) z39 z40 z41
def f87.p2_e4 {R : Type} (L N : Nat) (k1_e2 : Bool → LLB → Int → LLM → LM → LLM → Option R) (rec1 : Bool → LLB → Int → Int → LLM → LM → LLM → Option R) (z35 : Bool) (z36 : LLB) (z37 : Int) (z38 : Int) (z39 : LLM) (z40 : LM) (z41 : LLM) : Option R :=
  f87.p2_e4' L N k1_e2 rec1 z35 z36 z37 z38 z39 z40 z41
def f87.j0' {R : Type} (L N : Nat) (k1_e2 : Bool → LLB → Int → LLM → LM → LLM → Option R) (rec1 : Bool → LLB → Int → Int → LLM → LM → LLM → Option R) (w2 : Bool → LLB → Int → Int → Int → LLM → LM → LLM → Option R) (v20 : Bool) (v21 : LLB) (v22 : Int) (v23 : Int) (v24 : LLM) (v25 : LM) (v26 : LLM) : Option R :=
  w2 v20 v21 v22 v23 (0 : Int) v24 v25 v26
def f87.s1' {R : Type} (L N : Nat) (k1_e2 : Bool → LLB → Int → LLM → LM → LLM → Option R) (rec1 : Bool → LLB → Int → Int → LLM → LM → LLM → Option R) (w2 : Bool → LLB → Int → Int → Int → LLM → LM → LLM → Option R) (s7 : Bool) (s8 : LLB) (s9 : Int) (s10 : Int) (s11 : LLM) (s12 : LM) (s13 : LLM) : Option R :=
  bif (decide (s10 < (s11.length : Int))) then
    bif (decide (0 ≤ s9) && decide (s9 < (s8.length : Int))) then
      bif (decide (0 ≤ s10) && decide (s10 < ((listAt s8 [] s9.toNat).length : Int))) then
        bif (!(listAt (listAt s8 [] s9.toNat) false s10.toNat)) then
          rec1 s7 s8 s9 (wi (s10 + (1 : Int))) s11 s12 s13
        else bif (!s7) then
          bif (decide (s12.length + ([(Move.mk (0 : Int) s10)] : LM).length ≤ lim)) then
            f87.j0' L N k1_e2 rec1 w2 s7 s8 s9 s10 s11 (s12 ++ ([(Move.mk (0 : Int) s10)] : LM)) s13
          else none
        else f87.j0' L N k1_e2 rec1 w2 s7 s8 s9 s10 s11 s12 s13
      else none
    else none
  else k1_e2 s7 s8 s9 s11 s12 s13
def f87.s1 {R : Type} (L N : Nat) (k1_e2 : Bool → LLB → Int → LLM → LM → LLM → Option R) (rec1 : Bool → LLB → Int → Int → LLM → LM → LLM → Option R) (s7 : Bool) (s8 : LLB) (s9 : Int) (s10 : Int) (s11 : LLM) (s12 : LM) (s13 : LLM) : Option R :=
  f87.s1' L N k1_e2 rec1 (fun s27 s28 s29 s30 s31 s32 s33 s34 => f87.l2 L N (fun z35 z36 z37 z38 z39 z40 z41 => f87.p2_e4 L N k1_e2 rec1 z35 z36 z37 z38 z39 z40 z41) L s27 s28 s29 s30 s31 s32 s33 s34) s7 s8 s9 s10 s11 s12 s13
def f87.l1 {R : Type} (L N : Nat) (k1_e2 : Bool → LLB → Int → LLM → LM → LLM → Option R) : Nat → Bool → LLB → Int → Int → LLM → LM → LLM → Option R
  | 0, _, _, _, _, _, _, _ => none
  | n + 1, s7, s8, s9, s10, s11, s12, s13 => f87.s1 L N k1_e2 (f87.l1 L N k1_e2 n) s7 s8 s9 s10 s11 s12 s13
def f87.T1 (s7 : Bool) (s8 : LLB) (s9 : Int) (s10 : Int) (s11 : LLM) (s12 : LM) (s13 : LLM) : T := mkT 94 [(1, (.tv .bool s7)), (2, (.ptr 1002 0)), (4, (.ptr 1004 0)), (5, (.tv (.sl (.sl .bool)) s8)), (6, (.ptr 1006 0)), (7, (.tv i64 s9)), (8, (.row 1023)), (9, (.tv i64 s10))]
def f87.H1 (s7 : Bool) (s8 : LLB) (s9 : Int) (s10 : Int) (s11 : LLM) (s12 : LM) (s13 : LLM) : H := [(1002, (.box [(.tv (.sl (.sl (.st 0))) s11)])), (1004, (.box [.nil])), (1006, (.box [(.row 1900)])), (1023, (.row 53 (.st 0) s12)), (1900, (.row 51 (.sl (.st 0)) s13))]
def f87.T1_e2 (z14 : Bool) (z15 : LLB) (z16 : Int) (z17 : LLM) (z18 : LM) (z19 : LLM) : T := mkT 94 [(1, (.tv .bool z14)), (2, (.ptr 1002 0)), (4, (.ptr 1004 0)), (5, (.tv (.sl (.sl .bool)) z15)), (6, (.ptr 1006 0)), (7, (.tv i64 z16)), (8, (.row 1023))]
def f87.H1_e2 (z14 : Bool) (z15 : LLB) (z16 : Int) (z17 : LLM) (z18 : LM) (z19 : LLM) : H := [(1002, (.box [(.tv (.sl (.sl (.st 0))) z17)])), (1004, (.box [.nil])), (1006, (.box [(.row 1900)])), (1023, (.row 53 (.st 0) z18)), (1900, (.row 51 (.sl (.st 0)) z19))]
def f87.p1_e2' {R : Type} (L N : Nat) (k0_e0 : LLM → Option R) (rec0 : Bool → LLB → Int → LLM → LLM → Option R) (z14 : Bool) (z15 : LLB) (z16 : Int) (z17 : LLM) (z18 : LM) (z19 : LLM) : Option R :=
  (f123 L N z18).bind fun y79 =>
  bif (decide (z19.length + ([y79] : LLM).length ≤ lim)) then
    rec0 z14 z15 (wi (z16 + (1 : Int))) z17 (z19 ++ ([y79] : LLM))
  else none
def f87.p1_e2 {R : Type} (L N : Nat) (k0_e0 : LLM → Option R) (rec0 : Bool → LLB → Int → LLM → LLM → Option R) (z14 : Bool) (z15 : LLB) (z16 : Int) (z17 : LLM) (z18 : LM) (z19 : LLM) : Option R :=
  f87.p1_e2' L N k0_e0 rec0 z14 z15 z16 z17 z18 z19
def f87.s0' {R : Type} (L N : Nat) (k0_e0 : LLM → Option R) (rec0 : Bool → LLB → Int → LLM → LLM → Option R) (w1 : Bool → LLB → Int → Int → LLM → LM → LLM → Option R) (s1 : Bool) (s2 : LLB) (s3 : Int) (s4 : LLM) (s5 : LLM) : Option R :=
  bif (decide (s3 < (s4.length : Int))) then
    w1 s1 s2 s3 (0 : Int) s4 ([] : LM) s5
  else k0_e0 s5
def f87.s0 {R : Type} (L N : Nat) (k0_e0 : LLM → Option R) (rec0 : Bool → LLB → Int → LLM → LLM → Option R) (s1 : Bool) (s2 : LLB) (s3 : Int) (s4 : LLM) (s5 : LLM) : Option R :=
  f87.s0' L N k0_e0 rec0 (fun s7 s8 s9 s10 s11 s12 s13 => f87.l1 L N (fun z14 z15 z16 z17 z18 z19 => f87.p1_e2 L N k0_e0 rec0 z14 z15 z16 z17 z18 z19) L s7 s8 s9 s10 s11 s12 s13) s1 s2 s3 s4 s5
def f87.l0 {R : Type} (L N : Nat) (k0_e0 : LLM → Option R) : Nat → Bool → LLB → Int → LLM → LLM → Option R
  | 0, _, _, _, _, _ => none
  | n + 1, s1, s2, s3, s4, s5 => f87.s0 L N k0_e0 (f87.l0 L N k0_e0 n) s1 s2 s3 s4 s5
def f87.T0 (s1 : Bool) (s2 : LLB) (s3 : Int) (s4 : LLM) (s5 : LLM) : T := mkT 94 [(1, (.tv .bool s1)), (2, (.ptr 1002 0)), (4, (.ptr 1004 0)), (5, (.tv (.sl (.sl .bool)) s2)), (6, (.ptr 1006 0)), (7, (.tv i64 s3))]
def f87.H0 (s1 : Bool) (s2 : LLB) (s3 : Int) (s4 : LLM) (s5 : LLM) : H := [(1002, (.box [(.tv (.sl (.sl (.st 0))) s4)])), (1004, (.box [.nil])), (1006, (.box [(.row 1900)])), (1900, (.row 51 (.sl (.st 0)) s5))]
def f87.T0_e0 (z6 : LLM) : T := mkT 94 [(4, (.ptr 1004 0)), (6, (.ptr 1006 0))]
def f87.H0_e0 (z6 : LLM) : H := [(1004, (.box [.nil])), (1006, (.box [(.row 1900)])), (1900, (.row 51 (.sl (.st 0)) z6))]
def f87.p0_e0' {R : Type} (L N : Nat) (k : Graph → Option R) (z6 : LLM) : Option R :=
  k (Graph.mk z6)
def f87.p0_e0 {R : Type} (L N : Nat) (k : Graph → Option R) (z6 : LLM) : Option R :=
  f87.p0_e0' L N k z6
def f87.b' {R : Type} (L N : Nat) (k : Graph → Option R) (w0 : Bool → LLB → Int → LLM → LLM → Option R) (x0 : Graph) (x1 : Bool) : Option R :=
  (f122 L N (Graph.mk x0.moves)).bind fun y0 =>
  w0 x1 y0 (0 : Int) x0.moves ([] : LLM)
def f87.b {R : Type} (L N : Nat) (k : Graph → Option R) (x0 : Graph) (x1 : Bool) : Option R :=
  f87.b' L N k (fun s1 s2 s3 s4 s5 => f87.l0 L N (fun z6 => f87.p0_e0 L N k z6) L s1 s2 s3 s4 s5) x0 x1
def f87 (L N : Nat) (x0 : Graph) (x1 : Bool) : Option (Graph) := f87.b L N some x0 x1
def f87.ent (L N : Nat) := entDa [(.st 2), .bool] (.one (.st 2)) fun d => f87 L N d.1 d.2.1
noncomputable def E87 (L N : Nat) : Env := { P := Try.prog, ty := tyOf, Φ := (Φ123 L N), inl := inlT, live := lives, liveX := livesX, L := L, dp := none, prom := promT, heal := healT, ren := renT }
noncomputable def f87.c0 : Code := loopAt 0 (codeOf Try.f87)
noncomputable def f87.c1 : Code := loopAt 2 f87.c0
noncomputable def f87.c2 : Code := loopAt 4 f87.c1
noncomputable def f87.c3 : Code := loopAt 6 f87.c2
def f87.X3_e6 {R : Type} (κ : KX R) := fun z53 z54 z55 z56 z57 z58 z59 z60 => κ (.exit 6) (f87.T3_e6 z53 z54 z55 z56 z57 z58 z59 z60) (f87.H3_e6 z53 z54 z55 z56 z57 z58 z59 z60)
def f87.R3 {R : Type} (rec : KT R) := fun s42 s43 s44 s45 s46 s47 s48 s49 s50 s51 s52 => rec (f87.T3 s42 s43 s44 s45 s46 s47 s48 s49 s50 s51 s52) (f87.H3 s42 s43 s44 s45 s46 s47 s48 s49 s50 s51 s52)
theorem f87.s3_eq {R : Type} (L N : Nat) (κ : KX R) (rec : KT R) (s42 : Bool) (s43 : LLB) (s44 : Int) (s45 : Int) (s46 : Int) (s47 : Int) (s48 : LLM) (s49 : Int) (s50 : Int) (s51 : LM) (s52 : LLM) :
    evRd (E87 L N) (evCallI (E87 L N) 1 2000) 1000 87 94 6 f87.c3 κ rec (f87.T3 s42 s43 s44 s45 s46 s47 s48 s49 s50 s51 s52) (f87.H3 s42 s43 s44 s45 s46 s47 s48 s49 s50 s51 s52)
    = f87.s3 L N (f87.X3_e6 κ) (f87.R3 rec) s42 s43 s44 s45 s46 s47 s48 s49 s50 s51 s52 := by kernel_rfl
theorem f87.l3_eq {R : Type} (L N : Nat) (κ : KX R) : ∀ (n : Nat) (s42 : Bool) (s43 : LLB) (s44 : Int) (s45 : Int) (s46 : Int) (s47 : Int) (s48 : LLM) (s49 : Int) (s50 : Int) (s51 : LM) (s52 : LLM),
    evLp (E87 L N) (evCallI (E87 L N) 1 2000) 1000 87 94 6 f87.c3 κ n (f87.T3 s42 s43 s44 s45 s46 s47 s48 s49 s50 s51 s52) (f87.H3 s42 s43 s44 s45 s46 s47 s48 s49 s50 s51 s52)
    = f87.l3 L N (f87.X3_e6 κ) n s42 s43 s44 s45 s46 s47 s48 s49 s50 s51 s52 := by
  intro n
  induction n with
  | zero => intros; rfl
  | succ n ih =>
    intro s42 s43 s44 s45 s46 s47 s48 s49 s50 s51 s52
    rw [evLp_succ, f87.s3_eq]
    delta f87.R3
    simp only [ih]
    rfl
def f87.X2_e4 {R : Type} (κ : KX R) := fun z35 z36 z37 z38 z39 z40 z41 => κ (.exit 4) (f87.T2_e4 z35 z36 z37 z38 z39 z40 z41) (f87.H2_e4 z35 z36 z37 z38 z39 z40 z41)
def f87.R2 {R : Type} (rec : KT R) := fun s27 s28 s29 s30 s31 s32 s33 s34 => rec (f87.T2 s27 s28 s29 s30 s31 s32 s33 s34) (f87.H2 s27 s28 s29 s30 s31 s32 s33 s34)
theorem f87.p3_e6_eq {R : Type} (L N : Nat) (κ : KX R) (rec : KT R) (z53 : Bool) (z54 : LLB) (z55 : Int) (z56 : Int) (z57 : Int) (z58 : LLM) (z59 : LM) (z60 : LLM) :
    (contAt (E87 L N) (evCallI (E87 L N) 1 2000) 1000 87 94 6 f87.c2 (rdK (E87 L N) 1000 87 94 4 κ rec)) (.exit 6) (f87.T3_e6 z53 z54 z55 z56 z57 z58 z59 z60) (f87.H3_e6 z53 z54 z55 z56 z57 z58 z59 z60)
    = f87.p3_e6 L N (f87.X2_e4 κ) (f87.R2 rec) z53 z54 z55 z56 z57 z58 z59 z60 := by kernel_rfl
theorem f87.s2_eq {R : Type} (L N : Nat) (κ : KX R) (rec : KT R) (s27 : Bool) (s28 : LLB) (s29 : Int) (s30 : Int) (s31 : Int) (s32 : LLM) (s33 : LM) (s34 : LLM) :
    evRd (E87 L N) (evCallI (E87 L N) 1 2000) 1000 87 94 4 f87.c2 κ rec (f87.T2 s27 s28 s29 s30 s31 s32 s33 s34) (f87.H2 s27 s28 s29 s30 s31 s32 s33 s34)
    = f87.s2 L N (f87.X2_e4 κ) (f87.R2 rec) s27 s28 s29 s30 s31 s32 s33 s34 := by
  refine Eq.trans (b := f87.s2' L N (f87.X2_e4 κ) (f87.R2 rec) (fun s42 s43 s44 s45 s46 s47 s48 s49 s50 s51 s52 => evLp (E87 L N) (evCallI (E87 L N) 1 2000) 1000 87 94 6 f87.c3 (contAt (E87 L N) (evCallI (E87 L N) 1 2000) 1000 87 94 6 f87.c2 (rdK (E87 L N) 1000 87 94 4 κ rec)) L (f87.T3 s42 s43 s44 s45 s46 s47 s48 s49 s50 s51 s52) (f87.H3 s42 s43 s44 s45 s46 s47 s48 s49 s50 s51 s52)) s27 s28 s29 s30 s31 s32 s33 s34) (by kernel_rfl) ?_
  unfold f87.s2
  simp only [f87.l3_eq]
  delta f87.X3_e6
  simp only [f87.p3_e6_eq]
theorem f87.l2_eq {R : Type} (L N : Nat) (κ : KX R) : ∀ (n : Nat) (s27 : Bool) (s28 : LLB) (s29 : Int) (s30 : Int) (s31 : Int) (s32 : LLM) (s33 : LM) (s34 : LLM),
    evLp (E87 L N) (evCallI (E87 L N) 1 2000) 1000 87 94 4 f87.c2 κ n (f87.T2 s27 s28 s29 s30 s31 s32 s33 s34) (f87.H2 s27 s28 s29 s30 s31 s32 s33 s34)
    = f87.l2 L N (f87.X2_e4 κ) n s27 s28 s29 s30 s31 s32 s33 s34 := by
  intro n
  induction n with
  | zero => intros; rfl
  | succ n ih =>
    intro s27 s28 s29 s30 s31 s32 s33 s34
    rw [evLp_succ, f87.s2_eq]
    delta f87.R2
    simp only [ih]
    rfl
def f87.X1_e2 {R : Type} (κ : KX R) := fun z14 z15 z16 z17 z18 z19 => κ (.exit 2) (f87.T1_e2 z14 z15 z16 z17 z18 z19) (f87.H1_e2 z14 z15 z16 z17 z18 z19)
def f87.R1 {R : Type} (rec : KT R) := fun s7 s8 s9 s10 s11 s12 s13 => rec (f87.T1 s7 s8 s9 s10 s11 s12 s13) (f87.H1 s7 s8 s9 s10 s11 s12 s13)
theorem f87.p2_e4_eq {R : Type} (L N : Nat) (κ : KX R) (rec : KT R) (z35 : Bool) (z36 : LLB) (z37 : Int) (z38 : Int) (z39 : LLM) (z40 : LM) (z41 : LLM) :
    (contAt (E87 L N) (evCallI (E87 L N) 1 2000) 1000 87 94 4 f87.c1 (rdK (E87 L N) 1000 87 94 2 κ rec)) (.exit 4) (f87.T2_e4 z35 z36 z37 z38 z39 z40 z41) (f87.H2_e4 z35 z36 z37 z38 z39 z40 z41)
    = f87.p2_e4 L N (f87.X1_e2 κ) (f87.R1 rec) z35 z36 z37 z38 z39 z40 z41 := by kernel_rfl
theorem f87.s1_eq {R : Type} (L N : Nat) (κ : KX R) (rec : KT R) (s7 : Bool) (s8 : LLB) (s9 : Int) (s10 : Int) (s11 : LLM) (s12 : LM) (s13 : LLM) :
    evRd (E87 L N) (evCallI (E87 L N) 1 2000) 1000 87 94 2 f87.c1 κ rec (f87.T1 s7 s8 s9 s10 s11 s12 s13) (f87.H1 s7 s8 s9 s10 s11 s12 s13)
    = f87.s1 L N (f87.X1_e2 κ) (f87.R1 rec) s7 s8 s9 s10 s11 s12 s13 := by
  refine Eq.trans (b := f87.s1' L N (f87.X1_e2 κ) (f87.R1 rec) (fun s27 s28 s29 s30 s31 s32 s33 s34 => evLp (E87 L N) (evCallI (E87 L N) 1 2000) 1000 87 94 4 f87.c2 (contAt (E87 L N) (evCallI (E87 L N) 1 2000) 1000 87 94 4 f87.c1 (rdK (E87 L N) 1000 87 94 2 κ rec)) L (f87.T2 s27 s28 s29 s30 s31 s32 s33 s34) (f87.H2 s27 s28 s29 s30 s31 s32 s33 s34)) s7 s8 s9 s10 s11 s12 s13) (by kernel_rfl) ?_
  unfold f87.s1
  simp only [f87.l2_eq]
  delta f87.X2_e4
  simp only [f87.p2_e4_eq]
theorem f87.l1_eq {R : Type} (L N : Nat) (κ : KX R) : ∀ (n : Nat) (s7 : Bool) (s8 : LLB) (s9 : Int) (s10 : Int) (s11 : LLM) (s12 : LM) (s13 : LLM),
    evLp (E87 L N) (evCallI (E87 L N) 1 2000) 1000 87 94 2 f87.c1 κ n (f87.T1 s7 s8 s9 s10 s11 s12 s13) (f87.H1 s7 s8 s9 s10 s11 s12 s13)
    = f87.l1 L N (f87.X1_e2 κ) n s7 s8 s9 s10 s11 s12 s13 := by
  intro n
  induction n with
  | zero => intros; rfl
  | succ n ih =>
    intro s7 s8 s9 s10 s11 s12 s13
    rw [evLp_succ, f87.s1_eq]
    delta f87.R1
    simp only [ih]
    rfl
def f87.X0_e0 {R : Type} (κ : KX R) := fun z6 => κ (.exit 0) (f87.T0_e0 z6) (f87.H0_e0 z6)
def f87.R0 {R : Type} (rec : KT R) := fun s1 s2 s3 s4 s5 => rec (f87.T0 s1 s2 s3 s4 s5) (f87.H0 s1 s2 s3 s4 s5)
theorem f87.p1_e2_eq {R : Type} (L N : Nat) (κ : KX R) (rec : KT R) (z14 : Bool) (z15 : LLB) (z16 : Int) (z17 : LLM) (z18 : LM) (z19 : LLM) :
    (contAt (E87 L N) (evCallI (E87 L N) 1 2000) 1000 87 94 2 f87.c0 (rdK (E87 L N) 1000 87 94 0 κ rec)) (.exit 2) (f87.T1_e2 z14 z15 z16 z17 z18 z19) (f87.H1_e2 z14 z15 z16 z17 z18 z19)
    = f87.p1_e2 L N (f87.X0_e0 κ) (f87.R0 rec) z14 z15 z16 z17 z18 z19 := by kernel_rfl
theorem f87.s0_eq {R : Type} (L N : Nat) (κ : KX R) (rec : KT R) (s1 : Bool) (s2 : LLB) (s3 : Int) (s4 : LLM) (s5 : LLM) :
    evRd (E87 L N) (evCallI (E87 L N) 1 2000) 1000 87 94 0 f87.c0 κ rec (f87.T0 s1 s2 s3 s4 s5) (f87.H0 s1 s2 s3 s4 s5)
    = f87.s0 L N (f87.X0_e0 κ) (f87.R0 rec) s1 s2 s3 s4 s5 := by
  refine Eq.trans (b := f87.s0' L N (f87.X0_e0 κ) (f87.R0 rec) (fun s7 s8 s9 s10 s11 s12 s13 => evLp (E87 L N) (evCallI (E87 L N) 1 2000) 1000 87 94 2 f87.c1 (contAt (E87 L N) (evCallI (E87 L N) 1 2000) 1000 87 94 2 f87.c0 (rdK (E87 L N) 1000 87 94 0 κ rec)) L (f87.T1 s7 s8 s9 s10 s11 s12 s13) (f87.H1 s7 s8 s9 s10 s11 s12 s13)) s1 s2 s3 s4 s5) (by kernel_rfl) ?_
  unfold f87.s0
  simp only [f87.l1_eq]
  delta f87.X1_e2
  simp only [f87.p1_e2_eq]
theorem f87.l0_eq {R : Type} (L N : Nat) (κ : KX R) : ∀ (n : Nat) (s1 : Bool) (s2 : LLB) (s3 : Int) (s4 : LLM) (s5 : LLM),
    evLp (E87 L N) (evCallI (E87 L N) 1 2000) 1000 87 94 0 f87.c0 κ n (f87.T0 s1 s2 s3 s4 s5) (f87.H0 s1 s2 s3 s4 s5)
    = f87.l0 L N (f87.X0_e0 κ) n s1 s2 s3 s4 s5 := by
  intro n
  induction n with
  | zero => intros; rfl
  | succ n ih =>
    intro s1 s2 s3 s4 s5
    rw [evLp_succ, f87.s0_eq]
    delta f87.R0
    simp only [ih]
    rfl
theorem f87.p0_e0_eq {R : Type} (L N : Nat) (κ : AV → Option R) (z6 : LLM) :
    (contAt (E87 L N) (evCallI (E87 L N) 1 2000) 1000 87 94 0 (codeOf Try.f87) (finK (E87 L N) 1000 Try.f87 (finC (.one (.st 2)) κ))) (.exit 0) (f87.T0_e0 z6) (f87.H0_e0 z6)
    = f87.p0_e0 L N (fun a0 => κ (.tv (.st 2) a0)) z6 := by kernel_rfl
theorem f87.b_eq {R : Type} (L N : Nat) (κ : AV → Option R) (x0 : Graph) (x1 : Bool) :
    evBody (E87 L N) (evCallI (E87 L N) 1 2000) 1000 87 Try.f87 [(.tv (.st 2) x0), (.tv .bool x1)] [] [] (finC (.one (.st 2)) κ)
    = f87.b L N (fun a0 => κ (.tv (.st 2) a0)) x0 x1 := by
  refine Eq.trans (b := f87.b' L N (fun a0 => κ (.tv (.st 2) a0)) (fun s1 s2 s3 s4 s5 => evLp (E87 L N) (evCallI (E87 L N) 1 2000) 1000 87 94 0 f87.c0 (contAt (E87 L N) (evCallI (E87 L N) 1 2000) 1000 87 94 0 (codeOf Try.f87) (finK (E87 L N) 1000 Try.f87 (finC (.one (.st 2)) κ))) L (f87.T0 s1 s2 s3 s4 s5) (f87.H0 s1 s2 s3 s4 s5)) x0 x1) (by kernel_rfl) ?_
  unfold f87.b
  simp only [f87.l0_eq]
  delta f87.X0_e0
  simp only [f87.p0_e0_eq]
theorem f87.ok (L N : Nat) (hΦ : TellsOk Try.prog ((Φ123 L N))) : EntOk Try.prog 87 (f87.ent L N) := entDa_ok (E := (E87 L N)) (dep := 1000) (f := Try.f87) (sound_of hΦ) okP (callI_sound (sound_of hΦ) okP 1 2000) rfl fun d _ hy => (f87.b_eq L N (unR (.one (.st 2))) d.1 d.2.1).trans (Eq.trans (b := f87.b L N some d.1 d.2.1) (by kernel_rfl) hy)
def Φ87 (L N : Nat) : Tells := (addT (Φ123 L N) 87 (f87.ent L N))
theorem Φ87_ok (L N : Nat) : TellsOk Try.prog (Φ87 L N) := addT_ok (Φ123_ok L N) (f87.ok L N (Φ123_ok L N))
def f116.s0' {R : Type} (L N : Nat) (k0_e0 : Option R) (k0_r : Bool → Option R) (rec0 : LI → LI → Int → Option R) (s0 : LI) (s1 : LI) (s2 : Int) : Option R :=
  bif (decide (s2 < (s0.length : Int))) then
    bif (decide (0 ≤ s2) && decide (s2 < (s0.length : Int))) then
      bif (decide (0 ≤ s2) && decide (s2 < (s1.length : Int))) then
        bif ((listAt s0 (0 : Int) s2.toNat) != (listAt s1 (0 : Int) s2.toNat)) then
          k0_r false
        else rec0 s0 s1 (wi (s2 + (1 : Int)))
      else none
    else none
  else k0_e0
def f116.s0 {R : Type} (L N : Nat) (k0_e0 : Option R) (k0_r : Bool → Option R) (rec0 : LI → LI → Int → Option R) (s0 : LI) (s1 : LI) (s2 : Int) : Option R :=
  f116.s0' L N k0_e0 k0_r rec0 s0 s1 s2
def f116.l0 {R : Type} (L N : Nat) (k0_e0 : Option R) (k0_r : Bool → Option R) : Nat → LI → LI → Int → Option R
  | 0, _, _, _ => none
  | n + 1, s0, s1, s2 => f116.s0 L N k0_e0 k0_r (f116.l0 L N k0_e0 k0_r n) s0 s1 s2
def f116.T0 (s0 : LI) (s1 : LI) (s2 : Int) : T := mkT 26 [(0, (.tv (.sl i64) s0)), (1, (.tv (.sl i64) s1)), (5, (.tv i64 s2))]
def f116.H0 (s0 : LI) (s1 : LI) (s2 : Int) : H := []
def f116.T0_e0 : T := mkT 26 []
def f116.H0_e0 : H := []
def f116.T0_r (z3 : Bool) : T := mkT 26 [(4, (.tv .bool z3))]
def f116.H0_r (z3 : Bool) : H := []
def f116.p0_e0' {R : Type} (L N : Nat) (k : Bool → Option R) : Option R :=
  k true
def f116.p0_e0 {R : Type} (L N : Nat) (k : Bool → Option R) : Option R :=
  f116.p0_e0' L N k
def f116.p0_r' {R : Type} (L N : Nat) (k : Bool → Option R) (z3 : Bool) : Option R :=
  k z3
def f116.p0_r {R : Type} (L N : Nat) (k : Bool → Option R) (z3 : Bool) : Option R :=
  f116.p0_r' L N k z3
def f116.b' {R : Type} (L N : Nat) (k : Bool → Option R) (w0 : LI → LI → Int → Option R) (x0 : LI) (x1 : LI) : Option R :=
  bif ((x0.length : Int) != (x1.length : Int)) then
    k false
  else w0 x0 x1 (0 : Int)
def f116.b {R : Type} (L N : Nat) (k : Bool → Option R) (x0 : LI) (x1 : LI) : Option R :=
  f116.b' L N k (fun s0 s1 s2 => f116.l0 L N (f116.p0_e0 L N k) (fun z3 => f116.p0_r L N k z3) L s0 s1 s2) x0 x1
def f116 (L N : Nat) (x0 : LI) (x1 : LI) : Option (Bool) := f116.b L N some x0 x1
def f116.ent (L N : Nat) := entRo [(.sl i64), (.sl i64)] (.one .bool) fun d => f116 L N d.1 d.2.1
noncomputable def E116 (L N : Nat) : Env := { P := Try.prog, ty := tyOf, Φ := (Φ87 L N), inl := inlT, live := lives, liveX := livesX, L := L, dp := none, prom := promT, heal := healT, ren := renT }
noncomputable def f116.c0 : Code := loopAt 0 (codeOf Try.f116)
def f116.X0_e0 {R : Type} (κ : KX R) := κ (.exit 0) f116.T0_e0 f116.H0_e0
def f116.X0_r {R : Type} (κ : KX R) := fun z3 => κ .ret (f116.T0_r z3) (f116.H0_r z3)
def f116.R0 {R : Type} (rec : KT R) := fun s0 s1 s2 => rec (f116.T0 s0 s1 s2) (f116.H0 s0 s1 s2)
theorem f116.s0_eq {R : Type} (L N : Nat) (κ : KX R) (rec : KT R) (s0 : LI) (s1 : LI) (s2 : Int) :
    evRd (E116 L N) (evCallI (E116 L N) 1 2000) 1000 116 26 0 f116.c0 κ rec (f116.T0 s0 s1 s2) (f116.H0 s0 s1 s2)
    = f116.s0 L N (f116.X0_e0 κ) (f116.X0_r κ) (f116.R0 rec) s0 s1 s2 := by kernel_rfl
theorem f116.l0_eq {R : Type} (L N : Nat) (κ : KX R) : ∀ (n : Nat) (s0 : LI) (s1 : LI) (s2 : Int),
    evLp (E116 L N) (evCallI (E116 L N) 1 2000) 1000 116 26 0 f116.c0 κ n (f116.T0 s0 s1 s2) (f116.H0 s0 s1 s2)
    = f116.l0 L N (f116.X0_e0 κ) (f116.X0_r κ) n s0 s1 s2 := by
  intro n
  induction n with
  | zero => intros; rfl
  | succ n ih =>
    intro s0 s1 s2
    rw [evLp_succ, f116.s0_eq]
    delta f116.R0
    simp only [ih]
    rfl
theorem f116.p0_e0_eq {R : Type} (L N : Nat) (κ : AV → Option R) :
    (contAt (E116 L N) (evCallI (E116 L N) 1 2000) 1000 116 26 0 (codeOf Try.f116) (finK (E116 L N) 1000 Try.f116 (finC (.one .bool) κ))) (.exit 0) f116.T0_e0 f116.H0_e0
    = f116.p0_e0 L N (fun a0 => κ (.tv .bool a0)) := by kernel_rfl
theorem f116.p0_r_eq {R : Type} (L N : Nat) (κ : AV → Option R) (z3 : Bool) :
    (contAt (E116 L N) (evCallI (E116 L N) 1 2000) 1000 116 26 0 (codeOf Try.f116) (finK (E116 L N) 1000 Try.f116 (finC (.one .bool) κ))) .ret (f116.T0_r z3) (f116.H0_r z3)
    = f116.p0_r L N (fun a0 => κ (.tv .bool a0)) z3 := by kernel_rfl
theorem f116.b_eq {R : Type} (L N : Nat) (κ : AV → Option R) (x0 : LI) (x1 : LI) :
    evBody (E116 L N) (evCallI (E116 L N) 1 2000) 1000 116 Try.f116 [(.tv (.sl i64) x0), (.tv (.sl i64) x1)] [] [] (finC (.one .bool) κ)
    = f116.b L N (fun a0 => κ (.tv .bool a0)) x0 x1 := by
  refine Eq.trans (b := f116.b' L N (fun a0 => κ (.tv .bool a0)) (fun s0 s1 s2 => evLp (E116 L N) (evCallI (E116 L N) 1 2000) 1000 116 26 0 f116.c0 (contAt (E116 L N) (evCallI (E116 L N) 1 2000) 1000 116 26 0 (codeOf Try.f116) (finK (E116 L N) 1000 Try.f116 (finC (.one .bool) κ))) L (f116.T0 s0 s1 s2) (f116.H0 s0 s1 s2)) x0 x1) (by kernel_rfl) ?_
  unfold f116.b
  simp only [f116.l0_eq]
  delta f116.X0_e0 f116.X0_r
  simp only [f116.p0_e0_eq, f116.p0_r_eq]
theorem f116.ok (L N : Nat) (hΦ : TellsOk Try.prog ((Φ87 L N))) : EntOk Try.prog 116 (f116.ent L N) := entRo_ok (E := (E116 L N)) (dep := 1000) (f := Try.f116) (sound_of hΦ) okP (callI_sound (sound_of hΦ) okP 1 2000) rfl rfl fun d _ hy => (f116.b_eq L N (unR (.one .bool)) d.1 d.2.1).trans (Eq.trans (b := f116.b L N some d.1 d.2.1) (by kernel_rfl) hy)
def Φ116 (L N : Nat) : Tells := (addT (Φ87 L N) 116 (f116.ent L N))
theorem Φ116_ok (L N : Nat) : TellsOk Try.prog (Φ116 L N) := addT_ok (Φ87_ok L N) (f116.ok L N (Φ87_ok L N))
def f183.s0' {R : Type} (L N : Nat) (k0_e0 : Option R) (k0_r : Bool → Option R) (rec0 : Int → Int → LI → Int → Int → LLM → Option R) (s0 : Int) (s1 : Int) (s2 : LI) (s3 : Int) (s4 : Int) (s5 : LLM) : Option R :=
  bif (decide (0 ≤ s0) && decide (s0 < (s5.length : Int))) then
    bif (decide (s4 < ((listAt s5 [] s0.toNat).length : Int))) then
      bif (decide (0 ≤ s0) && decide (s0 < (s5.length : Int))) then
        bif (decide (0 ≤ s4) && decide (s4 < ((listAt s5 [] s0.toNat).length : Int))) then
          bif ((listAt (listAt s5 [] s0.toNat) (Ty.dflt (.st 0)) s4.toNat).act == s1) then
            bif (decide (0 ≤ (listAt (listAt s5 [] s0.toNat) (Ty.dflt (.st 0)) s4.toNat).to) && decide ((listAt (listAt s5 [] s0.toNat) (Ty.dflt (.st 0)) s4.toNat).to < (s2.length : Int))) then
              bif ((listAt s2 (0 : Int) ((listAt (listAt s5 [] s0.toNat) (Ty.dflt (.st 0)) s4.toNat).to).toNat) == s3) then
                k0_r true
              else rec0 s0 s1 s2 s3 (wi (s4 + (1 : Int))) s5
            else none
          else rec0 s0 s1 s2 s3 (wi (s4 + (1 : Int))) s5
        else none
      else none
    else k0_e0
  else none
def f183.s0 {R : Type} (L N : Nat) (k0_e0 : Option R) (k0_r : Bool → Option R) (rec0 : Int → Int → LI → Int → Int → LLM → Option R) (s0 : Int) (s1 : Int) (s2 : LI) (s3 : Int) (s4 : Int) (s5 : LLM) : Option R :=
  f183.s0' L N k0_e0 k0_r rec0 s0 s1 s2 s3 s4 s5
def f183.l0 {R : Type} (L N : Nat) (k0_e0 : Option R) (k0_r : Bool → Option R) : Nat → Int → Int → LI → Int → Int → LLM → Option R
  | 0, _, _, _, _, _, _ => none
  | n + 1, s0, s1, s2, s3, s4, s5 => f183.s0 L N k0_e0 k0_r (f183.l0 L N k0_e0 k0_r n) s0 s1 s2 s3 s4 s5
def f183.T0 (s0 : Int) (s1 : Int) (s2 : LI) (s3 : Int) (s4 : Int) (s5 : LLM) : T := mkT 44 [(1, (.tv i64 s0)), (2, (.tv i64 s1)), (3, (.tv (.sl i64) s2)), (4, (.tv i64 s3)), (5, (.ptr 1005 0)), (11, (.tv i64 s4))]
def f183.H0 (s0 : Int) (s1 : Int) (s2 : LI) (s3 : Int) (s4 : Int) (s5 : LLM) : H := [(1005, (.box [(.tv (.sl (.sl (.st 0))) s5)]))]
def f183.T0_e0 : T := mkT 44 []
def f183.H0_e0 : H := []
def f183.T0_r (z13 : Bool) : T := mkT 44 [(10, (.tv .bool z13))]
def f183.H0_r (z13 : Bool) : H := []
def f183.p0_e0' {R : Type} (L N : Nat) (k : Bool → Option R) : Option R :=
  k false
def f183.p0_e0 {R : Type} (L N : Nat) (k : Bool → Option R) : Option R :=
  f183.p0_e0' L N k
def f183.p0_r' {R : Type} (L N : Nat) (k : Bool → Option R) (z13 : Bool) : Option R :=
  k z13
def f183.p0_r {R : Type} (L N : Nat) (k : Bool → Option R) (z13 : Bool) : Option R :=
  f183.p0_r' L N k z13
def f183.b' {R : Type} (L N : Nat) (k : Bool → Option R) (w0 : Int → Int → LI → Int → Int → LLM → Option R) (x0 : Graph) (x1 : Int) (x2 : Int) (x3 : LI) (x4 : Int) : Option R :=
  w0 x1 x2 x3 x4 (0 : Int) x0.moves
def f183.b {R : Type} (L N : Nat) (k : Bool → Option R) (x0 : Graph) (x1 : Int) (x2 : Int) (x3 : LI) (x4 : Int) : Option R :=
  f183.b' L N k (fun s0 s1 s2 s3 s4 s5 => f183.l0 L N (f183.p0_e0 L N k) (fun z13 => f183.p0_r L N k z13) L s0 s1 s2 s3 s4 s5) x0 x1 x2 x3 x4
def f183 (L N : Nat) (x0 : Graph) (x1 : Int) (x2 : Int) (x3 : LI) (x4 : Int) : Option (Bool) := f183.b L N some x0 x1 x2 x3 x4
def f183.ent (L N : Nat) := entRo [(.st 2), i64, i64, (.sl i64), i64] (.one .bool) fun d => f183 L N d.1 d.2.1 d.2.2.1 d.2.2.2.1 d.2.2.2.2.1
noncomputable def E183 (L N : Nat) : Env := { P := Try.prog, ty := tyOf, Φ := (Φ116 L N), inl := inlT, live := lives, liveX := livesX, L := L, dp := none, prom := promT, heal := healT, ren := renT }
noncomputable def f183.c0 : Code := loopAt 0 (codeOf Try.f183)
def f183.X0_e0 {R : Type} (κ : KX R) := κ (.exit 0) f183.T0_e0 f183.H0_e0
def f183.X0_r {R : Type} (κ : KX R) := fun z13 => κ .ret (f183.T0_r z13) (f183.H0_r z13)
def f183.R0 {R : Type} (rec : KT R) := fun s0 s1 s2 s3 s4 s5 => rec (f183.T0 s0 s1 s2 s3 s4 s5) (f183.H0 s0 s1 s2 s3 s4 s5)
theorem f183.s0_eq {R : Type} (L N : Nat) (κ : KX R) (rec : KT R) (s0 : Int) (s1 : Int) (s2 : LI) (s3 : Int) (s4 : Int) (s5 : LLM) :
    evRd (E183 L N) (evCallI (E183 L N) 1 2000) 1000 183 44 0 f183.c0 κ rec (f183.T0 s0 s1 s2 s3 s4 s5) (f183.H0 s0 s1 s2 s3 s4 s5)
    = f183.s0 L N (f183.X0_e0 κ) (f183.X0_r κ) (f183.R0 rec) s0 s1 s2 s3 s4 s5 := by kernel_rfl
theorem f183.l0_eq {R : Type} (L N : Nat) (κ : KX R) : ∀ (n : Nat) (s0 : Int) (s1 : Int) (s2 : LI) (s3 : Int) (s4 : Int) (s5 : LLM),
    evLp (E183 L N) (evCallI (E183 L N) 1 2000) 1000 183 44 0 f183.c0 κ n (f183.T0 s0 s1 s2 s3 s4 s5) (f183.H0 s0 s1 s2 s3 s4 s5)
    = f183.l0 L N (f183.X0_e0 κ) (f183.X0_r κ) n s0 s1 s2 s3 s4 s5 := by
  intro n
  induction n with
  | zero => intros; rfl
  | succ n ih =>
    intro s0 s1 s2 s3 s4 s5
    rw [evLp_succ, f183.s0_eq]
    delta f183.R0
    simp only [ih]
    rfl
theorem f183.p0_e0_eq {R : Type} (L N : Nat) (κ : AV → Option R) :
    (contAt (E183 L N) (evCallI (E183 L N) 1 2000) 1000 183 44 0 (codeOf Try.f183) (finK (E183 L N) 1000 Try.f183 (finC (.one .bool) κ))) (.exit 0) f183.T0_e0 f183.H0_e0
    = f183.p0_e0 L N (fun a0 => κ (.tv .bool a0)) := by kernel_rfl
theorem f183.p0_r_eq {R : Type} (L N : Nat) (κ : AV → Option R) (z13 : Bool) :
    (contAt (E183 L N) (evCallI (E183 L N) 1 2000) 1000 183 44 0 (codeOf Try.f183) (finK (E183 L N) 1000 Try.f183 (finC (.one .bool) κ))) .ret (f183.T0_r z13) (f183.H0_r z13)
    = f183.p0_r L N (fun a0 => κ (.tv .bool a0)) z13 := by kernel_rfl
theorem f183.b_eq {R : Type} (L N : Nat) (κ : AV → Option R) (x0 : Graph) (x1 : Int) (x2 : Int) (x3 : LI) (x4 : Int) :
    evBody (E183 L N) (evCallI (E183 L N) 1 2000) 1000 183 Try.f183 [(.tv (.st 2) x0), (.tv i64 x1), (.tv i64 x2), (.tv (.sl i64) x3), (.tv i64 x4)] [] [] (finC (.one .bool) κ)
    = f183.b L N (fun a0 => κ (.tv .bool a0)) x0 x1 x2 x3 x4 := by
  refine Eq.trans (b := f183.b' L N (fun a0 => κ (.tv .bool a0)) (fun s0 s1 s2 s3 s4 s5 => evLp (E183 L N) (evCallI (E183 L N) 1 2000) 1000 183 44 0 f183.c0 (contAt (E183 L N) (evCallI (E183 L N) 1 2000) 1000 183 44 0 (codeOf Try.f183) (finK (E183 L N) 1000 Try.f183 (finC (.one .bool) κ))) L (f183.T0 s0 s1 s2 s3 s4 s5) (f183.H0 s0 s1 s2 s3 s4 s5)) x0 x1 x2 x3 x4) (by kernel_rfl) ?_
  unfold f183.b
  simp only [f183.l0_eq]
  delta f183.X0_e0 f183.X0_r
  simp only [f183.p0_e0_eq, f183.p0_r_eq]
theorem f183.ok (L N : Nat) (hΦ : TellsOk Try.prog ((Φ116 L N))) : EntOk Try.prog 183 (f183.ent L N) := entRo_ok (E := (E183 L N)) (dep := 1000) (f := Try.f183) (sound_of hΦ) okP (callI_sound (sound_of hΦ) okP 1 2000) rfl rfl fun d _ hy => (f183.b_eq L N (unR (.one .bool)) d.1 d.2.1 d.2.2.1 d.2.2.2.1 d.2.2.2.2.1).trans (Eq.trans (b := f183.b L N some d.1 d.2.1 d.2.2.1 d.2.2.2.1 d.2.2.2.2.1) (by kernel_rfl) hy)
def Φ183 (L N : Nat) : Tells := (addT (Φ116 L N) 183 (f183.ent L N))
theorem Φ183_ok (L N : Nat) : TellsOk Try.prog (Φ183 L N) := addT_ok (Φ116_ok L N) (f183.ok L N (Φ116_ok L N))
def f157.s0' {R : Type} (L N : Nat) (k0_e0 : Option R) (k0_r : Bool → Option R) (rec0 : Int → Int → LI → Int → LLM → Option R) (s0 : Int) (s1 : Int) (s2 : LI) (s3 : Int) (s4 : LLM) : Option R :=
  bif (decide (0 ≤ s0) && decide (s0 < (s4.length : Int))) then
    bif (decide (s3 < ((listAt s4 [] s0.toNat).length : Int))) then
      bif (decide (0 ≤ s0) && decide (s0 < (s4.length : Int))) then
        bif (decide (0 ≤ s3) && decide (s3 < ((listAt s4 [] s0.toNat).length : Int))) then
          bif (decide (0 ≤ (listAt (listAt s4 [] s0.toNat) (Ty.dflt (.st 0)) s3.toNat).to) && decide ((listAt (listAt s4 [] s0.toNat) (Ty.dflt (.st 0)) s3.toNat).to < (s2.length : Int))) then
            (f183 L N (Graph.mk s4) s1 ((listAt (listAt s4 [] s0.toNat) (Ty.dflt (.st 0)) s3.toNat).act) s2 (listAt s2 (0 : Int) ((listAt (listAt s4 [] s0.toNat) (Ty.dflt (.st 0)) s3.toNat).to).toNat)).bind fun y5 =>
            bif (!y5) then
              k0_r false
            else rec0 s0 s1 s2 (wi (s3 + (1 : Int))) s4
          else none
        else none
      else none
    else k0_e0
  else none
def f157.s0 {R : Type} (L N : Nat) (k0_e0 : Option R) (k0_r : Bool → Option R) (rec0 : Int → Int → LI → Int → LLM → Option R) (s0 : Int) (s1 : Int) (s2 : LI) (s3 : Int) (s4 : LLM) : Option R :=
  f157.s0' L N k0_e0 k0_r rec0 s0 s1 s2 s3 s4
def f157.l0 {R : Type} (L N : Nat) (k0_e0 : Option R) (k0_r : Bool → Option R) : Nat → Int → Int → LI → Int → LLM → Option R
  | 0, _, _, _, _, _ => none
  | n + 1, s0, s1, s2, s3, s4 => f157.s0 L N k0_e0 k0_r (f157.l0 L N k0_e0 k0_r n) s0 s1 s2 s3 s4
def f157.T0 (s0 : Int) (s1 : Int) (s2 : LI) (s3 : Int) (s4 : LLM) : T := mkT 41 [(1, (.tv i64 s0)), (2, (.tv i64 s1)), (3, (.tv (.sl i64) s2)), (4, (.ptr 1004 0)), (9, (.tv i64 s3))]
def f157.H0 (s0 : Int) (s1 : Int) (s2 : LI) (s3 : Int) (s4 : LLM) : H := [(1004, (.box [(.tv (.sl (.sl (.st 0))) s4)]))]
def f157.T0_e0 : T := mkT 41 []
def f157.H0_e0 : H := []
def f157.T0_r (z6 : Bool) : T := mkT 41 [(8, (.tv .bool z6))]
def f157.H0_r (z6 : Bool) : H := []
def f157.p0_e0' {R : Type} (L N : Nat) (k : Bool → Option R) : Option R :=
  k true
def f157.p0_e0 {R : Type} (L N : Nat) (k : Bool → Option R) : Option R :=
  f157.p0_e0' L N k
def f157.p0_r' {R : Type} (L N : Nat) (k : Bool → Option R) (z6 : Bool) : Option R :=
  k z6
def f157.p0_r {R : Type} (L N : Nat) (k : Bool → Option R) (z6 : Bool) : Option R :=
  f157.p0_r' L N k z6
def f157.b' {R : Type} (L N : Nat) (k : Bool → Option R) (w0 : Int → Int → LI → Int → LLM → Option R) (x0 : Graph) (x1 : Int) (x2 : Int) (x3 : LI) : Option R :=
  w0 x1 x2 x3 (0 : Int) x0.moves
def f157.b {R : Type} (L N : Nat) (k : Bool → Option R) (x0 : Graph) (x1 : Int) (x2 : Int) (x3 : LI) : Option R :=
  f157.b' L N k (fun s0 s1 s2 s3 s4 => f157.l0 L N (f157.p0_e0 L N k) (fun z6 => f157.p0_r L N k z6) L s0 s1 s2 s3 s4) x0 x1 x2 x3
def f157 (L N : Nat) (x0 : Graph) (x1 : Int) (x2 : Int) (x3 : LI) : Option (Bool) := f157.b L N some x0 x1 x2 x3
def f157.ent (L N : Nat) := entRo [(.st 2), i64, i64, (.sl i64)] (.one .bool) fun d => f157 L N d.1 d.2.1 d.2.2.1 d.2.2.2.1
noncomputable def E157 (L N : Nat) : Env := { P := Try.prog, ty := tyOf, Φ := (Φ183 L N), inl := inlT, live := lives, liveX := livesX, L := L, dp := none, prom := promT, heal := healT, ren := renT }
noncomputable def f157.c0 : Code := loopAt 0 (codeOf Try.f157)
def f157.X0_e0 {R : Type} (κ : KX R) := κ (.exit 0) f157.T0_e0 f157.H0_e0
def f157.X0_r {R : Type} (κ : KX R) := fun z6 => κ .ret (f157.T0_r z6) (f157.H0_r z6)
def f157.R0 {R : Type} (rec : KT R) := fun s0 s1 s2 s3 s4 => rec (f157.T0 s0 s1 s2 s3 s4) (f157.H0 s0 s1 s2 s3 s4)
theorem f157.s0_eq {R : Type} (L N : Nat) (κ : KX R) (rec : KT R) (s0 : Int) (s1 : Int) (s2 : LI) (s3 : Int) (s4 : LLM) :
    evRd (E157 L N) (evCallI (E157 L N) 1 2000) 1000 157 41 0 f157.c0 κ rec (f157.T0 s0 s1 s2 s3 s4) (f157.H0 s0 s1 s2 s3 s4)
    = f157.s0 L N (f157.X0_e0 κ) (f157.X0_r κ) (f157.R0 rec) s0 s1 s2 s3 s4 := by kernel_rfl
theorem f157.l0_eq {R : Type} (L N : Nat) (κ : KX R) : ∀ (n : Nat) (s0 : Int) (s1 : Int) (s2 : LI) (s3 : Int) (s4 : LLM),
    evLp (E157 L N) (evCallI (E157 L N) 1 2000) 1000 157 41 0 f157.c0 κ n (f157.T0 s0 s1 s2 s3 s4) (f157.H0 s0 s1 s2 s3 s4)
    = f157.l0 L N (f157.X0_e0 κ) (f157.X0_r κ) n s0 s1 s2 s3 s4 := by
  intro n
  induction n with
  | zero => intros; rfl
  | succ n ih =>
    intro s0 s1 s2 s3 s4
    rw [evLp_succ, f157.s0_eq]
    delta f157.R0
    simp only [ih]
    rfl
theorem f157.p0_e0_eq {R : Type} (L N : Nat) (κ : AV → Option R) :
    (contAt (E157 L N) (evCallI (E157 L N) 1 2000) 1000 157 41 0 (codeOf Try.f157) (finK (E157 L N) 1000 Try.f157 (finC (.one .bool) κ))) (.exit 0) f157.T0_e0 f157.H0_e0
    = f157.p0_e0 L N (fun a0 => κ (.tv .bool a0)) := by kernel_rfl
theorem f157.p0_r_eq {R : Type} (L N : Nat) (κ : AV → Option R) (z6 : Bool) :
    (contAt (E157 L N) (evCallI (E157 L N) 1 2000) 1000 157 41 0 (codeOf Try.f157) (finK (E157 L N) 1000 Try.f157 (finC (.one .bool) κ))) .ret (f157.T0_r z6) (f157.H0_r z6)
    = f157.p0_r L N (fun a0 => κ (.tv .bool a0)) z6 := by kernel_rfl
theorem f157.b_eq {R : Type} (L N : Nat) (κ : AV → Option R) (x0 : Graph) (x1 : Int) (x2 : Int) (x3 : LI) :
    evBody (E157 L N) (evCallI (E157 L N) 1 2000) 1000 157 Try.f157 [(.tv (.st 2) x0), (.tv i64 x1), (.tv i64 x2), (.tv (.sl i64) x3)] [] [] (finC (.one .bool) κ)
    = f157.b L N (fun a0 => κ (.tv .bool a0)) x0 x1 x2 x3 := by
  refine Eq.trans (b := f157.b' L N (fun a0 => κ (.tv .bool a0)) (fun s0 s1 s2 s3 s4 => evLp (E157 L N) (evCallI (E157 L N) 1 2000) 1000 157 41 0 f157.c0 (contAt (E157 L N) (evCallI (E157 L N) 1 2000) 1000 157 41 0 (codeOf Try.f157) (finK (E157 L N) 1000 Try.f157 (finC (.one .bool) κ))) L (f157.T0 s0 s1 s2 s3 s4) (f157.H0 s0 s1 s2 s3 s4)) x0 x1 x2 x3) (by kernel_rfl) ?_
  unfold f157.b
  simp only [f157.l0_eq]
  delta f157.X0_e0 f157.X0_r
  simp only [f157.p0_e0_eq, f157.p0_r_eq]
theorem f157.ok (L N : Nat) (hΦ : TellsOk Try.prog ((Φ183 L N))) : EntOk Try.prog 157 (f157.ent L N) := entRo_ok (E := (E157 L N)) (dep := 1000) (f := Try.f157) (sound_of hΦ) okP (callI_sound (sound_of hΦ) okP 1 2000) rfl rfl fun d _ hy => (f157.b_eq L N (unR (.one .bool)) d.1 d.2.1 d.2.2.1 d.2.2.2.1).trans (Eq.trans (b := f157.b L N some d.1 d.2.1 d.2.2.1 d.2.2.2.1) (by kernel_rfl) hy)
def Φ157 (L N : Nat) : Tells := (addT (Φ183 L N) 157 (f157.ent L N))
theorem Φ157_ok (L N : Nat) : TellsOk Try.prog (Φ157 L N) := addT_ok (Φ183_ok L N) (f157.ok L N (Φ183_ok L N))
def f146.s1' {R : Type} (L N : Nat) (k1_e2 : LI → Int → Int → LLM → LI → Option R) (rec1 : LI → Int → Int → Int → LLM → LI → Option R) (s5 : LI) (s6 : Int) (s7 : Int) (s8 : Int) (s9 : LLM) (s10 : LI) : Option R :=
  bif (decide (s8 ≥ (0 : Int))) then
    bif (decide (0 ≤ s8) && decide (s8 < (s5.length : Int))) then
      bif (decide (0 ≤ s6) && decide (s6 < (s5.length : Int))) then
        bif ((listAt s5 (0 : Int) s8.toNat) == (listAt s5 (0 : Int) s6.toNat)) then
          (f157 L N (Graph.mk s9) s6 s8 s5).bind fun y16 =>
          bif y16 then
            (f157 L N (Graph.mk s9) s8 s6 s5).bind fun y17 =>
            bif y17 then
              rec1 s5 s6 s8 (wi (s8 - (1 : Int))) s9 s10
            else rec1 s5 s6 s7 (wi (s8 - (1 : Int))) s9 s10
          else rec1 s5 s6 s7 (wi (s8 - (1 : Int))) s9 s10
        else rec1 s5 s6 s7 (wi (s8 - (1 : Int))) s9 s10
      else none
    else none
  else k1_e2 s5 s6 s7 s9 s10
def f146.s1 {R : Type} (L N : Nat) (k1_e2 : LI → Int → Int → LLM → LI → Option R) (rec1 : LI → Int → Int → Int → LLM → LI → Option R) (s5 : LI) (s6 : Int) (s7 : Int) (s8 : Int) (s9 : LLM) (s10 : LI) : Option R :=
  f146.s1' L N k1_e2 rec1 s5 s6 s7 s8 s9 s10
def f146.l1 {R : Type} (L N : Nat) (k1_e2 : LI → Int → Int → LLM → LI → Option R) : Nat → LI → Int → Int → Int → LLM → LI → Option R
  | 0, _, _, _, _, _, _ => none
  | n + 1, s5, s6, s7, s8, s9, s10 => f146.s1 L N k1_e2 (f146.l1 L N k1_e2 n) s5 s6 s7 s8 s9 s10
def f146.T1 (s5 : LI) (s6 : Int) (s7 : Int) (s8 : Int) (s9 : LLM) (s10 : LI) : T := mkT 52 [(1, (.tv (.sl i64) s5)), (2, (.ptr 1002 0)), (5, (.row 1009)), (6, (.tv i64 s6)), (7, (.tv i64 s7)), (8, (.tv i64 s8))]
def f146.H1 (s5 : LI) (s6 : Int) (s7 : Int) (s8 : Int) (s9 : LLM) (s10 : LI) : H := [(1002, (.box [(.tv (.sl (.sl (.st 0))) s9)])), (1009, (.row 3 i64 s10))]
def f146.T1_e2 (z11 : LI) (z12 : Int) (z13 : Int) (z14 : LLM) (z15 : LI) : T := mkT 52 [(1, (.tv (.sl i64) z11)), (2, (.ptr 1002 0)), (5, (.row 1009)), (6, (.tv i64 z12)), (7, (.tv i64 z13))]
def f146.H1_e2 (z11 : LI) (z12 : Int) (z13 : Int) (z14 : LLM) (z15 : LI) : H := [(1002, (.box [(.tv (.sl (.sl (.st 0))) z14)])), (1009, (.row 3 i64 z15))]
def f146.p1_e2' {R : Type} (L N : Nat) (k0_e0 : LI → Option R) (rec0 : LI → Int → LLM → LI → Option R) (z11 : LI) (z12 : Int) (z13 : Int) (z14 : LLM) (z15 : LI) : Option R :=
  bif (decide (z15.length + ([z13] : LI).length ≤ lim)) then
    rec0 z11 (wi (z12 + (1 : Int))) z14 (z15 ++ ([z13] : LI))
  else none
def f146.p1_e2 {R : Type} (L N : Nat) (k0_e0 : LI → Option R) (rec0 : LI → Int → LLM → LI → Option R) (z11 : LI) (z12 : Int) (z13 : Int) (z14 : LLM) (z15 : LI) : Option R :=
  f146.p1_e2' L N k0_e0 rec0 z11 z12 z13 z14 z15
def f146.s0' {R : Type} (L N : Nat) (k0_e0 : LI → Option R) (rec0 : LI → Int → LLM → LI → Option R) (w1 : LI → Int → Int → Int → LLM → LI → Option R) (s0 : LI) (s1 : Int) (s2 : LLM) (s3 : LI) : Option R :=
  bif (decide (s1 < (s0.length : Int))) then
    w1 s0 s1 s1 (wi (s1 - (1 : Int))) s2 s3
  else k0_e0 s3
def f146.s0 {R : Type} (L N : Nat) (k0_e0 : LI → Option R) (rec0 : LI → Int → LLM → LI → Option R) (s0 : LI) (s1 : Int) (s2 : LLM) (s3 : LI) : Option R :=
  f146.s0' L N k0_e0 rec0 (fun s5 s6 s7 s8 s9 s10 => f146.l1 L N (fun z11 z12 z13 z14 z15 => f146.p1_e2 L N k0_e0 rec0 z11 z12 z13 z14 z15) L s5 s6 s7 s8 s9 s10) s0 s1 s2 s3
def f146.l0 {R : Type} (L N : Nat) (k0_e0 : LI → Option R) : Nat → LI → Int → LLM → LI → Option R
  | 0, _, _, _, _ => none
  | n + 1, s0, s1, s2, s3 => f146.s0 L N k0_e0 (f146.l0 L N k0_e0 n) s0 s1 s2 s3
def f146.T0 (s0 : LI) (s1 : Int) (s2 : LLM) (s3 : LI) : T := mkT 52 [(1, (.tv (.sl i64) s0)), (2, (.ptr 1002 0)), (5, (.row 1009)), (6, (.tv i64 s1))]
def f146.H0 (s0 : LI) (s1 : Int) (s2 : LLM) (s3 : LI) : H := [(1002, (.box [(.tv (.sl (.sl (.st 0))) s2)])), (1009, (.row 3 i64 s3))]
def f146.T0_e0 (z4 : LI) : T := mkT 52 [(5, (.row 1009))]
def f146.H0_e0 (z4 : LI) : H := [(1009, (.row 3 i64 z4))]
def f146.p0_e0' {R : Type} (L N : Nat) (k : LI → Option R) (z4 : LI) : Option R :=
  k z4
def f146.p0_e0 {R : Type} (L N : Nat) (k : LI → Option R) (z4 : LI) : Option R :=
  f146.p0_e0' L N k z4
def f146.b' {R : Type} (L N : Nat) (k : LI → Option R) (w0 : LI → Int → LLM → LI → Option R) (x0 : Graph) (x1 : LI) : Option R :=
  w0 x1 (0 : Int) x0.moves ([] : LI)
def f146.b {R : Type} (L N : Nat) (k : LI → Option R) (x0 : Graph) (x1 : LI) : Option R :=
  f146.b' L N k (fun s0 s1 s2 s3 => f146.l0 L N (fun z4 => f146.p0_e0 L N k z4) L s0 s1 s2 s3) x0 x1
def f146 (L N : Nat) (x0 : Graph) (x1 : LI) : Option (LI) := f146.b L N some x0 x1
def f146.ent (L N : Nat) := entDa [(.st 2), (.sl i64)] (.one (.sl i64)) fun d => f146 L N d.1 d.2.1
noncomputable def E146 (L N : Nat) : Env := { P := Try.prog, ty := tyOf, Φ := (Φ157 L N), inl := inlT, live := lives, liveX := livesX, L := L, dp := none, prom := promT, heal := healT, ren := renT }
noncomputable def f146.c0 : Code := loopAt 0 (codeOf Try.f146)
noncomputable def f146.c1 : Code := loopAt 2 f146.c0
def f146.X1_e2 {R : Type} (κ : KX R) := fun z11 z12 z13 z14 z15 => κ (.exit 2) (f146.T1_e2 z11 z12 z13 z14 z15) (f146.H1_e2 z11 z12 z13 z14 z15)
def f146.R1 {R : Type} (rec : KT R) := fun s5 s6 s7 s8 s9 s10 => rec (f146.T1 s5 s6 s7 s8 s9 s10) (f146.H1 s5 s6 s7 s8 s9 s10)
theorem f146.s1_eq {R : Type} (L N : Nat) (κ : KX R) (rec : KT R) (s5 : LI) (s6 : Int) (s7 : Int) (s8 : Int) (s9 : LLM) (s10 : LI) :
    evRd (E146 L N) (evCallI (E146 L N) 1 2000) 1000 146 52 2 f146.c1 κ rec (f146.T1 s5 s6 s7 s8 s9 s10) (f146.H1 s5 s6 s7 s8 s9 s10)
    = f146.s1 L N (f146.X1_e2 κ) (f146.R1 rec) s5 s6 s7 s8 s9 s10 := by kernel_rfl
theorem f146.l1_eq {R : Type} (L N : Nat) (κ : KX R) : ∀ (n : Nat) (s5 : LI) (s6 : Int) (s7 : Int) (s8 : Int) (s9 : LLM) (s10 : LI),
    evLp (E146 L N) (evCallI (E146 L N) 1 2000) 1000 146 52 2 f146.c1 κ n (f146.T1 s5 s6 s7 s8 s9 s10) (f146.H1 s5 s6 s7 s8 s9 s10)
    = f146.l1 L N (f146.X1_e2 κ) n s5 s6 s7 s8 s9 s10 := by
  intro n
  induction n with
  | zero => intros; rfl
  | succ n ih =>
    intro s5 s6 s7 s8 s9 s10
    rw [evLp_succ, f146.s1_eq]
    delta f146.R1
    simp only [ih]
    rfl
def f146.X0_e0 {R : Type} (κ : KX R) := fun z4 => κ (.exit 0) (f146.T0_e0 z4) (f146.H0_e0 z4)
def f146.R0 {R : Type} (rec : KT R) := fun s0 s1 s2 s3 => rec (f146.T0 s0 s1 s2 s3) (f146.H0 s0 s1 s2 s3)
theorem f146.p1_e2_eq {R : Type} (L N : Nat) (κ : KX R) (rec : KT R) (z11 : LI) (z12 : Int) (z13 : Int) (z14 : LLM) (z15 : LI) :
    (contAt (E146 L N) (evCallI (E146 L N) 1 2000) 1000 146 52 2 f146.c0 (rdK (E146 L N) 1000 146 52 0 κ rec)) (.exit 2) (f146.T1_e2 z11 z12 z13 z14 z15) (f146.H1_e2 z11 z12 z13 z14 z15)
    = f146.p1_e2 L N (f146.X0_e0 κ) (f146.R0 rec) z11 z12 z13 z14 z15 := by kernel_rfl
theorem f146.s0_eq {R : Type} (L N : Nat) (κ : KX R) (rec : KT R) (s0 : LI) (s1 : Int) (s2 : LLM) (s3 : LI) :
    evRd (E146 L N) (evCallI (E146 L N) 1 2000) 1000 146 52 0 f146.c0 κ rec (f146.T0 s0 s1 s2 s3) (f146.H0 s0 s1 s2 s3)
    = f146.s0 L N (f146.X0_e0 κ) (f146.R0 rec) s0 s1 s2 s3 := by
  refine Eq.trans (b := f146.s0' L N (f146.X0_e0 κ) (f146.R0 rec) (fun s5 s6 s7 s8 s9 s10 => evLp (E146 L N) (evCallI (E146 L N) 1 2000) 1000 146 52 2 f146.c1 (contAt (E146 L N) (evCallI (E146 L N) 1 2000) 1000 146 52 2 f146.c0 (rdK (E146 L N) 1000 146 52 0 κ rec)) L (f146.T1 s5 s6 s7 s8 s9 s10) (f146.H1 s5 s6 s7 s8 s9 s10)) s0 s1 s2 s3) (by kernel_rfl) ?_
  unfold f146.s0
  simp only [f146.l1_eq]
  delta f146.X1_e2
  simp only [f146.p1_e2_eq]
theorem f146.l0_eq {R : Type} (L N : Nat) (κ : KX R) : ∀ (n : Nat) (s0 : LI) (s1 : Int) (s2 : LLM) (s3 : LI),
    evLp (E146 L N) (evCallI (E146 L N) 1 2000) 1000 146 52 0 f146.c0 κ n (f146.T0 s0 s1 s2 s3) (f146.H0 s0 s1 s2 s3)
    = f146.l0 L N (f146.X0_e0 κ) n s0 s1 s2 s3 := by
  intro n
  induction n with
  | zero => intros; rfl
  | succ n ih =>
    intro s0 s1 s2 s3
    rw [evLp_succ, f146.s0_eq]
    delta f146.R0
    simp only [ih]
    rfl
theorem f146.p0_e0_eq {R : Type} (L N : Nat) (κ : AV → Option R) (z4 : LI) :
    (contAt (E146 L N) (evCallI (E146 L N) 1 2000) 1000 146 52 0 (codeOf Try.f146) (finK (E146 L N) 1000 Try.f146 (finC (.one (.sl i64)) κ))) (.exit 0) (f146.T0_e0 z4) (f146.H0_e0 z4)
    = f146.p0_e0 L N (fun a0 => κ (.tv (.sl i64) a0)) z4 := by kernel_rfl
theorem f146.b_eq {R : Type} (L N : Nat) (κ : AV → Option R) (x0 : Graph) (x1 : LI) :
    evBody (E146 L N) (evCallI (E146 L N) 1 2000) 1000 146 Try.f146 [(.tv (.st 2) x0), (.tv (.sl i64) x1)] [] [] (finC (.one (.sl i64)) κ)
    = f146.b L N (fun a0 => κ (.tv (.sl i64) a0)) x0 x1 := by
  refine Eq.trans (b := f146.b' L N (fun a0 => κ (.tv (.sl i64) a0)) (fun s0 s1 s2 s3 => evLp (E146 L N) (evCallI (E146 L N) 1 2000) 1000 146 52 0 f146.c0 (contAt (E146 L N) (evCallI (E146 L N) 1 2000) 1000 146 52 0 (codeOf Try.f146) (finK (E146 L N) 1000 Try.f146 (finC (.one (.sl i64)) κ))) L (f146.T0 s0 s1 s2 s3) (f146.H0 s0 s1 s2 s3)) x0 x1) (by kernel_rfl) ?_
  unfold f146.b
  simp only [f146.l0_eq]
  delta f146.X0_e0
  simp only [f146.p0_e0_eq]
theorem f146.ok (L N : Nat) (hΦ : TellsOk Try.prog ((Φ157 L N))) : EntOk Try.prog 146 (f146.ent L N) := entDa_ok (E := (E146 L N)) (dep := 1000) (f := Try.f146) (sound_of hΦ) okP (callI_sound (sound_of hΦ) okP 1 2000) rfl fun d _ hy => (f146.b_eq L N (unR (.one (.sl i64))) d.1 d.2.1).trans (Eq.trans (b := f146.b L N some d.1 d.2.1) (by kernel_rfl) hy)
def Φ146 (L N : Nat) : Tells := (addT (Φ157 L N) 146 (f146.ent L N))
theorem Φ146_ok (L N : Nat) : TellsOk Try.prog (Φ146 L N) := addT_ok (Φ157_ok L N) (f146.ok L N (Φ157_ok L N))
def f127.s0' {R : Type} (L N : Nat) (k0_r : LLI → Option R) (rec0 : LLM → LLI → Option R) (s0 : LLM) (s1 : LLI) : Option R :=
  bif (decide (0 ≤ (wi ((s1.length : Int) - (1 : Int)))) && decide ((wi ((s1.length : Int) - (1 : Int))) < (s1.length : Int))) then
    (f146 L N (Graph.mk s0) (listAt s1 [] (wi ((s1.length : Int) - (1 : Int))).toNat)).bind fun y2 =>
    bif (decide (0 ≤ (wi ((s1.length : Int) - (1 : Int)))) && decide ((wi ((s1.length : Int) - (1 : Int))) < (s1.length : Int))) then
      (f116 L N y2 (listAt s1 [] (wi ((s1.length : Int) - (1 : Int))).toNat)).bind fun y3 =>
      bif y3 then
        k0_r s1
      else bif (decide (s1.length + ([y2] : LLI).length ≤ lim)) then
        rec0 s0 (s1 ++ ([y2] : LLI))
      else none
    else none
  else none
def f127.s0 {R : Type} (L N : Nat) (k0_r : LLI → Option R) (rec0 : LLM → LLI → Option R) (s0 : LLM) (s1 : LLI) : Option R :=
  f127.s0' L N k0_r rec0 s0 s1
def f127.l0 {R : Type} (L N : Nat) (k0_r : LLI → Option R) : Nat → LLM → LLI → Option R
  | 0, _, _ => none
  | n + 1, s0, s1 => f127.s0 L N k0_r (f127.l0 L N k0_r n) s0 s1
def f127.T0 (s0 : LLM) (s1 : LLI) : T := mkT 31 [(1, (.ptr 1001 0)), (3, (.row 1009))]
def f127.H0 (s0 : LLM) (s1 : LLI) : H := [(1001, (.box [(.tv (.sl (.sl (.st 0))) s0)])), (1009, (.row 30 (.sl i64) s1))]
def f127.T0_r (z4 : LLI) : T := mkT 31 [(2, (.row 1009))]
def f127.H0_r (z4 : LLI) : H := [(1009, (.row 30 (.sl i64) z4))]
def f127.p0_r' {R : Type} (L N : Nat) (k : LLI → Option R) (z4 : LLI) : Option R :=
  k z4
def f127.p0_r {R : Type} (L N : Nat) (k : LLI → Option R) (z4 : LLI) : Option R :=
  f127.p0_r' L N k z4
def f127.b' {R : Type} (L N : Nat) (k : LLI → Option R) (w0 : LLM → LLI → Option R) (x0 : Graph) : Option R :=
  bif (decide (0 ≤ (x0.moves.length : Int)) && decide ((x0.moves.length : Int) ≤ (lim : Int))) then
    w0 x0.moves ([(List.replicate (x0.moves.length : Int).toNat (0 : Int))] : LLI)
  else none
def f127.b {R : Type} (L N : Nat) (k : LLI → Option R) (x0 : Graph) : Option R :=
  f127.b' L N k (fun s0 s1 => f127.l0 L N (fun z4 => f127.p0_r L N k z4) L s0 s1) x0
def f127 (L N : Nat) (x0 : Graph) : Option (LLI) := f127.b L N some x0
def f127.ent (L N : Nat) := entDa [(.st 2)] (.one (.sl (.sl i64))) fun d => f127 L N d.1
noncomputable def E127 (L N : Nat) : Env := { P := Try.prog, ty := tyOf, Φ := (Φ146 L N), inl := inlT, live := lives, liveX := livesX, L := L, dp := none, prom := promT, heal := healT, ren := renT }
noncomputable def f127.c0 : Code := loopAt 0 (codeOf Try.f127)
def f127.X0_r {R : Type} (κ : KX R) := fun z4 => κ .ret (f127.T0_r z4) (f127.H0_r z4)
def f127.R0 {R : Type} (rec : KT R) := fun s0 s1 => rec (f127.T0 s0 s1) (f127.H0 s0 s1)
theorem f127.s0_eq {R : Type} (L N : Nat) (κ : KX R) (rec : KT R) (s0 : LLM) (s1 : LLI) :
    evRd (E127 L N) (evCallI (E127 L N) 1 2000) 1000 127 31 0 f127.c0 κ rec (f127.T0 s0 s1) (f127.H0 s0 s1)
    = f127.s0 L N (f127.X0_r κ) (f127.R0 rec) s0 s1 := by kernel_rfl
theorem f127.l0_eq {R : Type} (L N : Nat) (κ : KX R) : ∀ (n : Nat) (s0 : LLM) (s1 : LLI),
    evLp (E127 L N) (evCallI (E127 L N) 1 2000) 1000 127 31 0 f127.c0 κ n (f127.T0 s0 s1) (f127.H0 s0 s1)
    = f127.l0 L N (f127.X0_r κ) n s0 s1 := by
  intro n
  induction n with
  | zero => intros; rfl
  | succ n ih =>
    intro s0 s1
    rw [evLp_succ, f127.s0_eq]
    delta f127.R0
    simp only [ih]
    rfl
theorem f127.p0_r_eq {R : Type} (L N : Nat) (κ : AV → Option R) (z4 : LLI) :
    (contAt (E127 L N) (evCallI (E127 L N) 1 2000) 1000 127 31 0 (codeOf Try.f127) (finK (E127 L N) 1000 Try.f127 (finC (.one (.sl (.sl i64))) κ))) .ret (f127.T0_r z4) (f127.H0_r z4)
    = f127.p0_r L N (fun a0 => κ (.tv (.sl (.sl i64)) a0)) z4 := by kernel_rfl
theorem f127.b_eq {R : Type} (L N : Nat) (κ : AV → Option R) (x0 : Graph) :
    evBody (E127 L N) (evCallI (E127 L N) 1 2000) 1000 127 Try.f127 [(.tv (.st 2) x0)] [] [] (finC (.one (.sl (.sl i64))) κ)
    = f127.b L N (fun a0 => κ (.tv (.sl (.sl i64)) a0)) x0 := by
  refine Eq.trans (b := f127.b' L N (fun a0 => κ (.tv (.sl (.sl i64)) a0)) (fun s0 s1 => evLp (E127 L N) (evCallI (E127 L N) 1 2000) 1000 127 31 0 f127.c0 (contAt (E127 L N) (evCallI (E127 L N) 1 2000) 1000 127 31 0 (codeOf Try.f127) (finK (E127 L N) 1000 Try.f127 (finC (.one (.sl (.sl i64))) κ))) L (f127.T0 s0 s1) (f127.H0 s0 s1)) x0) (by kernel_rfl) ?_
  unfold f127.b
  simp only [f127.l0_eq]
  delta f127.X0_r
  simp only [f127.p0_r_eq]
theorem f127.ok (L N : Nat) (hΦ : TellsOk Try.prog ((Φ146 L N))) : EntOk Try.prog 127 (f127.ent L N) := entDa_ok (E := (E127 L N)) (dep := 1000) (f := Try.f127) (sound_of hΦ) okP (callI_sound (sound_of hΦ) okP 1 2000) rfl fun d _ hy => (f127.b_eq L N (unR (.one (.sl (.sl i64)))) d.1).trans (Eq.trans (b := f127.b L N some d.1) (by kernel_rfl) hy)
def Φ127 (L N : Nat) : Tells := (addT (Φ146 L N) 127 (f127.ent L N))
theorem Φ127_ok (L N : Nat) : TellsOk Try.prog (Φ127 L N) := addT_ok (Φ146_ok L N) (f127.ok L N (Φ146_ok L N))
def f94.b' {R : Type} (L N : Nat) (k : LI → Option R) (x0 : Graph) : Option R :=
  (f127 L N (Graph.mk x0.moves)).bind fun y0 =>
  bif (decide (0 ≤ (wi ((y0.length : Int) - (1 : Int)))) && decide ((wi ((y0.length : Int) - (1 : Int))) < (y0.length : Int))) then
    k (listAt y0 [] (wi ((y0.length : Int) - (1 : Int))).toNat)
  else none
def f94.b {R : Type} (L N : Nat) (k : LI → Option R) (x0 : Graph) : Option R :=
  f94.b' L N k x0
def f94 (L N : Nat) (x0 : Graph) : Option (LI) := f94.b L N some x0
def f94.ent (L N : Nat) := entDa [(.st 2)] (.one (.sl i64)) fun d => f94 L N d.1
noncomputable def E94 (L N : Nat) : Env := { P := Try.prog, ty := tyOf, Φ := (Φ127 L N), inl := inlT, live := lives, liveX := livesX, L := L, dp := none, prom := promT, heal := healT, ren := renT }
theorem f94.b_eq {R : Type} (L N : Nat) (κ : AV → Option R) (x0 : Graph) :
    evBody (E94 L N) (evCallI (E94 L N) 1 2000) 1000 94 Try.f94 [(.tv (.st 2) x0)] [] [] (finC (.one (.sl i64)) κ)
    = f94.b L N (fun a0 => κ (.tv (.sl i64) a0)) x0 := by kernel_rfl
theorem f94.ok (L N : Nat) (hΦ : TellsOk Try.prog ((Φ127 L N))) : EntOk Try.prog 94 (f94.ent L N) := entDa_ok (E := (E94 L N)) (dep := 1000) (f := Try.f94) (sound_of hΦ) okP (callI_sound (sound_of hΦ) okP 1 2000) rfl fun d _ hy => (f94.b_eq L N (unR (.one (.sl i64))) d.1).trans (Eq.trans (b := f94.b L N some d.1) (by kernel_rfl) hy)
def Φ94 (L N : Nat) : Tells := (addT (Φ127 L N) 94 (f94.ent L N))
theorem Φ94_ok (L N : Nat) : TellsOk Try.prog (Φ94 L N) := addT_ok (Φ127_ok L N) (f94.ok L N (Φ127_ok L N))
def f51.b' {R : Type} (L N : Nat) (k : LI → Option R) (x0 : Graph) : Option R :=
  (f58 L N (Graph.mk x0.moves)).bind fun y0 =>
  bif (!y0) then
    k ([] : LI)
  else (f87 L N (Graph.mk x0.moves) false).bind fun y1 =>
  (f94 L N y1).bind fun y2 =>
  k y2
def f51.b {R : Type} (L N : Nat) (k : LI → Option R) (x0 : Graph) : Option R :=
  f51.b' L N k x0
def f51 (L N : Nat) (x0 : Graph) : Option (LI) := f51.b L N some x0
def f51.ent (L N : Nat) := entDa [(.st 2)] (.one (.sl i64)) fun d => f51 L N d.1
noncomputable def E51 (L N : Nat) : Env := { P := Try.prog, ty := tyOf, Φ := (Φ94 L N), inl := inlT, live := lives, liveX := livesX, L := L, dp := none, prom := promT, heal := healT, ren := renT }
theorem f51.b_eq {R : Type} (L N : Nat) (κ : AV → Option R) (x0 : Graph) :
    evBody (E51 L N) (evCallI (E51 L N) 1 2000) 1000 51 Try.f51 [(.tv (.st 2) x0)] [] [] (finC (.one (.sl i64)) κ)
    = f51.b L N (fun a0 => κ (.tv (.sl i64) a0)) x0 := by kernel_rfl
theorem f51.ok (L N : Nat) (hΦ : TellsOk Try.prog ((Φ94 L N))) : EntOk Try.prog 51 (f51.ent L N) := entDa_ok (E := (E51 L N)) (dep := 1000) (f := Try.f51) (sound_of hΦ) okP (callI_sound (sound_of hΦ) okP 1 2000) rfl fun d _ hy => (f51.b_eq L N (unR (.one (.sl i64))) d.1).trans (Eq.trans (b := f51.b L N some d.1) (by kernel_rfl) hy)
def Φ51 (L N : Nat) : Tells := (addT (Φ94 L N) 51 (f51.ent L N))
theorem Φ51_ok (L N : Nat) : TellsOk Try.prog (Φ51 L N) := addT_ok (Φ94_ok L N) (f51.ok L N (Φ94_ok L N))
def f52.b' {R : Type} (L N : Nat) (k : LI → Option R) (x0 : Graph) : Option R :=
  (f32 L N (Graph.mk x0.moves)).bind fun y0 =>
  bif (!y0) then
    k []
  else (f88 L N (Graph.mk x0.moves)).bind fun y1 =>
  (f86 L N (Graph.mk y1)).bind fun y2 =>
  k y2
def f52.b {R : Type} (L N : Nat) (k : LI → Option R) (x0 : Graph) : Option R :=
  f52.b' L N k x0
def f52 (L N : Nat) (x0 : Graph) : Option (LI) := f52.b L N some x0
def f52.ent (L N : Nat) (args : List AV) (vw : View) (site : Nat) : Ans := match roD [(.st 2)] vw args with
  | some d => ⟨LI, f52 L N d.1, fun y => (RN.av site .row (), [(site, some (mkO none 3 i64 y))], [])⟩
  | none => Ans.no
noncomputable def E52 (L N : Nat) : Env := { P := Try.prog, ty := tyOf, Φ := (Φ51 L N), inl := inlT, live := lives, liveX := livesX, L := L, dp := none, prom := promT, heal := healT, ren := renT }
theorem f52.b_eq {R : Type} (L N : Nat) (κ : RN.Den .row → List Int → Option R) (x0 : Graph) :
    evBody (E52 L N) (evCallI (E52 L N) 1 2000) 1000 52 Try.f52 [(.tv (.st 2) x0)] [] [] (finN .row none 3 i64 κ)
    = f52.b L N (fun a0 => κ () a0) x0 := by kernel_rfl
theorem f52.ok (L N : Nat) (hΦ : TellsOk Try.prog ((Φ51 L N))) : EntOk Try.prog 52 (f52.ent L N) := by
  intro args vw site h
  unfold f52.ent
  split
  · rename_i d ha
    intro y hy hs
    refine call_ron (y := y) (dep := 1000) (E := (E52 L N)) (ts := [(.st 2)]) (rn := .row) (q := none) (el := 3) (ty := i64) (d1 := ()) (xs := y) (κ := (fun d xs => some xs)) (sound_of hΦ) okP (callI_sound (sound_of hΦ) okP 1 2000) (f := Try.f52) rfl hs ha ?_ (fun _ _ h => by obtain rfl := Option.some.inj h; exact ⟨rfl, rfl⟩) rfl site
    exact (f52.b_eq L N (fun d xs => some xs) d.1).trans (Eq.trans (b := f52.b L N some d.1) (by kernel_rfl) hy)
  · intro y hy
    cases hy
def Φ52 (L N : Nat) : Tells := (addT (Φ51 L N) 52 (f52.ent L N))
theorem Φ52_ok (L N : Nat) : TellsOk Try.prog (Φ52 L N) := addT_ok (Φ51_ok L N) (f52.ok L N (Φ51_ok L N))
def f68.b' {R : Type} (L N : Nat) (k : LI → Int → Option R) (x0 : LI) : Option R :=
  bif (decide ((x0.length : Int) > (2000 : Int))) then
    bif (slB (0 : Int) (2000 : Int) x0.length) then
      k (slX x0 (0 : Int) (2000 : Int)) (0 : Int)
    else none
  else k x0 (0 : Int)
def f68.b {R : Type} (L N : Nat) (k : LI → Int → Option R) (x0 : LI) : Option R :=
  f68.b' L N k x0
def f68 (L N : Nat) (x0 : LI) : Option (LI × Int) := f68.b L N (fun a0 a1 => some (a0, a1)) x0
def f68.ent (L N : Nat) (args : List AV) (vw : View) (site : Nat) : Ans := match coeD [(.sl (.int .u8))] vw args with
  | some (d, u) => ⟨LI × Int, f68 L N d.1, fun y => (.ptr site 0, u ++ [(site, some (.box [(.tv (.sl (.int .u8)) y.1), (.tv i64 y.2)]))], [])⟩
  | none => Ans.no
noncomputable def E68 (L N : Nat) : Env := { P := Try.prog, ty := tyOf, Φ := (Φ52 L N), inl := inlT, live := lives, liveX := livesX, L := L, dp := none, prom := promT, heal := healT, ren := renT }
theorem f68.b_eq {R : Type} (L N : Nat) (κ : Dens [(.sl (.int .u8)), i64] → Option R) (x0 : LI) :
    evBody (E68 L N) (evCallI (E68 L N) 1 2000) 1000 68 Try.f68 [(.tv (.sl (.int .u8)) x0)] [] [] (finB [(.sl (.int .u8)), i64] κ)
    = f68.b L N (fun a0 a1 => κ (a0, a1, ())) x0 := by kernel_rfl
theorem f68.ok (L N : Nat) (hΦ : TellsOk Try.prog ((Φ52 L N))) : EntOk Try.prog 68 (f68.ent L N) := by
  intro args vw site h
  unfold f68.ent
  split
  · rename_i d u ha
    intro y hy hs
    refine call_newbox (y := y) (dep := 1000) (d1 := (y.1, y.2, ())) (E := (E68 L N)) (ts := [(.sl (.int .u8))]) (tb := [(.sl (.int .u8)), i64]) (κ := (fun d => some (d.1, d.2.1))) (sound_of hΦ) okP (callI_sound (sound_of hΦ) okP 1 2000) (f := Try.f68) rfl hs ha ?_ (fun _ h => by obtain rfl := Option.some.inj h; rfl) site
    exact (f68.b_eq L N (fun d => some (d.1, d.2.1)) d.1).trans (Eq.trans (b := f68.b L N (fun a0 a1 => some (a0, a1)) d.1) (by kernel_rfl) hy)
  · intro y hy
    cases hy
def Φ68 (L N : Nat) : Tells := (addT (Φ52 L N) 68 (f68.ent L N))
theorem Φ68_ok (L N : Nat) : TellsOk Try.prog (Φ68 L N) := addT_ok (Φ52_ok L N) (f68.ok L N (Φ52_ok L N))
def f91.j0' {R : Type} (L N : Nat) (k : Int → LI → Int → Option R) (v4 : Int) (v5 : LI) (v6 : Int) : Option R :=
  bif (decide ((wi (v6 - (1 : Int))) < (v5.length : Int))) then
    bif (decide (0 ≤ (wi (v6 - (1 : Int)))) && decide ((wi (v6 - (1 : Int))) < (v5.length : Int))) then
      bif (decide (v4 = 0)) then
        none
      else k (Int.tmod (wi ((listAt v5 (0 : Int) (wi (v6 - (1 : Int))).toNat))) v4) v5 v6
    else none
  else bif (decide ((v5.length : Int) = 0)) then
    none
  else bif (decide (0 ≤ (Int.tmod (wi (v6 - (1 : Int))) (v5.length : Int))) && decide ((Int.tmod (wi (v6 - (1 : Int))) (v5.length : Int)) < (v5.length : Int))) then
    bif (decide ((v5.length : Int) = 0)) then
      none
    else bif (decide (0 ≤ (Int.tmod (wi ((wi ((wi (v6 - (1 : Int))) * (7 : Int))) + (3 : Int))) (v5.length : Int))) && decide ((Int.tmod (wi ((wi ((wi (v6 - (1 : Int))) * (7 : Int))) + (3 : Int))) (v5.length : Int)) < (v5.length : Int))) then
      bif (decide ((v5.length : Int) = 0)) then
        none
      else bif (decide ((64 : Int) = 0)) then
        none
      else bif (decide (v4 = 0)) then
        none
      else k (Int.tmod (IntKind.wrap .i64 ((BitVec.ofInt (IntKind.bits .i64) (wi ((wi ((wi ((wi ((wi ((listAt v5 (0 : Int) (Int.tmod (wi (v6 - (1 : Int))) (v5.length : Int)).toNat))) * (131 : Int))) + (wi ((wi ((listAt v5 (0 : Int) (Int.tmod (wi ((wi ((wi (v6 - (1 : Int))) * (7 : Int))) + (3 : Int))) (v5.length : Int)).toNat))) * (1117 : Int))))) + (wi ((wi (v6 - (1 : Int))) * (29 : Int))))) + (wi ((wi (Int.tdiv (wi (v6 - (1 : Int))) (v5.length : Int))) * (53 : Int))))) ^^^ BitVec.ofInt (IntKind.bits .i64) (wi (Int.tdiv (wi ((wi ((wi ((wi ((wi ((listAt v5 (0 : Int) (Int.tmod (wi (v6 - (1 : Int))) (v5.length : Int)).toNat))) * (131 : Int))) + (wi ((wi ((listAt v5 (0 : Int) (Int.tmod (wi ((wi ((wi (v6 - (1 : Int))) * (7 : Int))) + (3 : Int))) (v5.length : Int)).toNat))) * (1117 : Int))))) + (wi ((wi (v6 - (1 : Int))) * (29 : Int))))) + (wi ((wi (Int.tdiv (wi (v6 - (1 : Int))) (v5.length : Int))) * (53 : Int))))) (64 : Int)))).toNat)) v4) v5 v6
    else none
  else none
def f91.b' {R : Type} (L N : Nat) (k : Int → LI → Int → Option R) (c0 : LI) (c1 : Int) (x0 : Int) : Option R :=
  bif (decide (x0 < (1 : Int))) then
    k (0 : Int) c0 (wi (c1 + (1 : Int)))
  else bif ((c0.length : Int) == (0 : Int)) then
    k (0 : Int) c0 (wi (c1 + (1 : Int)))
  else f91.j0' L N k x0 c0 (wi (c1 + (1 : Int)))
def f91.b {R : Type} (L N : Nat) (k : Int → LI → Int → Option R) (c0 : LI) (c1 : Int) (x0 : Int) : Option R :=
  f91.b' L N k c0 c1 x0
def f91 (L N : Nat) (c0 : LI) (c1 : Int) (x0 : Int) : Option (Int × LI × Int) := f91.b L N (fun a0 a1 a2 => some (a0, a1, a2)) c0 c1 x0
def f91.ent (L N : Nat) (args : List AV) (vw : View) (site : Nat) : Ans := match boxD [(.sl (.int .u8)), i64] [i64] vw args with
  | some (o, d0, d, u) => ⟨Int × LI × Int, f91 L N d0.1 d0.2.1 d.1, fun y => ((.tv i64 y.1), u ++ [(o, some (.box [(.tv (.sl (.int .u8)) y.2.1), (.tv i64 y.2.2)]))], [])⟩
  | none => Ans.no
noncomputable def E91 (L N : Nat) : Env := { P := Try.prog, ty := tyOf, Φ := (Φ68 L N), inl := inlT, live := lives, liveX := livesX, L := L, dp := none, prom := promT, heal := healT, ren := renT }
theorem f91.b_eq {R : Type} (L N : Nat) (κ : AV → Dens [(.sl (.int .u8)), i64] → Option R) (c0 : LI) (c1 : Int) (x0 : Int) :
    evBody (E91 L N) (evCallI (E91 L N) 1 2000) 1000 91 Try.f91 [(.ptr 0 0), (.tv i64 x0)] [.ptr 0 0] [(0, (.box [(.tv (.sl (.int .u8)) c0), (.tv i64 c1)]))] (finM (.one i64) [(.sl (.int .u8)), i64] κ)
    = f91.b L N (fun a0 a1 a2 => κ (.tv i64 a0) (a1, a2, ())) c0 c1 x0 := by kernel_rfl
theorem f91.ok (L N : Nat) (hΦ : TellsOk Try.prog ((Φ68 L N))) : EntOk Try.prog 91 (f91.ent L N) := by
  intro args vw site h
  unfold f91.ent
  split
  · rename_i o d0 d u ha
    intro y hy hs
    obtain ⟨rest, cs, rfl, ho, hd0, hr, hu⟩ := boxD_some ha
    refine call_box (y := y) (dep := 1000) (v' := (.tv i64 y.1)) (d1 := (y.2.1, y.2.2, ())) (E := (E91 L N)) (ts := [(.sl (.int .u8)), i64]) (tr := [i64]) (rs := (.one i64)) (κ := (fun v d => (unR (.one i64) v).bind fun x => some (x, d.1, d.2.1))) (sound_of hΦ) okP (callI_sound (sound_of hΦ) okP 1 2000) (f := Try.f91) rfl hs ho hd0 hr hu ?_ (fun _ _ h => by obtain ⟨x, h1, h2⟩ := unR_bind h; obtain rfl := Option.some.inj h2; exact ⟨h1, rfl⟩) site
    exact (f91.b_eq L N (fun v d => (unR (.one i64) v).bind fun x => some (x, d.1, d.2.1)) d0.1 d0.2.1 d.1).trans (Eq.trans (b := f91.b L N (fun a0 a1 a2 => some (a0, a1, a2)) d0.1 d0.2.1 d.1) (by kernel_rfl) hy)
  · intro y hy
    cases hy
def Φ91 (L N : Nat) : Tells := (addT (Φ68 L N) 91 (f91.ent L N))
theorem Φ91_ok (L N : Nat) : TellsOk Try.prog (Φ91 L N) := addT_ok (Φ68_ok L N) (f91.ok L N (Φ68_ok L N))
def f134.b' {R : Type} (L N : Nat) (k : Int → LI → Int → Option R) (c0 : LI) (c1 : Int) : Option R :=
  (f91 L N c0 c1 (3 : Int)).bind fun y0 =>
  bif (decide (y0.1 > (0 : Int))) then
    (f91 L N y0.2.1 y0.2.2 (5 : Int)).bind fun y1 =>
    k (wi (y1.1 - (2 : Int))) y1.2.1 y1.2.2
  else (f91 L N y0.2.1 y0.2.2 (9 : Int)).bind fun y2 =>
  k (wi (y2.1 - (4 : Int))) y2.2.1 y2.2.2
def f134.b {R : Type} (L N : Nat) (k : Int → LI → Int → Option R) (c0 : LI) (c1 : Int) : Option R :=
  f134.b' L N k c0 c1
def f134 (L N : Nat) (c0 : LI) (c1 : Int) : Option (Int × LI × Int) := f134.b L N (fun a0 a1 a2 => some (a0, a1, a2)) c0 c1
def f134.ent (L N : Nat) (args : List AV) (vw : View) (site : Nat) : Ans := match boxD [(.sl (.int .u8)), i64] [] vw args with
  | some (o, d0, d, u) => ⟨Int × LI × Int, f134 L N d0.1 d0.2.1, fun y => ((.tv i64 y.1), u ++ [(o, some (.box [(.tv (.sl (.int .u8)) y.2.1), (.tv i64 y.2.2)]))], [])⟩
  | none => Ans.no
noncomputable def E134 (L N : Nat) : Env := { P := Try.prog, ty := tyOf, Φ := (Φ91 L N), inl := inlT, live := lives, liveX := livesX, L := L, dp := none, prom := promT, heal := healT, ren := renT }
theorem f134.b_eq {R : Type} (L N : Nat) (κ : AV → Dens [(.sl (.int .u8)), i64] → Option R) (c0 : LI) (c1 : Int) :
    evBody (E134 L N) (evCallI (E134 L N) 1 2000) 1000 134 Try.f134 [(.ptr 0 0)] [.ptr 0 0] [(0, (.box [(.tv (.sl (.int .u8)) c0), (.tv i64 c1)]))] (finM (.one i64) [(.sl (.int .u8)), i64] κ)
    = f134.b L N (fun a0 a1 a2 => κ (.tv i64 a0) (a1, a2, ())) c0 c1 := by kernel_rfl
theorem f134.ok (L N : Nat) (hΦ : TellsOk Try.prog ((Φ91 L N))) : EntOk Try.prog 134 (f134.ent L N) := by
  intro args vw site h
  unfold f134.ent
  split
  · rename_i o d0 d u ha
    intro y hy hs
    obtain ⟨rest, cs, rfl, ho, hd0, hr, hu⟩ := boxD_some ha
    refine call_box (y := y) (dep := 1000) (v' := (.tv i64 y.1)) (d1 := (y.2.1, y.2.2, ())) (E := (E134 L N)) (ts := [(.sl (.int .u8)), i64]) (tr := []) (rs := (.one i64)) (κ := (fun v d => (unR (.one i64) v).bind fun x => some (x, d.1, d.2.1))) (sound_of hΦ) okP (callI_sound (sound_of hΦ) okP 1 2000) (f := Try.f134) rfl hs ho hd0 hr hu ?_ (fun _ _ h => by obtain ⟨x, h1, h2⟩ := unR_bind h; obtain rfl := Option.some.inj h2; exact ⟨h1, rfl⟩) site
    exact (f134.b_eq L N (fun v d => (unR (.one i64) v).bind fun x => some (x, d.1, d.2.1)) d0.1 d0.2.1).trans (Eq.trans (b := f134.b L N (fun a0 a1 a2 => some (a0, a1, a2)) d0.1 d0.2.1) (by kernel_rfl) hy)
  · intro y hy
    cases hy
def Φ134 (L N : Nat) : Tells := (addT (Φ91 L N) 134 (f134.ent L N))
theorem Φ134_ok (L N : Nat) : TellsOk Try.prog (Φ134 L N) := addT_ok (Φ91_ok L N) (f134.ok L N (Φ91_ok L N))
def f147.j0' {R : Type} (L N : Nat) (self147 : LI → Int → Int → Int → Bool → Option (Tree × LI × Int)) (k : Tree → LI → Int → Option R) (v10 : Int) (v11 : Int) (v12 : Bool) (v13 : Int) (v14 : Bool) (v15 : LI) (v16 : Int) (v17 : Int) (v18 : Int) : Option R :=
  bif v14 then
    (f91 L N v15 v16 v11).bind fun y19 =>
    k (Tree.mk (5 : Int) y19.1 []) y19.2.1 y19.2.2
  else bif (v13 == (0 : Int)) then
    k (Tree.mk (0 : Int) (0 : Int) []) v15 v16
  else bif (decide (v13 < (5 : Int))) then
    (f134 L N v15 v16).bind fun y20 =>
    bif (v10 == (0 : Int)) then
      k (Tree.mk (1 : Int) y20.1 ([(Tree.mk (0 : Int) (0 : Int) [])] : LT)) y20.2.1 y20.2.2
    else (self147 y20.2.1 y20.2.2 (bif decide ((wi (v10 - (1 : Int))) > (0 : Int)) then (wi (v10 - (1 : Int))) else (0 : Int)) v11 true).bind fun y21 =>
    k (Tree.mk (1 : Int) y20.1 ([y21.1] : LT)) y21.2.1 y21.2.2
  else bif (v13 == (5 : Int)) then
    (f91 L N v15 v16 (4 : Int)).bind fun y22 =>
    (self147 y22.2.1 y22.2.2 (wi (v10 - (1 : Int))) v11 v12).bind fun y23 =>
    k (Tree.mk (4 : Int) y22.1 ([y23.1] : LT)) y23.2.1 y23.2.2
  else bif (v13 == (8 : Int)) then
    (self147 v15 v16 (wi (v10 - (1 : Int))) v11 v12).bind fun y34 =>
    (self147 y34.2.1 y34.2.2 (wi (v10 - (1 : Int))) v11 v12).bind fun y35 =>
    k (Tree.mk (3 : Int) (0 : Int) ([(Tree.mk y34.1.op y34.1.n y34.1.parts), (Tree.mk y35.1.op y35.1.n y35.1.parts)] : LT)) y35.2.1 y35.2.2
  else (self147 v15 v16 (wi (v10 - (1 : Int))) v11 v12).bind fun y36 =>
  (self147 y36.2.1 y36.2.2 (wi (v10 - (1 : Int))) v11 v12).bind fun y37 =>
  k (Tree.mk (2 : Int) (0 : Int) ([(Tree.mk y36.1.op y36.1.n y36.1.parts), (Tree.mk y37.1.op y37.1.n y37.1.parts)] : LT)) y37.2.1 y37.2.2
def f147.j1' {R : Type} (L N : Nat) (self147 : LI → Int → Int → Int → Bool → Option (Tree × LI × Int)) (k : Tree → LI → Int → Option R) (v2 : Int) (v3 : Int) (v4 : Bool) (v5 : Int) (v6 : LI) (v7 : Int) (v8 : Int) (v9 : Int) : Option R :=
  bif (decide (v5 < (2 : Int))) then
    bif (decide (v3 > (0 : Int))) then
      f147.j0' L N self147 k v2 v3 v4 v5 v4 v6 v7 v8 v9
    else f147.j0' L N self147 k v2 v3 v4 v5 false v6 v7 v8 v9
  else f147.j0' L N self147 k v2 v3 v4 v5 false v6 v7 v8 v9
def f147.b' {R : Type} (L N : Nat) (self147 : LI → Int → Int → Int → Bool → Option (Tree × LI × Int)) (k : Tree → LI → Int → Option R) (c0 : LI) (c1 : Int) (x0 : Int) (x1 : Int) (x2 : Bool) : Option R :=
  (f91 L N c0 c1 (9 : Int)).bind fun y0 =>
  bif (x0 == (0 : Int)) then
    (f91 L N y0.2.1 y0.2.2 (2 : Int)).bind fun y1 =>
    f147.j1' L N self147 k x0 x1 x2 y1.1 y1.2.1 y1.2.2 (0 : Int) (0 : Int)
  else f147.j1' L N self147 k x0 x1 x2 y0.1 y0.2.1 y0.2.2 (0 : Int) (0 : Int)
def f147.b {R : Type} (L N : Nat) (self147 : LI → Int → Int → Int → Bool → Option (Tree × LI × Int)) (k : Tree → LI → Int → Option R) (c0 : LI) (c1 : Int) (x0 : Int) (x1 : Int) (x2 : Bool) : Option R :=
  f147.b' L N self147 k c0 c1 x0 x1 x2
def f147 (L N : Nat) : Nat → LI → Int → Int → Int → Bool → Option (Tree × LI × Int)
  | 0, _, _, _, _, _ => none
  | n + 1, c0, c1, x0, x1, x2 => f147.b L N (f147 L N n) (fun a0 a1 a2 => some (a0, a1, a2)) c0 c1 x0 x1 x2
def f147.ent (L N m : Nat) (args : List AV) (vw : View) (site : Nat) : Ans := match boxD [(.sl (.int .u8)), i64] [i64, i64, .bool] vw args with
  | some (o, d0, d, u) => ⟨Tree × LI × Int, f147 L N m d0.1 d0.2.1 d.1 d.2.1 d.2.2.1, fun y => ((.tv (.st 1) y.1), u ++ [(o, some (.box [(.tv (.sl (.int .u8)) y.2.1), (.tv i64 y.2.2)]))], [])⟩
  | none => Ans.no
def Φ147s (L N m : Nat) : Tells := (addT (Φ134 L N) 147 (f147.ent L N m))
noncomputable def E147 (L N m : Nat) : Env := { P := Try.prog, ty := tyOf, Φ := Φ147s L N m, inl := inlT, live := lives, liveX := livesX, L := L, dp := none, prom := promT, heal := healT, ren := renT }
theorem f147.b_eq {R : Type} (L N m : Nat) (κ : AV → Dens [(.sl (.int .u8)), i64] → Option R) (c0 : LI) (c1 : Int) (x0 : Int) (x1 : Int) (x2 : Bool) :
    evBody (E147 L N m) (evCallI (E147 L N m) 1 2000) 1000 147 Try.f147 [(.ptr 0 0), (.tv i64 x0), (.tv i64 x1), (.tv .bool x2)] [.ptr 0 0] [(0, (.box [(.tv (.sl (.int .u8)) c0), (.tv i64 c1)]))] (finM (.one (.st 1)) [(.sl (.int .u8)), i64] κ)
    = f147.b L N (f147 L N m) (fun a0 a1 a2 => κ (.tv (.st 1) a0) (a1, a2, ())) c0 c1 x0 x1 x2 := by kernel_rfl
theorem f147.ok (L N m : Nat) (hΦ : TellsOk Try.prog (Φ147s L N m)) : EntOk Try.prog 147 (f147.ent L N (m + 1)) := by
  intro args vw site h
  unfold f147.ent
  split
  · rename_i o d0 d u ha
    intro y hy hs
    obtain ⟨rest, cs, rfl, ho, hd0, hr, hu⟩ := boxD_some ha
    refine call_box (y := y) (dep := 1000) (v' := (.tv (.st 1) y.1)) (d1 := (y.2.1, y.2.2, ())) (E := (E147 L N m)) (ts := [(.sl (.int .u8)), i64]) (tr := [i64, i64, .bool]) (rs := (.one (.st 1))) (κ := (fun v d => (unR (.one (.st 1)) v).bind fun x => some (x, d.1, d.2.1))) (sound_of hΦ) okP (callI_sound (sound_of hΦ) okP 1 2000) (f := Try.f147) rfl hs ho hd0 hr hu ?_ (fun _ _ h => by obtain ⟨x, h1, h2⟩ := unR_bind h; obtain rfl := Option.some.inj h2; exact ⟨h1, rfl⟩) site
    exact (f147.b_eq L N m (fun v d => (unR (.one (.st 1)) v).bind fun x => some (x, d.1, d.2.1)) d0.1 d0.2.1 d.1 d.2.1 d.2.2.1).trans (Eq.trans (b := f147.b L N (f147 L N m) (fun a0 a1 a2 => some (a0, a1, a2)) d0.1 d0.2.1 d.1 d.2.1 d.2.2.1) (by kernel_rfl) hy)
  · intro y hy
    cases hy
theorem Φ147s_ok (L N : Nat) : ∀ m, TellsOk Try.prog (Φ147s L N m) := by
  intro m
  induction m with
  | zero => exact (addT_ok (Φ134_ok L N) (fun args vw site h => by unfold f147.ent; split <;> (intro y hy; cases hy)))
  | succ m ih => exact (addT_ok (Φ134_ok L N) (f147.ok L N m ih))
def Φ147 (L N : Nat) : Tells := (addT (Φ134 L N) 147 (f147.ent L N N))
theorem Φ147_ok (L N : Nat) : TellsOk Try.prog (Φ147 L N) := Φ147s_ok L N N
def f130.s0' {R : Type} (L N : Nat) (k0_e0 : Int → LI → Int → LT → Option R) (rec0 : Int → Int → LI → Int → LT → Option R) (s1 : Int) (s2 : Int) (s3 : LI) (s4 : Int) (s5 : LT) : Option R :=
  bif (decide (s2 < s1)) then
    (f91 L N s3 s4 (3 : Int)).bind fun y10 =>
    (f147 L N N y10.2.1 y10.2.2 (wi ((1 : Int) + y10.1)) s1 false).bind fun y11 =>
    bif (decide (s5.length + ([y11.1] : LT).length ≤ lim)) then
      rec0 s1 (wi (s2 + (1 : Int))) y11.2.1 y11.2.2 (s5 ++ ([y11.1] : LT))
    else none
  else k0_e0 s1 s3 s4 s5
def f130.s0 {R : Type} (L N : Nat) (k0_e0 : Int → LI → Int → LT → Option R) (rec0 : Int → Int → LI → Int → LT → Option R) (s1 : Int) (s2 : Int) (s3 : LI) (s4 : Int) (s5 : LT) : Option R :=
  f130.s0' L N k0_e0 rec0 s1 s2 s3 s4 s5
def f130.l0 {R : Type} (L N : Nat) (k0_e0 : Int → LI → Int → LT → Option R) : Nat → Int → Int → LI → Int → LT → Option R
  | 0, _, _, _, _, _ => none
  | n + 1, s1, s2, s3, s4, s5 => f130.s0 L N k0_e0 (f130.l0 L N k0_e0 n) s1 s2 s3 s4 s5
def f130.T0 (s1 : Int) (s2 : Int) (s3 : LI) (s4 : Int) (s5 : LT) : T := mkT 41 [(0, (.ptr 0 0)), (3, (.tv i64 s1)), (4, (.row 1008)), (5, (.tv i64 s2))] ++ [.ptr 0 0]
def f130.H0 (s1 : Int) (s2 : Int) (s3 : LI) (s4 : Int) (s5 : LT) : H := [(0, (.box [(.tv (.sl (.int .u8)) s3), (.tv i64 s4)])), (1008, (.row 110 (.st 1) s5))]
def f130.T0_e0 (z6 : Int) (z7 : LI) (z8 : Int) (z9 : LT) : T := mkT 41 [(0, (.ptr 0 0)), (3, (.tv i64 z6)), (4, (.row 1008))] ++ [.ptr 0 0]
def f130.H0_e0 (z6 : Int) (z7 : LI) (z8 : Int) (z9 : LT) : H := [(0, (.box [(.tv (.sl (.int .u8)) z7), (.tv i64 z8)])), (1008, (.row 110 (.st 1) z9))]
def f130.j0' {R : Type} (L N : Nat) (k : LT → LI → Int → Option R) (v13 : Int) (v14 : Bool) (v15 : LI) (v16 : Int) (v17 : LT) : Option R :=
  bif v14 then
    (f91 L N v15 v16 v13).bind fun y18 =>
    (f91 L N y18.2.1 y18.2.2 (wi (v13 + (1 : Int)))).bind fun y19 =>
    bif (decide (0 ≤ y18.1) && decide (y18.1 < (v17.length : Int))) then
      k (v17.set y18.1.toNat (Tree.mk (5 : Int) y19.1 [])) y19.2.1 y19.2.2
    else none
  else k v17 v15 v16
def f130.p0_e0' {R : Type} (L N : Nat) (k : LT → LI → Int → Option R) (z6 : Int) (z7 : LI) (z8 : Int) (z9 : LT) : Option R :=
  bif (decide (z6 > (0 : Int))) then
    (f91 L N z7 z8 (20 : Int)).bind fun y12 =>
    f130.j0' L N k z6 (y12.1 == (0 : Int)) y12.2.1 y12.2.2 z9
  else f130.j0' L N k z6 false z7 z8 z9
def f130.p0_e0 {R : Type} (L N : Nat) (k : LT → LI → Int → Option R) (z6 : Int) (z7 : LI) (z8 : Int) (z9 : LT) : Option R :=
  f130.p0_e0' L N k z6 z7 z8 z9
def f130.b' {R : Type} (L N : Nat) (k : LT → LI → Int → Option R) (w0 : Int → Int → LI → Int → LT → Option R) (c0 : LI) (c1 : Int) : Option R :=
  (f91 L N c0 c1 (4 : Int)).bind fun y0 =>
  w0 y0.1 (0 : Int) y0.2.1 y0.2.2 ([] : LT)
def f130.b {R : Type} (L N : Nat) (k : LT → LI → Int → Option R) (c0 : LI) (c1 : Int) : Option R :=
  f130.b' L N k (fun s1 s2 s3 s4 s5 => f130.l0 L N (fun z6 z7 z8 z9 => f130.p0_e0 L N k z6 z7 z8 z9) L s1 s2 s3 s4 s5) c0 c1
def f130 (L N : Nat) (c0 : LI) (c1 : Int) : Option (LT × LI × Int) := f130.b L N (fun a0 a1 a2 => some (a0, a1, a2)) c0 c1
def f130.ent (L N : Nat) (args : List AV) (vw : View) (site : Nat) : Ans := match boxD [(.sl (.int .u8)), i64] [] vw args with
  | some (o, d0, d, u) => ⟨LT × LI × Int, f130 L N d0.1 d0.2.1, fun y => ((.tv (.sl (.st 1)) y.1), u ++ [(o, some (.box [(.tv (.sl (.int .u8)) y.2.1), (.tv i64 y.2.2)]))], [])⟩
  | none => Ans.no
noncomputable def E130 (L N : Nat) : Env := { P := Try.prog, ty := tyOf, Φ := (Φ147 L N), inl := inlT, live := lives, liveX := livesX, L := L, dp := none, prom := promT, heal := healT, ren := renT }
noncomputable def f130.c0 : Code := loopAt 0 (codeOf Try.f130)
def f130.X0_e0 {R : Type} (κ : KX R) := fun z6 z7 z8 z9 => κ (.exit 0) (f130.T0_e0 z6 z7 z8 z9) (f130.H0_e0 z6 z7 z8 z9)
def f130.R0 {R : Type} (rec : KT R) := fun s1 s2 s3 s4 s5 => rec (f130.T0 s1 s2 s3 s4 s5) (f130.H0 s1 s2 s3 s4 s5)
theorem f130.s0_eq {R : Type} (L N : Nat) (κ : KX R) (rec : KT R) (s1 : Int) (s2 : Int) (s3 : LI) (s4 : Int) (s5 : LT) :
    evRd (E130 L N) (evCallI (E130 L N) 1 2000) 1000 130 41 0 f130.c0 κ rec (f130.T0 s1 s2 s3 s4 s5) (f130.H0 s1 s2 s3 s4 s5)
    = f130.s0 L N (f130.X0_e0 κ) (f130.R0 rec) s1 s2 s3 s4 s5 := by kernel_rfl
theorem f130.l0_eq {R : Type} (L N : Nat) (κ : KX R) : ∀ (n : Nat) (s1 : Int) (s2 : Int) (s3 : LI) (s4 : Int) (s5 : LT),
    evLp (E130 L N) (evCallI (E130 L N) 1 2000) 1000 130 41 0 f130.c0 κ n (f130.T0 s1 s2 s3 s4 s5) (f130.H0 s1 s2 s3 s4 s5)
    = f130.l0 L N (f130.X0_e0 κ) n s1 s2 s3 s4 s5 := by
  intro n
  induction n with
  | zero => intros; rfl
  | succ n ih =>
    intro s1 s2 s3 s4 s5
    rw [evLp_succ, f130.s0_eq]
    delta f130.R0
    simp only [ih]
    rfl
theorem f130.p0_e0_eq {R : Type} (L N : Nat) (κ : AV → Dens [(.sl (.int .u8)), i64] → Option R) (z6 : Int) (z7 : LI) (z8 : Int) (z9 : LT) :
    (contAt (E130 L N) (evCallI (E130 L N) 1 2000) 1000 130 41 0 (codeOf Try.f130) (finK (E130 L N) 1000 Try.f130 (finM (.one (.sl (.st 1))) [(.sl (.int .u8)), i64] κ))) (.exit 0) (f130.T0_e0 z6 z7 z8 z9) (f130.H0_e0 z6 z7 z8 z9)
    = f130.p0_e0 L N (fun a0 a1 a2 => κ (.tv (.sl (.st 1)) a0) (a1, a2, ())) z6 z7 z8 z9 := by kernel_rfl
theorem f130.b_eq {R : Type} (L N : Nat) (κ : AV → Dens [(.sl (.int .u8)), i64] → Option R) (c0 : LI) (c1 : Int) :
    evBody (E130 L N) (evCallI (E130 L N) 1 2000) 1000 130 Try.f130 [(.ptr 0 0)] [.ptr 0 0] [(0, (.box [(.tv (.sl (.int .u8)) c0), (.tv i64 c1)]))] (finM (.one (.sl (.st 1))) [(.sl (.int .u8)), i64] κ)
    = f130.b L N (fun a0 a1 a2 => κ (.tv (.sl (.st 1)) a0) (a1, a2, ())) c0 c1 := by
  refine Eq.trans (b := f130.b' L N (fun a0 a1 a2 => κ (.tv (.sl (.st 1)) a0) (a1, a2, ())) (fun s1 s2 s3 s4 s5 => evLp (E130 L N) (evCallI (E130 L N) 1 2000) 1000 130 41 0 f130.c0 (contAt (E130 L N) (evCallI (E130 L N) 1 2000) 1000 130 41 0 (codeOf Try.f130) (finK (E130 L N) 1000 Try.f130 (finM (.one (.sl (.st 1))) [(.sl (.int .u8)), i64] κ))) L (f130.T0 s1 s2 s3 s4 s5) (f130.H0 s1 s2 s3 s4 s5)) c0 c1) (by kernel_rfl) ?_
  unfold f130.b
  simp only [f130.l0_eq]
  delta f130.X0_e0
  simp only [f130.p0_e0_eq]
theorem f130.ok (L N : Nat) (hΦ : TellsOk Try.prog ((Φ147 L N))) : EntOk Try.prog 130 (f130.ent L N) := by
  intro args vw site h
  unfold f130.ent
  split
  · rename_i o d0 d u ha
    intro y hy hs
    obtain ⟨rest, cs, rfl, ho, hd0, hr, hu⟩ := boxD_some ha
    refine call_box (y := y) (dep := 1000) (v' := (.tv (.sl (.st 1)) y.1)) (d1 := (y.2.1, y.2.2, ())) (E := (E130 L N)) (ts := [(.sl (.int .u8)), i64]) (tr := []) (rs := (.one (.sl (.st 1)))) (κ := (fun v d => (unR (.one (.sl (.st 1))) v).bind fun x => some (x, d.1, d.2.1))) (sound_of hΦ) okP (callI_sound (sound_of hΦ) okP 1 2000) (f := Try.f130) rfl hs ho hd0 hr hu ?_ (fun _ _ h => by obtain ⟨x, h1, h2⟩ := unR_bind h; obtain rfl := Option.some.inj h2; exact ⟨h1, rfl⟩) site
    exact (f130.b_eq L N (fun v d => (unR (.one (.sl (.st 1))) v).bind fun x => some (x, d.1, d.2.1)) d0.1 d0.2.1).trans (Eq.trans (b := f130.b L N (fun a0 a1 a2 => some (a0, a1, a2)) d0.1 d0.2.1) (by kernel_rfl) hy)
  · intro y hy
    cases hy
def Φ130 (L N : Nat) : Tells := (addT (Φ147 L N) 130 (f130.ent L N))
theorem Φ130_ok (L N : Nat) : TellsOk Try.prog (Φ130 L N) := addT_ok (Φ147_ok L N) (f130.ok L N (Φ147_ok L N))
def f131.b' {R : Type} (L N : Nat) (k : Tree → LI → Int → Option R) (c0 : LI) (c1 : Int) (x0 : Int) : Option R :=
  (f91 L N c0 c1 (4 : Int)).bind fun y0 =>
  (f147 L N N y0.2.1 y0.2.2 (wi ((1 : Int) + y0.1)) x0 false).bind fun y1 =>
  (f91 L N y1.2.1 y1.2.2 (24 : Int)).bind fun y2 =>
  bif (y2.1 == (0 : Int)) then
    k (Tree.mk ((Tree.mk y1.1.op (wi (y1.1.n + (7 : Int))) y1.1.parts).op) ((Tree.mk y1.1.op (wi (y1.1.n + (7 : Int))) y1.1.parts).n) ((Tree.mk y1.1.op (wi (y1.1.n + (7 : Int))) y1.1.parts).parts)) y2.2.1 y2.2.2
  else bif (y2.1 == (1 : Int)) then
    (f91 L N y2.2.1 y2.2.2 (8 : Int)).bind fun y3 =>
    k (Tree.mk ((Tree.mk y3.1 y1.1.n y1.1.parts).op) ((Tree.mk y3.1 y1.1.n y1.1.parts).n) ((Tree.mk y3.1 y1.1.n y1.1.parts).parts)) y3.2.1 y3.2.2
  else bif (y2.1 == (2 : Int)) then
    bif (decide (([(Tree.mk (0 : Int) (0 : Int) [])] : LT).length + y1.1.parts.length ≤ lim)) then
      k (Tree.mk y1.1.op y1.1.n (([(Tree.mk (0 : Int) (0 : Int) [])] : LT) ++ y1.1.parts)) y2.2.1 y2.2.2
    else none
  else k (Tree.mk ((Tree.mk y1.1.op y1.1.n y1.1.parts).op) ((Tree.mk y1.1.op y1.1.n y1.1.parts).n) ((Tree.mk y1.1.op y1.1.n y1.1.parts).parts)) y2.2.1 y2.2.2
def f131.b {R : Type} (L N : Nat) (k : Tree → LI → Int → Option R) (c0 : LI) (c1 : Int) (x0 : Int) : Option R :=
  f131.b' L N k c0 c1 x0
def f131 (L N : Nat) (c0 : LI) (c1 : Int) (x0 : Int) : Option (Tree × LI × Int) := f131.b L N (fun a0 a1 a2 => some (a0, a1, a2)) c0 c1 x0
def f131.ent (L N : Nat) (args : List AV) (vw : View) (site : Nat) : Ans := match boxD [(.sl (.int .u8)), i64] [i64] vw args with
  | some (o, d0, d, u) => ⟨Tree × LI × Int, f131 L N d0.1 d0.2.1 d.1, fun y => ((.tv (.st 1) y.1), u ++ [(o, some (.box [(.tv (.sl (.int .u8)) y.2.1), (.tv i64 y.2.2)]))], [])⟩
  | none => Ans.no
noncomputable def E131 (L N : Nat) : Env := { P := Try.prog, ty := tyOf, Φ := (Φ130 L N), inl := inlT, live := lives, liveX := livesX, L := L, dp := none, prom := promT, heal := healT, ren := renT }
theorem f131.b_eq {R : Type} (L N : Nat) (κ : AV → Dens [(.sl (.int .u8)), i64] → Option R) (c0 : LI) (c1 : Int) (x0 : Int) :
    evBody (E131 L N) (evCallI (E131 L N) 1 2000) 1000 131 Try.f131 [(.ptr 0 0), (.tv i64 x0)] [.ptr 0 0] [(0, (.box [(.tv (.sl (.int .u8)) c0), (.tv i64 c1)]))] (finM (.one (.st 1)) [(.sl (.int .u8)), i64] κ)
    = f131.b L N (fun a0 a1 a2 => κ (.tv (.st 1) a0) (a1, a2, ())) c0 c1 x0 := by kernel_rfl
theorem f131.ok (L N : Nat) (hΦ : TellsOk Try.prog ((Φ130 L N))) : EntOk Try.prog 131 (f131.ent L N) := by
  intro args vw site h
  unfold f131.ent
  split
  · rename_i o d0 d u ha
    intro y hy hs
    obtain ⟨rest, cs, rfl, ho, hd0, hr, hu⟩ := boxD_some ha
    refine call_box (y := y) (dep := 1000) (v' := (.tv (.st 1) y.1)) (d1 := (y.2.1, y.2.2, ())) (E := (E131 L N)) (ts := [(.sl (.int .u8)), i64]) (tr := [i64]) (rs := (.one (.st 1))) (κ := (fun v d => (unR (.one (.st 1)) v).bind fun x => some (x, d.1, d.2.1))) (sound_of hΦ) okP (callI_sound (sound_of hΦ) okP 1 2000) (f := Try.f131) rfl hs ho hd0 hr hu ?_ (fun _ _ h => by obtain ⟨x, h1, h2⟩ := unR_bind h; obtain rfl := Option.some.inj h2; exact ⟨h1, rfl⟩) site
    exact (f131.b_eq L N (fun v d => (unR (.one (.st 1)) v).bind fun x => some (x, d.1, d.2.1)) d0.1 d0.2.1 d.1).trans (Eq.trans (b := f131.b L N (fun a0 a1 a2 => some (a0, a1, a2)) d0.1 d0.2.1 d.1) (by kernel_rfl) hy)
  · intro y hy
    cases hy
def Φ131 (L N : Nat) : Tells := (addT (Φ130 L N) 131 (f131.ent L N))
theorem Φ131_ok (L N : Nat) : TellsOk Try.prog (Φ131 L N) := addT_ok (Φ130_ok L N) (f131.ok L N (Φ130_ok L N))
def f103.j0' {R : Type} (L N : Nat) (k : Tree → LT → LI → Int → Option R) (v3 : LT) (v4 : Bool) (v5 : LI) (v6 : Int) (v7 : Int) (v8 : Int) (v9 : Int) (v10 : Int) (v11 : LT) : Option R :=
  bif v4 then
    (f91 L N v5 v6 (v3.length : Int)).bind fun y12 =>
    k (Tree.mk (5 : Int) y12.1 []) v3 y12.2.1 y12.2.2
  else k (Tree.mk ((Tree.mk v9 v10 v11).op) ((Tree.mk v9 v10 v11).n) ((Tree.mk v9 v10 v11).parts)) v3 v5 v6
def f103.b' {R : Type} (L N : Nat) (k : Tree → LT → LI → Int → Option R) (c0 : LI) (c1 : Int) : Option R :=
  (f130 L N c0 c1).bind fun y0 =>
  (f131 L N y0.2.1 y0.2.2 (y0.1.length : Int)).bind fun y1 =>
  bif (decide ((y0.1.length : Int) > (0 : Int))) then
    (f91 L N y1.2.1 y1.2.2 (3 : Int)).bind fun y2 =>
    f103.j0' L N k y0.1 (y2.1 == (0 : Int)) y2.2.1 y2.2.2 (0 : Int) (0 : Int) y1.1.op y1.1.n y1.1.parts
  else f103.j0' L N k y0.1 false y1.2.1 y1.2.2 (0 : Int) (0 : Int) y1.1.op y1.1.n y1.1.parts
def f103.b {R : Type} (L N : Nat) (k : Tree → LT → LI → Int → Option R) (c0 : LI) (c1 : Int) : Option R :=
  f103.b' L N k c0 c1
def f103 (L N : Nat) (c0 : LI) (c1 : Int) : Option (Tree × LT × LI × Int) := f103.b L N (fun a0 a1 a2 a3 => some (a0, a1, a2, a3)) c0 c1
def f103.ent (L N : Nat) (args : List AV) (vw : View) (site : Nat) : Ans := match boxD [(.sl (.int .u8)), i64] [] vw args with
  | some (o, d0, d, u) => ⟨Tree × LT × LI × Int, f103 L N d0.1 d0.2.1, fun y => ((.tup [(.tv (.st 1) y.1), (.tv (.sl (.st 1)) y.2.1)]), u ++ [(o, some (.box [(.tv (.sl (.int .u8)) y.2.2.1), (.tv i64 y.2.2.2)]))], [])⟩
  | none => Ans.no
noncomputable def E103 (L N : Nat) : Env := { P := Try.prog, ty := tyOf, Φ := (Φ131 L N), inl := inlT, live := lives, liveX := livesX, L := L, dp := none, prom := promT, heal := healT, ren := renT }
theorem f103.b_eq {R : Type} (L N : Nat) (κ : AV → Dens [(.sl (.int .u8)), i64] → Option R) (c0 : LI) (c1 : Int) :
    evBody (E103 L N) (evCallI (E103 L N) 1 2000) 1000 103 Try.f103 [(.ptr 0 0)] [.ptr 0 0] [(0, (.box [(.tv (.sl (.int .u8)) c0), (.tv i64 c1)]))] (finM (.many [(.st 1), (.sl (.st 1))]) [(.sl (.int .u8)), i64] κ)
    = f103.b L N (fun a0 a1 a2 a3 => κ (.tup [(.tv (.st 1) a0), (.tv (.sl (.st 1)) a1)]) (a2, a3, ())) c0 c1 := by kernel_rfl
theorem f103.ok (L N : Nat) (hΦ : TellsOk Try.prog ((Φ131 L N))) : EntOk Try.prog 103 (f103.ent L N) := by
  intro args vw site h
  unfold f103.ent
  split
  · rename_i o d0 d u ha
    intro y hy hs
    obtain ⟨rest, cs, rfl, ho, hd0, hr, hu⟩ := boxD_some ha
    refine call_box (y := y) (dep := 1000) (v' := (.tup [(.tv (.st 1) y.1), (.tv (.sl (.st 1)) y.2.1)])) (d1 := (y.2.2.1, y.2.2.2, ())) (E := (E103 L N)) (ts := [(.sl (.int .u8)), i64]) (tr := []) (rs := (.many [(.st 1), (.sl (.st 1))])) (κ := (fun v d => (unR (.many [(.st 1), (.sl (.st 1))]) v).bind fun x => some (x.1, x.2, d.1, d.2.1))) (sound_of hΦ) okP (callI_sound (sound_of hΦ) okP 1 2000) (f := Try.f103) rfl hs ho hd0 hr hu ?_ (fun _ _ h => by obtain ⟨x, h1, h2⟩ := unR_bind h; obtain rfl := Option.some.inj h2; exact ⟨h1, rfl⟩) site
    exact (f103.b_eq L N (fun v d => (unR (.many [(.st 1), (.sl (.st 1))]) v).bind fun x => some (x.1, x.2, d.1, d.2.1)) d0.1 d0.2.1).trans (Eq.trans (b := f103.b L N (fun a0 a1 a2 a3 => some (a0, a1, a2, a3)) d0.1 d0.2.1) (by kernel_rfl) hy)
  · intro y hy
    cases hy
def Φ103 (L N : Nat) : Tells := (addT (Φ131 L N) 103 (f103.ent L N))
theorem Φ103_ok (L N : Nat) : TellsOk Try.prog (Φ103 L N) := addT_ok (Φ131_ok L N) (f103.ok L N (Φ131_ok L N))
def f158.j0' {R : Type} (L N : Nat) (self158 : Tree → Bool → Option (Int)) (k0_e0 : Int → Option R) (rec0 : Bool → Int → Int → Int → Int → LT → Option R) (v14 : Bool) (v15 : Int) (v16 : Int) (v17 : Int) (v18 : Int) (v19 : LT) : Option R :=
  bif (decide (0 ≤ v16) && decide (v16 < (v19.length : Int))) then
    (self158 (listAt v19 (Ty.dflt (.st 1)) v16.toNat) v14).bind fun y20 =>
    rec0 v14 (bif decide (y20 > v15) then y20 else v15) (wi (v16 + (1 : Int))) v17 v18 v19
  else none
def f158.s0' {R : Type} (L N : Nat) (self158 : Tree → Bool → Option (Int)) (k0_e0 : Int → Option R) (rec0 : Bool → Int → Int → Int → Int → LT → Option R) (s0 : Bool) (s1 : Int) (s2 : Int) (s3 : Int) (s4 : Int) (s5 : LT) : Option R :=
  bif (decide (s2 < (s5.length : Int))) then
    bif s0 then
      bif (!(s3 == (1 : Int))) then
        f158.j0' L N self158 k0_e0 rec0 s0 s1 s2 s3 s4 s5
      else k0_e0 s1
    else bif (!false) then
      f158.j0' L N self158 k0_e0 rec0 s0 s1 s2 s3 s4 s5
    else k0_e0 s1
  else k0_e0 s1
def f158.s0 {R : Type} (L N : Nat) (self158 : Tree → Bool → Option (Int)) (k0_e0 : Int → Option R) (rec0 : Bool → Int → Int → Int → Int → LT → Option R) (s0 : Bool) (s1 : Int) (s2 : Int) (s3 : Int) (s4 : Int) (s5 : LT) : Option R :=
  f158.s0' L N self158 k0_e0 rec0 s0 s1 s2 s3 s4 s5
def f158.l0 {R : Type} (L N : Nat) (self158 : Tree → Bool → Option (Int)) (k0_e0 : Int → Option R) : Nat → Bool → Int → Int → Int → Int → LT → Option R
  | 0, _, _, _, _, _, _ => none
  | n + 1, s0, s1, s2, s3, s4, s5 => f158.s0 L N self158 k0_e0 (f158.l0 L N self158 k0_e0 n) s0 s1 s2 s3 s4 s5
def f158.T0 (s0 : Bool) (s1 : Int) (s2 : Int) (s3 : Int) (s4 : Int) (s5 : LT) : T := mkT 38 [(1, (.tv .bool s0)), (2, (.ptr 1002 0)), (5, (.tv i64 s1)), (6, (.tv i64 s2))]
def f158.H0 (s0 : Bool) (s1 : Int) (s2 : Int) (s3 : Int) (s4 : Int) (s5 : LT) : H := [(1002, (.box [(.tv i64 s3), (.tv i64 s4), (.tv (.sl (.st 1)) s5)]))]
def f158.T0_e0 (z13 : Int) : T := mkT 38 [(5, (.tv i64 z13))]
def f158.H0_e0 (z13 : Int) : H := []
def f158.p0_e0' {R : Type} (L N : Nat) (self158 : Tree → Bool → Option (Int)) (k : Int → Option R) (z13 : Int) : Option R :=
  k z13
def f158.p0_e0 {R : Type} (L N : Nat) (self158 : Tree → Bool → Option (Int)) (k : Int → Option R) (z13 : Int) : Option R :=
  f158.p0_e0' L N self158 k z13
def f158.b' {R : Type} (L N : Nat) (self158 : Tree → Bool → Option (Int)) (k : Int → Option R) (w0 : Bool → Int → Int → Int → Int → LT → Option R) (x0 : Tree) (x1 : Bool) : Option R :=
  bif (x0.op == (5 : Int)) then
    k x0.n
  else w0 x1 (-1 : Int) (0 : Int) x0.op x0.n x0.parts
def f158.b {R : Type} (L N : Nat) (self158 : Tree → Bool → Option (Int)) (k : Int → Option R) (x0 : Tree) (x1 : Bool) : Option R :=
  f158.b' L N self158 k (fun s0 s1 s2 s3 s4 s5 => f158.l0 L N self158 (fun z13 => f158.p0_e0 L N self158 k z13) L s0 s1 s2 s3 s4 s5) x0 x1
def f158 (L N : Nat) : Nat → Tree → Bool → Option (Int)
  | 0, _, _ => none
  | n + 1, x0, x1 => f158.b L N (f158 L N n) some x0 x1
def f158.ent (L N m : Nat) := entRo [(.st 1), .bool] (.one i64) fun d => f158 L N m d.1 d.2.1
def Φ158s (L N m : Nat) : Tells := (addT (Φ103 L N) 158 (f158.ent L N m))
noncomputable def E158 (L N m : Nat) : Env := { P := Try.prog, ty := tyOf, Φ := Φ158s L N m, inl := inlT, live := lives, liveX := livesX, L := L, dp := none, prom := promT, heal := healT, ren := renT }
noncomputable def f158.c0 : Code := loopAt 0 (codeOf Try.f158)
def f158.X0_e0 {R : Type} (κ : KX R) := fun z13 => κ (.exit 0) (f158.T0_e0 z13) (f158.H0_e0 z13)
def f158.R0 {R : Type} (rec : KT R) := fun s0 s1 s2 s3 s4 s5 => rec (f158.T0 s0 s1 s2 s3 s4 s5) (f158.H0 s0 s1 s2 s3 s4 s5)
theorem f158.s0_eq {R : Type} (L N m : Nat) (κ : KX R) (rec : KT R) (s0 : Bool) (s1 : Int) (s2 : Int) (s3 : Int) (s4 : Int) (s5 : LT) :
    evRd (E158 L N m) (evCallI (E158 L N m) 1 2000) 1000 158 38 0 f158.c0 κ rec (f158.T0 s0 s1 s2 s3 s4 s5) (f158.H0 s0 s1 s2 s3 s4 s5)
    = f158.s0 L N (f158 L N m) (f158.X0_e0 κ) (f158.R0 rec) s0 s1 s2 s3 s4 s5 := by kernel_rfl
theorem f158.l0_eq {R : Type} (L N m : Nat) (κ : KX R) : ∀ (n : Nat) (s0 : Bool) (s1 : Int) (s2 : Int) (s3 : Int) (s4 : Int) (s5 : LT),
    evLp (E158 L N m) (evCallI (E158 L N m) 1 2000) 1000 158 38 0 f158.c0 κ n (f158.T0 s0 s1 s2 s3 s4 s5) (f158.H0 s0 s1 s2 s3 s4 s5)
    = f158.l0 L N (f158 L N m) (f158.X0_e0 κ) n s0 s1 s2 s3 s4 s5 := by
  intro n
  induction n with
  | zero => intros; rfl
  | succ n ih =>
    intro s0 s1 s2 s3 s4 s5
    rw [evLp_succ, f158.s0_eq]
    delta f158.R0
    simp only [ih]
    rfl
theorem f158.p0_e0_eq {R : Type} (L N m : Nat) (κ : AV → Option R) (z13 : Int) :
    (contAt (E158 L N m) (evCallI (E158 L N m) 1 2000) 1000 158 38 0 (codeOf Try.f158) (finK (E158 L N m) 1000 Try.f158 (finC (.one i64) κ))) (.exit 0) (f158.T0_e0 z13) (f158.H0_e0 z13)
    = f158.p0_e0 L N (f158 L N m) (fun a0 => κ (.tv i64 a0)) z13 := by kernel_rfl
theorem f158.b_eq {R : Type} (L N m : Nat) (κ : AV → Option R) (x0 : Tree) (x1 : Bool) :
    evBody (E158 L N m) (evCallI (E158 L N m) 1 2000) 1000 158 Try.f158 [(.tv (.st 1) x0), (.tv .bool x1)] [] [] (finC (.one i64) κ)
    = f158.b L N (f158 L N m) (fun a0 => κ (.tv i64 a0)) x0 x1 := by
  refine Eq.trans (b := f158.b' L N (f158 L N m) (fun a0 => κ (.tv i64 a0)) (fun s0 s1 s2 s3 s4 s5 => evLp (E158 L N m) (evCallI (E158 L N m) 1 2000) 1000 158 38 0 f158.c0 (contAt (E158 L N m) (evCallI (E158 L N m) 1 2000) 1000 158 38 0 (codeOf Try.f158) (finK (E158 L N m) 1000 Try.f158 (finC (.one i64) κ))) L (f158.T0 s0 s1 s2 s3 s4 s5) (f158.H0 s0 s1 s2 s3 s4 s5)) x0 x1) (by kernel_rfl) ?_
  unfold f158.b
  simp only [f158.l0_eq]
  delta f158.X0_e0
  simp only [f158.p0_e0_eq]
theorem f158.ok (L N m : Nat) (hΦ : TellsOk Try.prog (Φ158s L N m)) : EntOk Try.prog 158 (f158.ent L N (m + 1)) := entRo_ok (E := (E158 L N m)) (dep := 1000) (f := Try.f158) (sound_of hΦ) okP (callI_sound (sound_of hΦ) okP 1 2000) rfl rfl fun d _ hy => (f158.b_eq L N m (unR (.one i64)) d.1 d.2.1).trans (Eq.trans (b := f158.b L N (f158 L N m) some d.1 d.2.1) (by kernel_rfl) hy)
theorem Φ158s_ok (L N : Nat) : ∀ m, TellsOk Try.prog (Φ158s L N m) := by
  intro m
  induction m with
  | zero => exact (addT_ok (Φ103_ok L N) (entRo_no fun _ => rfl))
  | succ m ih => exact (addT_ok (Φ103_ok L N) (f158.ok L N m ih))
def Φ158 (L N : Nat) : Tells := (addT (Φ103 L N) 158 (f158.ent L N N))
theorem Φ158_ok (L N : Nat) : TellsOk Try.prog (Φ158 L N) := Φ158s_ok L N N
def f152.s0' {R : Type} (L N : Nat) (self152 : Tree → Option (Int)) (k0_e1 : Int → Option R) (k0_r : Int → Int → Option R) (rec0 : Int → Int → Int → Int → Int → LT → Option R) (s24 : Int) (s25 : Int) (s26 : Int) (s27 : Int) (s28 : Int) (s29 : LT) : Option R :=
  bif (decide (s26 < s24)) then
    bif (decide (0 ≤ s26) && decide (s26 < (s29.length : Int))) then
      (self152 (listAt s29 (Ty.dflt (.st 1)) s26.toNat)).bind fun y31 =>
      bif (y31 == (0 : Int)) then
        k0_r (0 : Int) s25
      else rec0 s24 (bif decide ((wi (s25 + y31)) < (1000 : Int)) then (wi (s25 + y31)) else (1000 : Int)) (wi (s26 + (1 : Int))) s27 s28 s29
    else none
  else k0_e1 s25
def f152.s0 {R : Type} (L N : Nat) (self152 : Tree → Option (Int)) (k0_e1 : Int → Option R) (k0_r : Int → Int → Option R) (rec0 : Int → Int → Int → Int → Int → LT → Option R) (s24 : Int) (s25 : Int) (s26 : Int) (s27 : Int) (s28 : Int) (s29 : LT) : Option R :=
  f152.s0' L N self152 k0_e1 k0_r rec0 s24 s25 s26 s27 s28 s29
def f152.l0 {R : Type} (L N : Nat) (self152 : Tree → Option (Int)) (k0_e1 : Int → Option R) (k0_r : Int → Int → Option R) : Nat → Int → Int → Int → Int → Int → LT → Option R
  | 0, _, _, _, _, _, _ => none
  | n + 1, s24, s25, s26, s27, s28, s29 => f152.s0 L N self152 k0_e1 k0_r (f152.l0 L N self152 k0_e1 k0_r n) s24 s25 s26 s27 s28 s29
def f152.T0 (s24 : Int) (s25 : Int) (s26 : Int) (s27 : Int) (s28 : Int) (s29 : LT) : T := mkT 60 [(1, (.ptr 1001 0)), (3, (.tv i64 s24)), (5, (.tv i64 s25)), (6, (.tv i64 s26))]
def f152.H0 (s24 : Int) (s25 : Int) (s26 : Int) (s27 : Int) (s28 : Int) (s29 : LT) : H := [(1001, (.box [(.tv i64 s27), (.tv i64 s28), (.tv (.sl (.st 1)) s29)]))]
def f152.T0_e1 (z30 : Int) : T := mkT 60 [(5, (.tv i64 z30))]
def f152.H0_e1 (z30 : Int) : H := []
def f152.T0_r (z32 : Int) (z33 : Int) : T := mkT 60 [(2, (.tv i64 z32)), (5, (.tv i64 z33))]
def f152.H0_r (z32 : Int) (z33 : Int) : H := []
def f152.p0_e1' {R : Type} (L N : Nat) (self152 : Tree → Option (Int)) (k : Int → Option R) (z30 : Int) : Option R :=
  k z30
def f152.p0_e1 {R : Type} (L N : Nat) (self152 : Tree → Option (Int)) (k : Int → Option R) (z30 : Int) : Option R :=
  f152.p0_e1' L N self152 k z30
def f152.p0_r' {R : Type} (L N : Nat) (self152 : Tree → Option (Int)) (k : Int → Option R) (z32 : Int) (z33 : Int) : Option R :=
  k z32
def f152.p0_r {R : Type} (L N : Nat) (self152 : Tree → Option (Int)) (k : Int → Option R) (z32 : Int) (z33 : Int) : Option R :=
  f152.p0_r' L N self152 k z32 z33
def f152.j1' {R : Type} (L N : Nat) (self152 : Tree → Option (Int)) (k : Int → Option R) (w0 : Int → Int → Int → Int → Int → LT → Option R) (v20 : Int) (v21 : Int) (v22 : Int) (v23 : LT) : Option R :=
  w0 v20 (1 : Int) (0 : Int) v21 v22 v23
def f152.j2' {R : Type} (L N : Nat) (self152 : Tree → Option (Int)) (k : Int → Option R) (w0 : Int → Int → Int → Int → Int → LT → Option R) (v10 : Int) (v11 : Bool) (v12 : Int) (v13 : Int) (v14 : LT) : Option R :=
  bif (!v11) then
    k (0 : Int)
  else bif ((v14.length : Int) != v10) then
    k (0 : Int)
  else f152.j1' L N self152 k w0 v10 v12 v13 v14
def f152.j0' {R : Type} (L N : Nat) (self152 : Tree → Option (Int)) (k : Int → Option R) (w0 : Int → Int → Int → Int → Int → LT → Option R) (v1 : Int) (v2 : Bool) (v3 : Int) (v4 : Bool) (v5 : Int) (v6 : Int) (v7 : LT) : Option R :=
  bif v4 then
    f152.j2' L N self152 k w0 (2 : Int) v2 v5 v6 v7
  else bif (v3 == (4 : Int)) then
    (f96 L N v6 (0 : Int) (3 : Int)).bind fun y8 =>
    f152.j2' L N self152 k w0 (1 : Int) y8 v5 v6 v7
  else bif (v3 == (5 : Int)) then
    (f96 L N v6 (0 : Int) (2 : Int)).bind fun y9 =>
    f152.j2' L N self152 k w0 v1 y9 v5 v6 v7
  else f152.j2' L N self152 k w0 v1 false v5 v6 v7
def f152.b' {R : Type} (L N : Nat) (self152 : Tree → Option (Int)) (k : Int → Option R) (w0 : Int → Int → Int → Int → Int → LT → Option R) (x0 : Tree) : Option R :=
  bif (x0.op == (0 : Int)) then
    f152.j2' L N self152 k w0 (0 : Int) (x0.n == (0 : Int)) x0.op x0.n x0.parts
  else bif (x0.op == (1 : Int)) then
    (f97 L N x0.n).bind fun y0 =>
    f152.j2' L N self152 k w0 (1 : Int) y0 x0.op x0.n x0.parts
  else bif (x0.op == (2 : Int)) then
    f152.j0' L N self152 k w0 (0 : Int) (x0.n == (0 : Int)) x0.op (x0.op == (2 : Int)) x0.op x0.n x0.parts
  else f152.j0' L N self152 k w0 (0 : Int) (x0.n == (0 : Int)) x0.op (x0.op == (3 : Int)) x0.op x0.n x0.parts
def f152.b {R : Type} (L N : Nat) (self152 : Tree → Option (Int)) (k : Int → Option R) (x0 : Tree) : Option R :=
  f152.b' L N self152 k (fun s24 s25 s26 s27 s28 s29 => f152.l0 L N self152 (fun z30 => f152.p0_e1 L N self152 k z30) (fun z32 z33 => f152.p0_r L N self152 k z32 z33) L s24 s25 s26 s27 s28 s29) x0
def f152 (L N : Nat) : Nat → Tree → Option (Int)
  | 0, _ => none
  | n + 1, x0 => f152.b L N (f152 L N n) some x0
def f152.ent (L N m : Nat) := entRo [(.st 1)] (.one i64) fun d => f152 L N m d.1
def Φ152s (L N m : Nat) : Tells := (addT (Φ158 L N) 152 (f152.ent L N m))
noncomputable def E152 (L N m : Nat) : Env := { P := Try.prog, ty := tyOf, Φ := Φ152s L N m, inl := inlT, live := lives, liveX := livesX, L := L, dp := none, prom := promT, heal := healT, ren := renT }
noncomputable def f152.c0 : Code := loopAt 1 (codeOf Try.f152)
def f152.X0_e1 {R : Type} (κ : KX R) := fun z30 => κ (.exit 1) (f152.T0_e1 z30) (f152.H0_e1 z30)
def f152.X0_r {R : Type} (κ : KX R) := fun z32 z33 => κ .ret (f152.T0_r z32 z33) (f152.H0_r z32 z33)
def f152.R0 {R : Type} (rec : KT R) := fun s24 s25 s26 s27 s28 s29 => rec (f152.T0 s24 s25 s26 s27 s28 s29) (f152.H0 s24 s25 s26 s27 s28 s29)
theorem f152.s0_eq {R : Type} (L N m : Nat) (κ : KX R) (rec : KT R) (s24 : Int) (s25 : Int) (s26 : Int) (s27 : Int) (s28 : Int) (s29 : LT) :
    evRd (E152 L N m) (evCallI (E152 L N m) 1 2000) 1000 152 60 1 f152.c0 κ rec (f152.T0 s24 s25 s26 s27 s28 s29) (f152.H0 s24 s25 s26 s27 s28 s29)
    = f152.s0 L N (f152 L N m) (f152.X0_e1 κ) (f152.X0_r κ) (f152.R0 rec) s24 s25 s26 s27 s28 s29 := by kernel_rfl
theorem f152.l0_eq {R : Type} (L N m : Nat) (κ : KX R) : ∀ (n : Nat) (s24 : Int) (s25 : Int) (s26 : Int) (s27 : Int) (s28 : Int) (s29 : LT),
    evLp (E152 L N m) (evCallI (E152 L N m) 1 2000) 1000 152 60 1 f152.c0 κ n (f152.T0 s24 s25 s26 s27 s28 s29) (f152.H0 s24 s25 s26 s27 s28 s29)
    = f152.l0 L N (f152 L N m) (f152.X0_e1 κ) (f152.X0_r κ) n s24 s25 s26 s27 s28 s29 := by
  intro n
  induction n with
  | zero => intros; rfl
  | succ n ih =>
    intro s24 s25 s26 s27 s28 s29
    rw [evLp_succ, f152.s0_eq]
    delta f152.R0
    simp only [ih]
    rfl
theorem f152.p0_e1_eq {R : Type} (L N m : Nat) (κ : AV → Option R) (z30 : Int) :
    (contAt (E152 L N m) (evCallI (E152 L N m) 1 2000) 1000 152 60 1 (codeOf Try.f152) (finK (E152 L N m) 1000 Try.f152 (finC (.one i64) κ))) (.exit 1) (f152.T0_e1 z30) (f152.H0_e1 z30)
    = f152.p0_e1 L N (f152 L N m) (fun a0 => κ (.tv i64 a0)) z30 := by kernel_rfl
theorem f152.p0_r_eq {R : Type} (L N m : Nat) (κ : AV → Option R) (z32 : Int) (z33 : Int) :
    (contAt (E152 L N m) (evCallI (E152 L N m) 1 2000) 1000 152 60 1 (codeOf Try.f152) (finK (E152 L N m) 1000 Try.f152 (finC (.one i64) κ))) .ret (f152.T0_r z32 z33) (f152.H0_r z32 z33)
    = f152.p0_r L N (f152 L N m) (fun a0 => κ (.tv i64 a0)) z32 z33 := by kernel_rfl
theorem f152.b_eq {R : Type} (L N m : Nat) (κ : AV → Option R) (x0 : Tree) :
    evBody (E152 L N m) (evCallI (E152 L N m) 1 2000) 1000 152 Try.f152 [(.tv (.st 1) x0)] [] [] (finC (.one i64) κ)
    = f152.b L N (f152 L N m) (fun a0 => κ (.tv i64 a0)) x0 := by
  refine Eq.trans (b := f152.b' L N (f152 L N m) (fun a0 => κ (.tv i64 a0)) (fun s24 s25 s26 s27 s28 s29 => evLp (E152 L N m) (evCallI (E152 L N m) 1 2000) 1000 152 60 1 f152.c0 (contAt (E152 L N m) (evCallI (E152 L N m) 1 2000) 1000 152 60 1 (codeOf Try.f152) (finK (E152 L N m) 1000 Try.f152 (finC (.one i64) κ))) L (f152.T0 s24 s25 s26 s27 s28 s29) (f152.H0 s24 s25 s26 s27 s28 s29)) x0) (by kernel_rfl) ?_
  unfold f152.b
  simp only [f152.l0_eq]
  delta f152.X0_e1 f152.X0_r
  simp only [f152.p0_e1_eq, f152.p0_r_eq]
theorem f152.ok (L N m : Nat) (hΦ : TellsOk Try.prog (Φ152s L N m)) : EntOk Try.prog 152 (f152.ent L N (m + 1)) := entRo_ok (E := (E152 L N m)) (dep := 1000) (f := Try.f152) (sound_of hΦ) okP (callI_sound (sound_of hΦ) okP 1 2000) rfl rfl fun d _ hy => (f152.b_eq L N m (unR (.one i64)) d.1).trans (Eq.trans (b := f152.b L N (f152 L N m) some d.1) (by kernel_rfl) hy)
theorem Φ152s_ok (L N : Nat) : ∀ m, TellsOk Try.prog (Φ152s L N m) := by
  intro m
  induction m with
  | zero => exact (addT_ok (Φ158_ok L N) (entRo_no fun _ => rfl))
  | succ m ih => exact (addT_ok (Φ158_ok L N) (f152.ok L N m ih))
def Φ152 (L N : Nat) : Tells := (addT (Φ158 L N) 152 (f152.ent L N N))
theorem Φ152_ok (L N : Nat) : TellsOk Try.prog (Φ152 L N) := Φ152s_ok L N N
def f159.b' {R : Type} (L N : Nat) (k : Bool → Option R) (x0 : Tree) : Option R :=
  (f152 L N N (Tree.mk x0.op x0.n x0.parts)).bind fun y0 =>
  (f96 L N y0 (1 : Int) (24 : Int)).bind fun y1 =>
  k y1
def f159.b {R : Type} (L N : Nat) (k : Bool → Option R) (x0 : Tree) : Option R :=
  f159.b' L N k x0
def f159 (L N : Nat) (x0 : Tree) : Option (Bool) := f159.b L N some x0
def f159.ent (L N : Nat) := entRo [(.st 1)] (.one .bool) fun d => f159 L N d.1
noncomputable def E159 (L N : Nat) : Env := { P := Try.prog, ty := tyOf, Φ := (Φ152 L N), inl := inlT, live := lives, liveX := livesX, L := L, dp := none, prom := promT, heal := healT, ren := renT }
theorem f159.b_eq {R : Type} (L N : Nat) (κ : AV → Option R) (x0 : Tree) :
    evBody (E159 L N) (evCallI (E159 L N) 1 2000) 1000 159 Try.f159 [(.tv (.st 1) x0)] [] [] (finC (.one .bool) κ)
    = f159.b L N (fun a0 => κ (.tv .bool a0)) x0 := by kernel_rfl
theorem f159.ok (L N : Nat) (hΦ : TellsOk Try.prog ((Φ152 L N))) : EntOk Try.prog 159 (f159.ent L N) := entRo_ok (E := (E159 L N)) (dep := 1000) (f := Try.f159) (sound_of hΦ) okP (callI_sound (sound_of hΦ) okP 1 2000) rfl rfl fun d _ hy => (f159.b_eq L N (unR (.one .bool)) d.1).trans (Eq.trans (b := f159.b L N some d.1) (by kernel_rfl) hy)
def Φ159 (L N : Nat) : Tells := (addT (Φ152 L N) 159 (f159.ent L N))
theorem Φ159_ok (L N : Nat) : TellsOk Try.prog (Φ159 L N) := addT_ok (Φ152_ok L N) (f159.ok L N (Φ152_ok L N))
def f149.b' {R : Type} (L N : Nat) (k : Bool → Option R) (x0 : Tree) (x1 : Int) : Option R :=
  (f159 L N (Tree.mk x0.op x0.n x0.parts)).bind fun y0 =>
  bif y0 then
    (f96 L N x1 (0 : Int) (3 : Int)).bind fun y1 =>
    bif y1 then
      (f158 L N N (Tree.mk x0.op x0.n x0.parts) false).bind fun y2 =>
      k (decide (y2 < x1))
    else k false
  else k false
def f149.b {R : Type} (L N : Nat) (k : Bool → Option R) (x0 : Tree) (x1 : Int) : Option R :=
  f149.b' L N k x0 x1
def f149 (L N : Nat) (x0 : Tree) (x1 : Int) : Option (Bool) := f149.b L N some x0 x1
def f149.ent (L N : Nat) := entRo [(.st 1), i64] (.one .bool) fun d => f149 L N d.1 d.2.1
noncomputable def E149 (L N : Nat) : Env := { P := Try.prog, ty := tyOf, Φ := (Φ159 L N), inl := inlT, live := lives, liveX := livesX, L := L, dp := none, prom := promT, heal := healT, ren := renT }
theorem f149.b_eq {R : Type} (L N : Nat) (κ : AV → Option R) (x0 : Tree) (x1 : Int) :
    evBody (E149 L N) (evCallI (E149 L N) 1 2000) 1000 149 Try.f149 [(.tv (.st 1) x0), (.tv i64 x1)] [] [] (finC (.one .bool) κ)
    = f149.b L N (fun a0 => κ (.tv .bool a0)) x0 x1 := by kernel_rfl
theorem f149.ok (L N : Nat) (hΦ : TellsOk Try.prog ((Φ159 L N))) : EntOk Try.prog 149 (f149.ent L N) := entRo_ok (E := (E149 L N)) (dep := 1000) (f := Try.f149) (sound_of hΦ) okP (callI_sound (sound_of hΦ) okP 1 2000) rfl rfl fun d _ hy => (f149.b_eq L N (unR (.one .bool)) d.1 d.2.1).trans (Eq.trans (b := f149.b L N some d.1 d.2.1) (by kernel_rfl) hy)
def Φ149 (L N : Nat) : Tells := (addT (Φ159 L N) 149 (f149.ent L N))
theorem Φ149_ok (L N : Nat) : TellsOk Try.prog (Φ149 L N) := addT_ok (Φ159_ok L N) (f149.ok L N (Φ159_ok L N))
def f148.s0' {R : Type} (L N : Nat) (k0_e0 : LT → Option R) (k0_r : LT → Bool → Option R) (rec0 : LT → Int → Option R) (s0 : LT) (s1 : Int) : Option R :=
  bif (decide (s1 < (s0.length : Int))) then
    bif (decide (0 ≤ s1) && decide (s1 < (s0.length : Int))) then
      (f149 L N (listAt s0 (Ty.dflt (.st 1)) s1.toNat) (s0.length : Int)).bind fun y3 =>
      bif (!y3) then
        k0_r s0 false
      else bif (decide (0 ≤ s1) && decide (s1 < (s0.length : Int))) then
        (f158 L N N (listAt s0 (Ty.dflt (.st 1)) s1.toNat) true).bind fun y4 =>
        bif (decide (y4 ≥ (0 : Int))) then
          k0_r s0 false
        else rec0 s0 (wi (s1 + (1 : Int)))
      else none
    else none
  else k0_e0 s0
def f148.s0 {R : Type} (L N : Nat) (k0_e0 : LT → Option R) (k0_r : LT → Bool → Option R) (rec0 : LT → Int → Option R) (s0 : LT) (s1 : Int) : Option R :=
  f148.s0' L N k0_e0 k0_r rec0 s0 s1
def f148.l0 {R : Type} (L N : Nat) (k0_e0 : LT → Option R) (k0_r : LT → Bool → Option R) : Nat → LT → Int → Option R
  | 0, _, _ => none
  | n + 1, s0, s1 => f148.s0 L N k0_e0 k0_r (f148.l0 L N k0_e0 k0_r n) s0 s1
def f148.T0 (s0 : LT) (s1 : Int) : T := mkT 29 [(0, (.tv (.sl (.st 1)) s0)), (3, (.tv i64 s1))]
def f148.H0 (s0 : LT) (s1 : Int) : H := []
def f148.T0_e0 (z2 : LT) : T := mkT 29 [(0, (.tv (.sl (.st 1)) z2))]
def f148.H0_e0 (z2 : LT) : H := []
def f148.T0_r (z8 : LT) (z9 : Bool) : T := mkT 29 [(0, (.tv (.sl (.st 1)) z8)), (2, (.tv .bool z9))]
def f148.H0_r (z8 : LT) (z9 : Bool) : H := []
def f148.p0_e0' {R : Type} (L N : Nat) (k : Bool → Option R) (z2 : LT) : Option R :=
  k (decide ((z2.length : Int) ≤ (3 : Int)))
def f148.p0_e0 {R : Type} (L N : Nat) (k : Bool → Option R) (z2 : LT) : Option R :=
  f148.p0_e0' L N k z2
def f148.p0_r' {R : Type} (L N : Nat) (k : Bool → Option R) (z8 : LT) (z9 : Bool) : Option R :=
  k z9
def f148.p0_r {R : Type} (L N : Nat) (k : Bool → Option R) (z8 : LT) (z9 : Bool) : Option R :=
  f148.p0_r' L N k z8 z9
def f148.b' {R : Type} (L N : Nat) (k : Bool → Option R) (w0 : LT → Int → Option R) (x0 : LT) : Option R :=
  w0 x0 (0 : Int)
def f148.b {R : Type} (L N : Nat) (k : Bool → Option R) (x0 : LT) : Option R :=
  f148.b' L N k (fun s0 s1 => f148.l0 L N (fun z2 => f148.p0_e0 L N k z2) (fun z8 z9 => f148.p0_r L N k z8 z9) L s0 s1) x0
def f148 (L N : Nat) (x0 : LT) : Option (Bool) := f148.b L N some x0
def f148.ent (L N : Nat) := entRo [(.sl (.st 1))] (.one .bool) fun d => f148 L N d.1
noncomputable def E148 (L N : Nat) : Env := { P := Try.prog, ty := tyOf, Φ := (Φ149 L N), inl := inlT, live := lives, liveX := livesX, L := L, dp := none, prom := promT, heal := healT, ren := renT }
noncomputable def f148.c0 : Code := loopAt 0 (codeOf Try.f148)
def f148.X0_e0 {R : Type} (κ : KX R) := fun z2 => κ (.exit 0) (f148.T0_e0 z2) (f148.H0_e0 z2)
def f148.X0_r {R : Type} (κ : KX R) := fun z8 z9 => κ .ret (f148.T0_r z8 z9) (f148.H0_r z8 z9)
def f148.R0 {R : Type} (rec : KT R) := fun s0 s1 => rec (f148.T0 s0 s1) (f148.H0 s0 s1)
theorem f148.s0_eq {R : Type} (L N : Nat) (κ : KX R) (rec : KT R) (s0 : LT) (s1 : Int) :
    evRd (E148 L N) (evCallI (E148 L N) 1 2000) 1000 148 29 0 f148.c0 κ rec (f148.T0 s0 s1) (f148.H0 s0 s1)
    = f148.s0 L N (f148.X0_e0 κ) (f148.X0_r κ) (f148.R0 rec) s0 s1 := by kernel_rfl
theorem f148.l0_eq {R : Type} (L N : Nat) (κ : KX R) : ∀ (n : Nat) (s0 : LT) (s1 : Int),
    evLp (E148 L N) (evCallI (E148 L N) 1 2000) 1000 148 29 0 f148.c0 κ n (f148.T0 s0 s1) (f148.H0 s0 s1)
    = f148.l0 L N (f148.X0_e0 κ) (f148.X0_r κ) n s0 s1 := by
  intro n
  induction n with
  | zero => intros; rfl
  | succ n ih =>
    intro s0 s1
    rw [evLp_succ, f148.s0_eq]
    delta f148.R0
    simp only [ih]
    rfl
theorem f148.p0_e0_eq {R : Type} (L N : Nat) (κ : AV → Option R) (z2 : LT) :
    (contAt (E148 L N) (evCallI (E148 L N) 1 2000) 1000 148 29 0 (codeOf Try.f148) (finK (E148 L N) 1000 Try.f148 (finC (.one .bool) κ))) (.exit 0) (f148.T0_e0 z2) (f148.H0_e0 z2)
    = f148.p0_e0 L N (fun a0 => κ (.tv .bool a0)) z2 := by kernel_rfl
theorem f148.p0_r_eq {R : Type} (L N : Nat) (κ : AV → Option R) (z8 : LT) (z9 : Bool) :
    (contAt (E148 L N) (evCallI (E148 L N) 1 2000) 1000 148 29 0 (codeOf Try.f148) (finK (E148 L N) 1000 Try.f148 (finC (.one .bool) κ))) .ret (f148.T0_r z8 z9) (f148.H0_r z8 z9)
    = f148.p0_r L N (fun a0 => κ (.tv .bool a0)) z8 z9 := by kernel_rfl
theorem f148.b_eq {R : Type} (L N : Nat) (κ : AV → Option R) (x0 : LT) :
    evBody (E148 L N) (evCallI (E148 L N) 1 2000) 1000 148 Try.f148 [(.tv (.sl (.st 1)) x0)] [] [] (finC (.one .bool) κ)
    = f148.b L N (fun a0 => κ (.tv .bool a0)) x0 := by
  refine Eq.trans (b := f148.b' L N (fun a0 => κ (.tv .bool a0)) (fun s0 s1 => evLp (E148 L N) (evCallI (E148 L N) 1 2000) 1000 148 29 0 f148.c0 (contAt (E148 L N) (evCallI (E148 L N) 1 2000) 1000 148 29 0 (codeOf Try.f148) (finK (E148 L N) 1000 Try.f148 (finC (.one .bool) κ))) L (f148.T0 s0 s1) (f148.H0 s0 s1)) x0) (by kernel_rfl) ?_
  unfold f148.b
  simp only [f148.l0_eq]
  delta f148.X0_e0 f148.X0_r
  simp only [f148.p0_e0_eq, f148.p0_r_eq]
theorem f148.ok (L N : Nat) (hΦ : TellsOk Try.prog ((Φ149 L N))) : EntOk Try.prog 148 (f148.ent L N) := entRo_ok (E := (E148 L N)) (dep := 1000) (f := Try.f148) (sound_of hΦ) okP (callI_sound (sound_of hΦ) okP 1 2000) rfl rfl fun d _ hy => (f148.b_eq L N (unR (.one .bool)) d.1).trans (Eq.trans (b := f148.b L N some d.1) (by kernel_rfl) hy)
def Φ148 (L N : Nat) : Tells := (addT (Φ149 L N) 148 (f148.ent L N))
theorem Φ148_ok (L N : Nat) : TellsOk Try.prog (Φ148 L N) := addT_ok (Φ149_ok L N) (f148.ok L N (Φ149_ok L N))
def f132.b' {R : Type} (L N : Nat) (k : Bool → Option R) (x0 : Tree) (x1 : LT) : Option R :=
  (f148 L N x1).bind fun y0 =>
  bif y0 then
    (f149 L N (Tree.mk x0.op x0.n x0.parts) (x1.length : Int)).bind fun y1 =>
    k y1
  else k false
def f132.b {R : Type} (L N : Nat) (k : Bool → Option R) (x0 : Tree) (x1 : LT) : Option R :=
  f132.b' L N k x0 x1
def f132 (L N : Nat) (x0 : Tree) (x1 : LT) : Option (Bool) := f132.b L N some x0 x1
def f132.ent (L N : Nat) := entRo [(.st 1), (.sl (.st 1))] (.one .bool) fun d => f132 L N d.1 d.2.1
noncomputable def E132 (L N : Nat) : Env := { P := Try.prog, ty := tyOf, Φ := (Φ148 L N), inl := inlT, live := lives, liveX := livesX, L := L, dp := none, prom := promT, heal := healT, ren := renT }
theorem f132.b_eq {R : Type} (L N : Nat) (κ : AV → Option R) (x0 : Tree) (x1 : LT) :
    evBody (E132 L N) (evCallI (E132 L N) 1 2000) 1000 132 Try.f132 [(.tv (.st 1) x0), (.tv (.sl (.st 1)) x1)] [] [] (finC (.one .bool) κ)
    = f132.b L N (fun a0 => κ (.tv .bool a0)) x0 x1 := by kernel_rfl
theorem f132.ok (L N : Nat) (hΦ : TellsOk Try.prog ((Φ148 L N))) : EntOk Try.prog 132 (f132.ent L N) := entRo_ok (E := (E132 L N)) (dep := 1000) (f := Try.f132) (sound_of hΦ) okP (callI_sound (sound_of hΦ) okP 1 2000) rfl rfl fun d _ hy => (f132.b_eq L N (unR (.one .bool)) d.1 d.2.1).trans (Eq.trans (b := f132.b L N some d.1 d.2.1) (by kernel_rfl) hy)
def Φ132 (L N : Nat) : Tells := (addT (Φ148 L N) 132 (f132.ent L N))
theorem Φ132_ok (L N : Nat) : TellsOk Try.prog (Φ132 L N) := addT_ok (Φ148_ok L N) (f132.ok L N (Φ148_ok L N))
def f160.b' {R : Type} (L N : Nat) (self160 : Int → Option (ByteArray)) (k : ByteArray → Option R) (x0 : Int) : Option R :=
  bif (decide (x0 < (-9223372036854775807 : Int))) then
    k (ByteArray.mk #[45, 57, 50, 50, 51, 51, 55, 50, 48, 51, 54, 56, 53, 52, 55, 55, 53, 56, 48, 56])
  else bif (decide (x0 < (0 : Int))) then
    (self160 (wi (0 - x0))).bind fun y0 =>
    bif (decide ((ByteArray.mk #[45]).size + y0.size ≤ 4611686018427387904)) then
      k ((ByteArray.mk #[45]) ++ y0)
    else none
  else bif (decide (x0 < (10 : Int))) then
    k (strOfNums ([(IntKind.wrap .u8 ((wi ((48 : Int) + x0))))] : LI))
  else bif (decide ((10 : Int) = 0)) then
    none
  else (self160 (wi (Int.tdiv x0 (10 : Int)))).bind fun y1 =>
  bif (decide ((10 : Int) = 0)) then
    none
  else bif (decide (y1.size + (strOfNums ([(IntKind.wrap .u8 ((wi ((48 : Int) + (Int.tmod x0 (10 : Int))))))] : LI)).size ≤ 4611686018427387904)) then
    k (y1 ++ (strOfNums ([(IntKind.wrap .u8 ((wi ((48 : Int) + (Int.tmod x0 (10 : Int))))))] : LI)))
  else none
def f160.b {R : Type} (L N : Nat) (self160 : Int → Option (ByteArray)) (k : ByteArray → Option R) (x0 : Int) : Option R :=
  f160.b' L N self160 k x0
def f160 (L N : Nat) : Nat → Int → Option (ByteArray)
  | 0, _ => none
  | n + 1, x0 => f160.b L N (f160 L N n) some x0
def f160.ent (L N m : Nat) := entRo [i64] (.one .str) fun d => f160 L N m d.1
def Φ160s (L N m : Nat) : Tells := (addT (Φ132 L N) 160 (f160.ent L N m))
noncomputable def E160 (L N m : Nat) : Env := { P := Try.prog, ty := tyOf, Φ := Φ160s L N m, inl := inlT, live := lives, liveX := livesX, L := L, dp := none, prom := promT, heal := healT, ren := renT }
theorem f160.b_eq {R : Type} (L N m : Nat) (κ : AV → Option R) (x0 : Int) :
    evBody (E160 L N m) (evCallI (E160 L N m) 1 2000) 1000 160 Try.f160 [(.tv i64 x0)] [] [] (finC (.one .str) κ)
    = f160.b L N (f160 L N m) (fun a0 => κ (.tv .str a0)) x0 := by kernel_rfl
theorem f160.ok (L N m : Nat) (hΦ : TellsOk Try.prog (Φ160s L N m)) : EntOk Try.prog 160 (f160.ent L N (m + 1)) := entRo_ok (E := (E160 L N m)) (dep := 1000) (f := Try.f160) (sound_of hΦ) okP (callI_sound (sound_of hΦ) okP 1 2000) rfl rfl fun d _ hy => (f160.b_eq L N m (unR (.one .str)) d.1).trans (Eq.trans (b := f160.b L N (f160 L N m) some d.1) (by kernel_rfl) hy)
theorem Φ160s_ok (L N : Nat) : ∀ m, TellsOk Try.prog (Φ160s L N m) := by
  intro m
  induction m with
  | zero => exact (addT_ok (Φ132_ok L N) (entRo_no fun _ => rfl))
  | succ m ih => exact (addT_ok (Φ132_ok L N) (f160.ok L N m ih))
def Φ160 (L N : Nat) : Tells := (addT (Φ132 L N) 160 (f160.ent L N N))
theorem Φ160_ok (L N : Nat) : TellsOk Try.prog (Φ160 L N) := Φ160s_ok L N N
def f161.b' {R : Type} (L N : Nat) (k : LY → Option R) : Option R :=
  k ([(ByteArray.mk #[]), (ByteArray.mk #[97, 99, 116]), (ByteArray.mk #[115, 117, 109]), (ByteArray.mk #[112, 97, 114]), (ByteArray.mk #[104, 105, 100, 101])] : LY)
def f161.b {R : Type} (L N : Nat) (k : LY → Option R) : Option R :=
  f161.b' L N k
def f161 (L N : Nat) : Option (LY) := f161.b L N some
def f161.ent (L N : Nat) := entDa [] (.one (.sl .str)) fun d => f161 L N
noncomputable def E161 (L N : Nat) : Env := { P := Try.prog, ty := tyOf, Φ := (Φ160 L N), inl := inlT, live := lives, liveX := livesX, L := L, dp := none, prom := promT, heal := healT, ren := renT }
theorem f161.b_eq {R : Type} (L N : Nat) (κ : AV → Option R) :
    evBody (E161 L N) (evCallI (E161 L N) 1 2000) 1000 161 Try.f161 [] [] [] (finC (.one (.sl .str)) κ)
    = f161.b L N (fun a0 => κ (.tv (.sl .str) a0)) := by kernel_rfl
theorem f161.ok (L N : Nat) (hΦ : TellsOk Try.prog ((Φ160 L N))) : EntOk Try.prog 161 (f161.ent L N) := entDa_ok (E := (E161 L N)) (dep := 1000) (f := Try.f161) (sound_of hΦ) okP (callI_sound (sound_of hΦ) okP 1 2000) rfl fun _ _ hy => (f161.b_eq L N (unR (.one (.sl .str)))).trans (Eq.trans (b := f161.b L N some) (by kernel_rfl) hy)
def Φ161 (L N : Nat) : Tells := (addT (Φ160 L N) 161 (f161.ent L N))
theorem Φ161_ok (L N : Nat) : TellsOk Try.prog (Φ161 L N) := addT_ok (Φ160_ok L N) (f161.ok L N (Φ160_ok L N))
def f163.b' {R : Type} (L N : Nat) (k : Int → Option R) (x0 : Int) : Option R :=
  k (wi ((bif decide ((wi (0 - x0)) > x0) then (wi (0 - x0)) else x0) - (1 : Int)))
def f163.b {R : Type} (L N : Nat) (k : Int → Option R) (x0 : Int) : Option R :=
  f163.b' L N k x0
def f163 (L N : Nat) (x0 : Int) : Option (Int) := f163.b L N some x0
def f163.ent (L N : Nat) := entRo [i64] (.one i64) fun d => f163 L N d.1
noncomputable def E163 (L N : Nat) : Env := { P := Try.prog, ty := tyOf, Φ := (Φ161 L N), inl := inlT, live := lives, liveX := livesX, L := L, dp := none, prom := promT, heal := healT, ren := renT }
theorem f163.b_eq {R : Type} (L N : Nat) (κ : AV → Option R) (x0 : Int) :
    evBody (E163 L N) (evCallI (E163 L N) 1 2000) 1000 163 Try.f163 [(.tv i64 x0)] [] [] (finC (.one i64) κ)
    = f163.b L N (fun a0 => κ (.tv i64 a0)) x0 := by kernel_rfl
theorem f163.ok (L N : Nat) (hΦ : TellsOk Try.prog ((Φ161 L N))) : EntOk Try.prog 163 (f163.ent L N) := entRo_ok (E := (E163 L N)) (dep := 1000) (f := Try.f163) (sound_of hΦ) okP (callI_sound (sound_of hΦ) okP 1 2000) rfl rfl fun d _ hy => (f163.b_eq L N (unR (.one i64)) d.1).trans (Eq.trans (b := f163.b L N some d.1) (by kernel_rfl) hy)
def Φ163 (L N : Nat) : Tells := (addT (Φ161 L N) 163 (f163.ent L N))
theorem Φ163_ok (L N : Nat) : TellsOk Try.prog (Φ163 L N) := addT_ok (Φ161_ok L N) (f163.ok L N (Φ161_ok L N))
def f162.b' {R : Type} (L N : Nat) (k : ByteArray → Option R) (x0 : Int) : Option R :=
  bif (x0 == (0 : Int)) then
    k (ByteArray.mk #[116, 97, 117])
  else bif (decide (x0 < (0 : Int))) then
    (f163 L N x0).bind fun y0 =>
    (f163 L N x0).bind fun y1 =>
    bif (slB y0 (wi (y1 + (1 : Int))) (ByteArray.mk #[97, 98, 99, 100]).size) then
      bif (decide ((ByteArray.mk #[33]).size + ((ByteArray.mk #[97, 98, 99, 100]).extract y0.toNat (wi (y1 + (1 : Int))).toNat).size ≤ 4611686018427387904)) then
        k ((ByteArray.mk #[33]) ++ ((ByteArray.mk #[97, 98, 99, 100]).extract y0.toNat (wi (y1 + (1 : Int))).toNat))
      else none
    else none
  else (f163 L N x0).bind fun y2 =>
  (f163 L N x0).bind fun y3 =>
  bif (slB y2 (wi (y3 + (1 : Int))) (ByteArray.mk #[97, 98, 99, 100]).size) then
    k ((ByteArray.mk #[97, 98, 99, 100]).extract y2.toNat (wi (y3 + (1 : Int))).toNat)
  else none
def f162.b {R : Type} (L N : Nat) (k : ByteArray → Option R) (x0 : Int) : Option R :=
  f162.b' L N k x0
def f162 (L N : Nat) (x0 : Int) : Option (ByteArray) := f162.b L N some x0
def f162.ent (L N : Nat) := entRo [i64] (.one .str) fun d => f162 L N d.1
noncomputable def E162 (L N : Nat) : Env := { P := Try.prog, ty := tyOf, Φ := (Φ163 L N), inl := inlT, live := lives, liveX := livesX, L := L, dp := none, prom := promT, heal := healT, ren := renT }
theorem f162.b_eq {R : Type} (L N : Nat) (κ : AV → Option R) (x0 : Int) :
    evBody (E162 L N) (evCallI (E162 L N) 1 2000) 1000 162 Try.f162 [(.tv i64 x0)] [] [] (finC (.one .str) κ)
    = f162.b L N (fun a0 => κ (.tv .str a0)) x0 := by kernel_rfl
theorem f162.ok (L N : Nat) (hΦ : TellsOk Try.prog ((Φ163 L N))) : EntOk Try.prog 162 (f162.ent L N) := entRo_ok (E := (E162 L N)) (dep := 1000) (f := Try.f162) (sound_of hΦ) okP (callI_sound (sound_of hΦ) okP 1 2000) rfl rfl fun d _ hy => (f162.b_eq L N (unR (.one .str)) d.1).trans (Eq.trans (b := f162.b L N some d.1) (by kernel_rfl) hy)
def Φ162 (L N : Nat) : Tells := (addT (Φ163 L N) 162 (f162.ent L N))
theorem Φ162_ok (L N : Nat) : TellsOk Try.prog (Φ162 L N) := addT_ok (Φ163_ok L N) (f162.ok L N (Φ163_ok L N))
def f150.s0' {R : Type} (L N : Nat) (self150 : Tree → Option (ByteArray)) (k0_e1 : ByteArray → Option R) (rec0 : ByteArray → Int → Int → Int → LT → Option R) (s12 : ByteArray) (s13 : Int) (s14 : Int) (s15 : Int) (s16 : LT) : Option R :=
  bif (decide (s13 < (s16.length : Int))) then
    bif (decide (s12.size + (ByteArray.mk #[32]).size ≤ 4611686018427387904)) then
      bif (decide (0 ≤ s13) && decide (s13 < (s16.length : Int))) then
        (self150 (listAt s16 (Ty.dflt (.st 1)) s13.toNat)).bind fun y18 =>
        bif (decide ((s12 ++ (ByteArray.mk #[32])).size + y18.size ≤ 4611686018427387904)) then
          rec0 ((s12 ++ (ByteArray.mk #[32])) ++ y18) (wi (s13 + (1 : Int))) s14 s15 s16
        else none
      else none
    else none
  else k0_e1 s12
def f150.s0 {R : Type} (L N : Nat) (self150 : Tree → Option (ByteArray)) (k0_e1 : ByteArray → Option R) (rec0 : ByteArray → Int → Int → Int → LT → Option R) (s12 : ByteArray) (s13 : Int) (s14 : Int) (s15 : Int) (s16 : LT) : Option R :=
  f150.s0' L N self150 k0_e1 rec0 s12 s13 s14 s15 s16
def f150.l0 {R : Type} (L N : Nat) (self150 : Tree → Option (ByteArray)) (k0_e1 : ByteArray → Option R) : Nat → ByteArray → Int → Int → Int → LT → Option R
  | 0, _, _, _, _, _ => none
  | n + 1, s12, s13, s14, s15, s16 => f150.s0 L N self150 k0_e1 (f150.l0 L N self150 k0_e1 n) s12 s13 s14 s15 s16
def f150.T0 (s12 : ByteArray) (s13 : Int) (s14 : Int) (s15 : Int) (s16 : LT) : T := mkT 58 [(1, (.ptr 1001 0)), (3, (.tv .str s12)), (4, (.tv i64 s13))]
def f150.H0 (s12 : ByteArray) (s13 : Int) (s14 : Int) (s15 : Int) (s16 : LT) : H := [(1001, (.box [(.tv i64 s14), (.tv i64 s15), (.tv (.sl (.st 1)) s16)]))]
def f150.T0_e1 (z17 : ByteArray) : T := mkT 58 [(3, (.tv .str z17))]
def f150.H0_e1 (z17 : ByteArray) : H := []
def f150.p0_e1' {R : Type} (L N : Nat) (self150 : Tree → Option (ByteArray)) (k : ByteArray → Option R) (z17 : ByteArray) : Option R :=
  bif (decide (z17.size + (ByteArray.mk #[41]).size ≤ 4611686018427387904)) then
    k (z17 ++ (ByteArray.mk #[41]))
  else none
def f150.p0_e1 {R : Type} (L N : Nat) (self150 : Tree → Option (ByteArray)) (k : ByteArray → Option R) (z17 : ByteArray) : Option R :=
  f150.p0_e1' L N self150 k z17
def f150.j0' {R : Type} (L N : Nat) (self150 : Tree → Option (ByteArray)) (k : ByteArray → Option R) (w0 : ByteArray → Int → Int → Int → LT → Option R) (v8 : ByteArray) (v9 : Int) (v10 : Int) (v11 : LT) : Option R :=
  w0 v8 (0 : Int) v9 v10 v11
def f150.j1' {R : Type} (L N : Nat) (self150 : Tree → Option (ByteArray)) (k : ByteArray → Option R) (w0 : ByteArray → Int → Int → Int → LT → Option R) (v3 : ByteArray) (v4 : Int) (v5 : Int) (v6 : LT) : Option R :=
  bif (v4 == (4 : Int)) then
    bif (decide (v3.size + (ByteArray.mk #[32]).size ≤ 4611686018427387904)) then
      (f162 L N (wi (v5 + (1 : Int)))).bind fun y7 =>
      bif (decide ((v3 ++ (ByteArray.mk #[32])).size + y7.size ≤ 4611686018427387904)) then
        f150.j0' L N self150 k w0 ((v3 ++ (ByteArray.mk #[32])) ++ y7) v4 v5 v6
      else none
    else none
  else f150.j0' L N self150 k w0 v3 v4 v5 v6
def f150.b' {R : Type} (L N : Nat) (self150 : Tree → Option (ByteArray)) (k : ByteArray → Option R) (w0 : ByteArray → Int → Int → Int → LT → Option R) (x0 : Tree) : Option R :=
  bif (x0.op == (0 : Int)) then
    k (ByteArray.mk #[48])
  else bif (x0.op == (5 : Int)) then
    (f160 L N N x0.n).bind fun y0 =>
    bif (decide ((ByteArray.mk #[88]).size + y0.size ≤ 4611686018427387904)) then
      k ((ByteArray.mk #[88]) ++ y0)
    else none
  else (f161 L N).bind fun y1 =>
  bif (decide (0 ≤ x0.op) && decide (x0.op < (y1.length : Int))) then
    bif (decide ((ByteArray.mk #[40]).size + (listAt y1 ByteArray.empty x0.op.toNat).size ≤ 4611686018427387904)) then
      bif (x0.op == (1 : Int)) then
        bif (decide (((ByteArray.mk #[40]) ++ (listAt y1 ByteArray.empty x0.op.toNat)).size + (ByteArray.mk #[32]).size ≤ 4611686018427387904)) then
          (f162 L N x0.n).bind fun y2 =>
          bif (decide ((((ByteArray.mk #[40]) ++ (listAt y1 ByteArray.empty x0.op.toNat)) ++ (ByteArray.mk #[32])).size + y2.size ≤ 4611686018427387904)) then
            f150.j1' L N self150 k w0 ((((ByteArray.mk #[40]) ++ (listAt y1 ByteArray.empty x0.op.toNat)) ++ (ByteArray.mk #[32])) ++ y2) x0.op x0.n x0.parts
          else none
        else none
      else f150.j1' L N self150 k w0 ((ByteArray.mk #[40]) ++ (listAt y1 ByteArray.empty x0.op.toNat)) x0.op x0.n x0.parts
    else none
  else none
def f150.b {R : Type} (L N : Nat) (self150 : Tree → Option (ByteArray)) (k : ByteArray → Option R) (x0 : Tree) : Option R :=
  f150.b' L N self150 k (fun s12 s13 s14 s15 s16 => f150.l0 L N self150 (fun z17 => f150.p0_e1 L N self150 k z17) L s12 s13 s14 s15 s16) x0
def f150 (L N : Nat) : Nat → Tree → Option (ByteArray)
  | 0, _ => none
  | n + 1, x0 => f150.b L N (f150 L N n) some x0
def f150.ent (L N m : Nat) := entRo [(.st 1)] (.one .str) fun d => f150 L N m d.1
def Φ150s (L N m : Nat) : Tells := (addT (Φ162 L N) 150 (f150.ent L N m))
noncomputable def E150 (L N m : Nat) : Env := { P := Try.prog, ty := tyOf, Φ := Φ150s L N m, inl := inlT, live := lives, liveX := livesX, L := L, dp := none, prom := promT, heal := healT, ren := renT }
noncomputable def f150.c0 : Code := loopAt 1 (codeOf Try.f150)
def f150.X0_e1 {R : Type} (κ : KX R) := fun z17 => κ (.exit 1) (f150.T0_e1 z17) (f150.H0_e1 z17)
def f150.R0 {R : Type} (rec : KT R) := fun s12 s13 s14 s15 s16 => rec (f150.T0 s12 s13 s14 s15 s16) (f150.H0 s12 s13 s14 s15 s16)
theorem f150.s0_eq {R : Type} (L N m : Nat) (κ : KX R) (rec : KT R) (s12 : ByteArray) (s13 : Int) (s14 : Int) (s15 : Int) (s16 : LT) :
    evRd (E150 L N m) (evCallI (E150 L N m) 1 2000) 1000 150 58 1 f150.c0 κ rec (f150.T0 s12 s13 s14 s15 s16) (f150.H0 s12 s13 s14 s15 s16)
    = f150.s0 L N (f150 L N m) (f150.X0_e1 κ) (f150.R0 rec) s12 s13 s14 s15 s16 := by kernel_rfl
theorem f150.l0_eq {R : Type} (L N m : Nat) (κ : KX R) : ∀ (n : Nat) (s12 : ByteArray) (s13 : Int) (s14 : Int) (s15 : Int) (s16 : LT),
    evLp (E150 L N m) (evCallI (E150 L N m) 1 2000) 1000 150 58 1 f150.c0 κ n (f150.T0 s12 s13 s14 s15 s16) (f150.H0 s12 s13 s14 s15 s16)
    = f150.l0 L N (f150 L N m) (f150.X0_e1 κ) n s12 s13 s14 s15 s16 := by
  intro n
  induction n with
  | zero => intros; rfl
  | succ n ih =>
    intro s12 s13 s14 s15 s16
    rw [evLp_succ, f150.s0_eq]
    delta f150.R0
    simp only [ih]
    rfl
theorem f150.p0_e1_eq {R : Type} (L N m : Nat) (κ : AV → Option R) (z17 : ByteArray) :
    (contAt (E150 L N m) (evCallI (E150 L N m) 1 2000) 1000 150 58 1 (codeOf Try.f150) (finK (E150 L N m) 1000 Try.f150 (finC (.one .str) κ))) (.exit 1) (f150.T0_e1 z17) (f150.H0_e1 z17)
    = f150.p0_e1 L N (f150 L N m) (fun a0 => κ (.tv .str a0)) z17 := by kernel_rfl
theorem f150.b_eq {R : Type} (L N m : Nat) (κ : AV → Option R) (x0 : Tree) :
    evBody (E150 L N m) (evCallI (E150 L N m) 1 2000) 1000 150 Try.f150 [(.tv (.st 1) x0)] [] [] (finC (.one .str) κ)
    = f150.b L N (f150 L N m) (fun a0 => κ (.tv .str a0)) x0 := by
  refine Eq.trans (b := f150.b' L N (f150 L N m) (fun a0 => κ (.tv .str a0)) (fun s12 s13 s14 s15 s16 => evLp (E150 L N m) (evCallI (E150 L N m) 1 2000) 1000 150 58 1 f150.c0 (contAt (E150 L N m) (evCallI (E150 L N m) 1 2000) 1000 150 58 1 (codeOf Try.f150) (finK (E150 L N m) 1000 Try.f150 (finC (.one .str) κ))) L (f150.T0 s12 s13 s14 s15 s16) (f150.H0 s12 s13 s14 s15 s16)) x0) (by kernel_rfl) ?_
  unfold f150.b
  simp only [f150.l0_eq]
  delta f150.X0_e1
  simp only [f150.p0_e1_eq]
theorem f150.ok (L N m : Nat) (hΦ : TellsOk Try.prog (Φ150s L N m)) : EntOk Try.prog 150 (f150.ent L N (m + 1)) := entRo_ok (E := (E150 L N m)) (dep := 1000) (f := Try.f150) (sound_of hΦ) okP (callI_sound (sound_of hΦ) okP 1 2000) rfl rfl fun d _ hy => (f150.b_eq L N m (unR (.one .str)) d.1).trans (Eq.trans (b := f150.b L N (f150 L N m) some d.1) (by kernel_rfl) hy)
theorem Φ150s_ok (L N : Nat) : ∀ m, TellsOk Try.prog (Φ150s L N m) := by
  intro m
  induction m with
  | zero => exact (addT_ok (Φ162_ok L N) (entRo_no fun _ => rfl))
  | succ m ih => exact (addT_ok (Φ162_ok L N) (f150.ok L N m ih))
def Φ150 (L N : Nat) : Tells := (addT (Φ162 L N) 150 (f150.ent L N N))
theorem Φ150_ok (L N : Nat) : TellsOk Try.prog (Φ150 L N) := Φ150s_ok L N N
def f151.s0' {R : Type} (L N : Nat) (self151 : Tree → LT → Option (LS)) (k0_e1 : Int → Int → LT → LS → LS → LS → Option R) (rec0 : Int → Int → Int → LT → LS → LS → LS → Option R) (s4 : Int) (s5 : Int) (s6 : Int) (s7 : LT) (s8 : LS) (s9 : LS) (s10 : LS) : Option R :=
  bif (decide (s4 < (s9.length : Int))) then
    bif (decide (0 ≤ s4) && decide (s4 < (s9.length : Int))) then
      bif (decide (0 ≤ s4) && decide (s4 < (s9.length : Int))) then
        bif (decide (0 ≤ (1 : Int)) && decide ((1 : Int) < (s7.length : Int))) then
          bif (decide (s8.length + ([(Step.mk ((listAt s9 (Ty.dflt (.st 3)) s4.toNat).act) (Tree.mk (3 : Int) (0 : Int) ([(Tree.mk ((listAt s9 (Ty.dflt (.st 3)) s4.toNat).thn.op) ((listAt s9 (Ty.dflt (.st 3)) s4.toNat).thn.n) ((listAt s9 (Ty.dflt (.st 3)) s4.toNat).thn.parts)), (listAt s7 (Ty.dflt (.st 1)) (1 : Int).toNat)] : LT)))] : LS).length ≤ lim)) then
            rec0 (wi (s4 + (1 : Int))) s5 s6 s7 (s8 ++ ([(Step.mk ((listAt s9 (Ty.dflt (.st 3)) s4.toNat).act) (Tree.mk (3 : Int) (0 : Int) ([(Tree.mk ((listAt s9 (Ty.dflt (.st 3)) s4.toNat).thn.op) ((listAt s9 (Ty.dflt (.st 3)) s4.toNat).thn.n) ((listAt s9 (Ty.dflt (.st 3)) s4.toNat).thn.parts)), (listAt s7 (Ty.dflt (.st 1)) (1 : Int).toNat)] : LT)))] : LS)) s9 s10
          else none
        else none
      else none
    else none
  else k0_e1 s5 s6 s7 s8 s9 s10
def f151.s0 {R : Type} (L N : Nat) (self151 : Tree → LT → Option (LS)) (k0_e1 : Int → Int → LT → LS → LS → LS → Option R) (rec0 : Int → Int → Int → LT → LS → LS → LS → Option R) (s4 : Int) (s5 : Int) (s6 : Int) (s7 : LT) (s8 : LS) (s9 : LS) (s10 : LS) : Option R :=
  f151.s0' L N self151 k0_e1 rec0 s4 s5 s6 s7 s8 s9 s10
def f151.l0 {R : Type} (L N : Nat) (self151 : Tree → LT → Option (LS)) (k0_e1 : Int → Int → LT → LS → LS → LS → Option R) : Nat → Int → Int → Int → LT → LS → LS → LS → Option R
  | 0, _, _, _, _, _, _, _ => none
  | n + 1, s4, s5, s6, s7, s8, s9, s10 => f151.s0 L N self151 k0_e1 (f151.l0 L N self151 k0_e1 n) s4 s5 s6 s7 s8 s9 s10
def f151.T0 (s4 : Int) (s5 : Int) (s6 : Int) (s7 : LT) (s8 : LS) (s9 : LS) (s10 : LS) : T := mkT 217 [(2, (.ptr 1002 0)), (5, (.row 1014)), (6, (.row 1051)), (7, (.row 1057)), (8, (.tv i64 s4))]
def f151.H0 (s4 : Int) (s5 : Int) (s6 : Int) (s7 : LT) (s8 : LS) (s9 : LS) (s10 : LS) : H := [(1002, (.box [(.tv i64 s5), (.tv i64 s6), (.tv (.sl (.st 1)) s7)])), (1014, (.row 146 (.st 3) s8)), (1051, (.row 146 (.st 3) s9)), (1057, (.row 146 (.st 3) s10))]
def f151.T0_e1 (z11 : Int) (z12 : Int) (z13 : LT) (z14 : LS) (z15 : LS) (z16 : LS) : T := mkT 217 [(2, (.ptr 1002 0)), (5, (.row 1014)), (6, (.row 1051)), (7, (.row 1057))]
def f151.H0_e1 (z11 : Int) (z12 : Int) (z13 : LT) (z14 : LS) (z15 : LS) (z16 : LS) : H := [(1002, (.box [(.tv i64 z11), (.tv i64 z12), (.tv (.sl (.st 1)) z13)])), (1014, (.row 146 (.st 3) z14)), (1051, (.row 146 (.st 3) z15)), (1057, (.row 146 (.st 3) z16))]
def f151.s1' {R : Type} (L N : Nat) (self151 : Tree → LT → Option (LS)) (k1_e3 : LS → LS → LS → Option R) (rec1 : Int → Int → Int → LT → LS → LS → LS → Option R) (s17 : Int) (s18 : Int) (s19 : Int) (s20 : LT) (s21 : LS) (s22 : LS) (s23 : LS) : Option R :=
  bif (decide (s17 < (s23.length : Int))) then
    bif (decide (0 ≤ s17) && decide (s17 < (s23.length : Int))) then
      bif (decide (0 ≤ (0 : Int)) && decide ((0 : Int) < (s20.length : Int))) then
        bif (decide (0 ≤ s17) && decide (s17 < (s23.length : Int))) then
          bif (decide (s21.length + ([(Step.mk ((listAt s23 (Ty.dflt (.st 3)) s17.toNat).act) (Tree.mk (3 : Int) (0 : Int) ([(listAt s20 (Ty.dflt (.st 1)) (0 : Int).toNat), (Tree.mk ((listAt s23 (Ty.dflt (.st 3)) s17.toNat).thn.op) ((listAt s23 (Ty.dflt (.st 3)) s17.toNat).thn.n) ((listAt s23 (Ty.dflt (.st 3)) s17.toNat).thn.parts))] : LT)))] : LS).length ≤ lim)) then
            rec1 (wi (s17 + (1 : Int))) s18 s19 s20 (s21 ++ ([(Step.mk ((listAt s23 (Ty.dflt (.st 3)) s17.toNat).act) (Tree.mk (3 : Int) (0 : Int) ([(listAt s20 (Ty.dflt (.st 1)) (0 : Int).toNat), (Tree.mk ((listAt s23 (Ty.dflt (.st 3)) s17.toNat).thn.op) ((listAt s23 (Ty.dflt (.st 3)) s17.toNat).thn.n) ((listAt s23 (Ty.dflt (.st 3)) s17.toNat).thn.parts))] : LT)))] : LS)) s22 s23
          else none
        else none
      else none
    else none
  else k1_e3 s21 s22 s23
def f151.s1 {R : Type} (L N : Nat) (self151 : Tree → LT → Option (LS)) (k1_e3 : LS → LS → LS → Option R) (rec1 : Int → Int → Int → LT → LS → LS → LS → Option R) (s17 : Int) (s18 : Int) (s19 : Int) (s20 : LT) (s21 : LS) (s22 : LS) (s23 : LS) : Option R :=
  f151.s1' L N self151 k1_e3 rec1 s17 s18 s19 s20 s21 s22 s23
def f151.l1 {R : Type} (L N : Nat) (self151 : Tree → LT → Option (LS)) (k1_e3 : LS → LS → LS → Option R) : Nat → Int → Int → Int → LT → LS → LS → LS → Option R
  | 0, _, _, _, _, _, _, _ => none
  | n + 1, s17, s18, s19, s20, s21, s22, s23 => f151.s1 L N self151 k1_e3 (f151.l1 L N self151 k1_e3 n) s17 s18 s19 s20 s21 s22 s23
def f151.T1 (s17 : Int) (s18 : Int) (s19 : Int) (s20 : LT) (s21 : LS) (s22 : LS) (s23 : LS) : T := mkT 217 [(2, (.ptr 1002 0)), (5, (.row 1014)), (6, (.row 1051)), (7, (.row 1057)), (9, (.tv i64 s17))]
def f151.H1 (s17 : Int) (s18 : Int) (s19 : Int) (s20 : LT) (s21 : LS) (s22 : LS) (s23 : LS) : H := [(1002, (.box [(.tv i64 s18), (.tv i64 s19), (.tv (.sl (.st 1)) s20)])), (1014, (.row 146 (.st 3) s21)), (1051, (.row 146 (.st 3) s22)), (1057, (.row 146 (.st 3) s23))]
def f151.T1_e3 (z24 : LS) (z25 : LS) (z26 : LS) : T := mkT 217 [(5, (.row 1014)), (6, (.row 1051)), (7, (.row 1057))]
def f151.H1_e3 (z24 : LS) (z25 : LS) (z26 : LS) : H := [(1014, (.row 146 (.st 3) z24)), (1051, (.row 146 (.st 3) z25)), (1057, (.row 146 (.st 3) z26))]
def f151.j0' {R : Type} (L N : Nat) (self151 : Tree → LT → Option (LS)) (k3_e7 : Int → LS → LS → LS → Option R) (rec3 : Int → Int → LS → LS → LS → Option R) (v41 : Int) (v42 : Int) (v43 : Bool) (v44 : LS) (v45 : LS) (v46 : LS) : Option R :=
  bif v43 then
    bif (decide (0 ≤ v41) && decide (v41 < (v45.length : Int))) then
      bif (decide (0 ≤ v42) && decide (v42 < (v46.length : Int))) then
        bif (decide (v44.length + ([(Step.mk (0 : Int) (Tree.mk (3 : Int) (0 : Int) ([(Tree.mk ((listAt v45 (Ty.dflt (.st 3)) v41.toNat).thn.op) ((listAt v45 (Ty.dflt (.st 3)) v41.toNat).thn.n) ((listAt v45 (Ty.dflt (.st 3)) v41.toNat).thn.parts)), (Tree.mk ((listAt v46 (Ty.dflt (.st 3)) v42.toNat).thn.op) ((listAt v46 (Ty.dflt (.st 3)) v42.toNat).thn.n) ((listAt v46 (Ty.dflt (.st 3)) v42.toNat).thn.parts))] : LT)))] : LS).length ≤ lim)) then
          rec3 v41 (wi (v42 + (1 : Int))) (v44 ++ ([(Step.mk (0 : Int) (Tree.mk (3 : Int) (0 : Int) ([(Tree.mk ((listAt v45 (Ty.dflt (.st 3)) v41.toNat).thn.op) ((listAt v45 (Ty.dflt (.st 3)) v41.toNat).thn.n) ((listAt v45 (Ty.dflt (.st 3)) v41.toNat).thn.parts)), (Tree.mk ((listAt v46 (Ty.dflt (.st 3)) v42.toNat).thn.op) ((listAt v46 (Ty.dflt (.st 3)) v42.toNat).thn.n) ((listAt v46 (Ty.dflt (.st 3)) v42.toNat).thn.parts))] : LT)))] : LS)) v45 v46
        else none
      else none
    else none
  else rec3 v41 (wi (v42 + (1 : Int))) v44 v45 v46
def f151.s3' {R : Type} (L N : Nat) (self151 : Tree → LT → Option (LS)) (k3_e7 : Int → LS → LS → LS → Option R) (rec3 : Int → Int → LS → LS → LS → Option R) (s32 : Int) (s33 : Int) (s34 : LS) (s35 : LS) (s36 : LS) : Option R :=
  bif (decide (s33 < (s36.length : Int))) then
    bif (decide (0 ≤ s32) && decide (s32 < (s35.length : Int))) then
      bif ((listAt s35 (Ty.dflt (.st 3)) s32.toNat).act != (0 : Int)) then
        bif (decide (0 ≤ s32) && decide (s32 < (s35.length : Int))) then
          bif (decide (0 ≤ s33) && decide (s33 < (s36.length : Int))) then
            f151.j0' L N self151 k3_e7 rec3 s32 s33 ((listAt s35 (Ty.dflt (.st 3)) s32.toNat).act == (wi (0 - (listAt s36 (Ty.dflt (.st 3)) s33.toNat).act))) s34 s35 s36
          else none
        else none
      else f151.j0' L N self151 k3_e7 rec3 s32 s33 false s34 s35 s36
    else none
  else k3_e7 s32 s34 s35 s36
def f151.s3 {R : Type} (L N : Nat) (self151 : Tree → LT → Option (LS)) (k3_e7 : Int → LS → LS → LS → Option R) (rec3 : Int → Int → LS → LS → LS → Option R) (s32 : Int) (s33 : Int) (s34 : LS) (s35 : LS) (s36 : LS) : Option R :=
  f151.s3' L N self151 k3_e7 rec3 s32 s33 s34 s35 s36
def f151.l3 {R : Type} (L N : Nat) (self151 : Tree → LT → Option (LS)) (k3_e7 : Int → LS → LS → LS → Option R) : Nat → Int → Int → LS → LS → LS → Option R
  | 0, _, _, _, _, _ => none
  | n + 1, s32, s33, s34, s35, s36 => f151.s3 L N self151 k3_e7 (f151.l3 L N self151 k3_e7 n) s32 s33 s34 s35 s36
def f151.T3 (s32 : Int) (s33 : Int) (s34 : LS) (s35 : LS) (s36 : LS) : T := mkT 217 [(5, (.row 1014)), (6, (.row 1051)), (7, (.row 1057)), (10, (.tv i64 s32)), (11, (.tv i64 s33))]
def f151.H3 (s32 : Int) (s33 : Int) (s34 : LS) (s35 : LS) (s36 : LS) : H := [(1014, (.row 146 (.st 3) s34)), (1051, (.row 146 (.st 3) s35)), (1057, (.row 146 (.st 3) s36))]
def f151.T3_e7 (z37 : Int) (z38 : LS) (z39 : LS) (z40 : LS) : T := mkT 217 [(5, (.row 1014)), (6, (.row 1051)), (7, (.row 1057)), (10, (.tv i64 z37))]
def f151.H3_e7 (z37 : Int) (z38 : LS) (z39 : LS) (z40 : LS) : H := [(1014, (.row 146 (.st 3) z38)), (1051, (.row 146 (.st 3) z39)), (1057, (.row 146 (.st 3) z40))]
def f151.p3_e7' {R : Type} (L N : Nat) (self151 : Tree → LT → Option (LS)) (k2_e5 : LS → Option R) (rec2 : Int → LS → LS → LS → Option R) (z37 : Int) (z38 : LS) (z39 : LS) (z40 : LS) : Option R :=
  rec2 (wi (z37 + (1 : Int))) z38 z39 z40
def f151.p3_e7 {R : Type} (L N : Nat) (self151 : Tree → LT → Option (LS)) (k2_e5 : LS → Option R) (rec2 : Int → LS → LS → LS → Option R) (z37 : Int) (z38 : LS) (z39 : LS) (z40 : LS) : Option R :=
  f151.p3_e7' L N self151 k2_e5 rec2 z37 z38 z39 z40
def f151.s2' {R : Type} (L N : Nat) (self151 : Tree → LT → Option (LS)) (k2_e5 : LS → Option R) (rec2 : Int → LS → LS → LS → Option R) (w3 : Int → Int → LS → LS → LS → Option R) (s27 : Int) (s28 : LS) (s29 : LS) (s30 : LS) : Option R :=
  bif (decide (s27 < (s29.length : Int))) then
    w3 s27 (0 : Int) s28 s29 s30
  else k2_e5 s28
def f151.s2 {R : Type} (L N : Nat) (self151 : Tree → LT → Option (LS)) (k2_e5 : LS → Option R) (rec2 : Int → LS → LS → LS → Option R) (s27 : Int) (s28 : LS) (s29 : LS) (s30 : LS) : Option R :=
  f151.s2' L N self151 k2_e5 rec2 (fun s32 s33 s34 s35 s36 => f151.l3 L N self151 (fun z37 z38 z39 z40 => f151.p3_e7 L N self151 k2_e5 rec2 z37 z38 z39 z40) L s32 s33 s34 s35 s36) s27 s28 s29 s30
def f151.l2 {R : Type} (L N : Nat) (self151 : Tree → LT → Option (LS)) (k2_e5 : LS → Option R) : Nat → Int → LS → LS → LS → Option R
  | 0, _, _, _, _ => none
  | n + 1, s27, s28, s29, s30 => f151.s2 L N self151 k2_e5 (f151.l2 L N self151 k2_e5 n) s27 s28 s29 s30
def f151.T2 (s27 : Int) (s28 : LS) (s29 : LS) (s30 : LS) : T := mkT 217 [(5, (.row 1014)), (6, (.row 1051)), (7, (.row 1057)), (10, (.tv i64 s27))]
def f151.H2 (s27 : Int) (s28 : LS) (s29 : LS) (s30 : LS) : H := [(1014, (.row 146 (.st 3) s28)), (1051, (.row 146 (.st 3) s29)), (1057, (.row 146 (.st 3) s30))]
def f151.T2_e5 (z31 : LS) : T := mkT 217 [(5, (.row 1014))]
def f151.H2_e5 (z31 : LS) : H := [(1014, (.row 146 (.st 3) z31))]
def f151.p2_e5' {R : Type} (L N : Nat) (self151 : Tree → LT → Option (LS)) (k : LS → Option R) (z31 : LS) : Option R :=
  k z31
def f151.p2_e5 {R : Type} (L N : Nat) (self151 : Tree → LT → Option (LS)) (k : LS → Option R) (z31 : LS) : Option R :=
  f151.p2_e5' L N self151 k z31
def f151.p1_e3' {R : Type} (L N : Nat) (self151 : Tree → LT → Option (LS)) (k : LS → Option R) (w2 : Int → LS → LS → LS → Option R) (z24 : LS) (z25 : LS) (z26 : LS) : Option R :=
  w2 (0 : Int) z24 z25 z26
def f151.p1_e3 {R : Type} (L N : Nat) (self151 : Tree → LT → Option (LS)) (k : LS → Option R) (z24 : LS) (z25 : LS) (z26 : LS) : Option R :=
  f151.p1_e3' L N self151 k (fun s27 s28 s29 s30 => f151.l2 L N self151 (fun z31 => f151.p2_e5 L N self151 k z31) L s27 s28 s29 s30) z24 z25 z26
def f151.p0_e1' {R : Type} (L N : Nat) (self151 : Tree → LT → Option (LS)) (k : LS → Option R) (w1 : Int → Int → Int → LT → LS → LS → LS → Option R) (z11 : Int) (z12 : Int) (z13 : LT) (z14 : LS) (z15 : LS) (z16 : LS) : Option R :=
  w1 (0 : Int) z11 z12 z13 z14 z15 z16
def f151.p0_e1 {R : Type} (L N : Nat) (self151 : Tree → LT → Option (LS)) (k : LS → Option R) (z11 : Int) (z12 : Int) (z13 : LT) (z14 : LS) (z15 : LS) (z16 : LS) : Option R :=
  f151.p0_e1' L N self151 k (fun s17 s18 s19 s20 s21 s22 s23 => f151.l1 L N self151 (fun z24 z25 z26 => f151.p1_e3 L N self151 k z24 z25 z26) L s17 s18 s19 s20 s21 s22 s23) z11 z12 z13 z14 z15 z16
def f151.j1' {R : Type} (L N : Nat) (self151 : Tree → LT → Option (LS)) (k4_e9 : LS → Option R) (rec4 : Int → Int → Int → LT → LS → LS → Option R) (v61 : Int) (v62 : Bool) (v63 : Int) (v64 : Int) (v65 : LT) (v66 : LS) (v67 : LS) : Option R :=
  bif v62 then
    bif (decide (0 ≤ v61) && decide (v61 < (v67.length : Int))) then
      bif (decide (0 ≤ v61) && decide (v61 < (v67.length : Int))) then
        bif (decide (v66.length + ([(Step.mk ((listAt v67 (Ty.dflt (.st 3)) v61.toNat).act) (Tree.mk (4 : Int) v64 ([(Tree.mk ((listAt v67 (Ty.dflt (.st 3)) v61.toNat).thn.op) ((listAt v67 (Ty.dflt (.st 3)) v61.toNat).thn.n) ((listAt v67 (Ty.dflt (.st 3)) v61.toNat).thn.parts))] : LT)))] : LS).length ≤ lim)) then
          rec4 (wi (v61 + (1 : Int))) v63 v64 v65 (v66 ++ ([(Step.mk ((listAt v67 (Ty.dflt (.st 3)) v61.toNat).act) (Tree.mk (4 : Int) v64 ([(Tree.mk ((listAt v67 (Ty.dflt (.st 3)) v61.toNat).thn.op) ((listAt v67 (Ty.dflt (.st 3)) v61.toNat).thn.n) ((listAt v67 (Ty.dflt (.st 3)) v61.toNat).thn.parts))] : LT)))] : LS)) v67
        else none
      else none
    else none
  else rec4 (wi (v61 + (1 : Int))) v63 v64 v65 v66 v67
def f151.s4' {R : Type} (L N : Nat) (self151 : Tree → LT → Option (LS)) (k4_e9 : LS → Option R) (rec4 : Int → Int → Int → LT → LS → LS → Option R) (s53 : Int) (s54 : Int) (s55 : Int) (s56 : LT) (s57 : LS) (s58 : LS) : Option R :=
  bif (decide (s53 < (s58.length : Int))) then
    bif (decide (0 ≤ s53) && decide (s53 < (s58.length : Int))) then
      bif ((listAt s58 (Ty.dflt (.st 3)) s53.toNat).act == (0 : Int)) then
        f151.j1' L N self151 k4_e9 rec4 s53 true s54 s55 s56 s57 s58
      else bif (decide (0 ≤ s53) && decide (s53 < (s58.length : Int))) then
        (f163 L N ((listAt s58 (Ty.dflt (.st 3)) s53.toNat).act)).bind fun y60 =>
        f151.j1' L N self151 k4_e9 rec4 s53 (y60 != s55) s54 s55 s56 s57 s58
      else none
    else none
  else k4_e9 s57
def f151.s4 {R : Type} (L N : Nat) (self151 : Tree → LT → Option (LS)) (k4_e9 : LS → Option R) (rec4 : Int → Int → Int → LT → LS → LS → Option R) (s53 : Int) (s54 : Int) (s55 : Int) (s56 : LT) (s57 : LS) (s58 : LS) : Option R :=
  f151.s4' L N self151 k4_e9 rec4 s53 s54 s55 s56 s57 s58
def f151.l4 {R : Type} (L N : Nat) (self151 : Tree → LT → Option (LS)) (k4_e9 : LS → Option R) : Nat → Int → Int → Int → LT → LS → LS → Option R
  | 0, _, _, _, _, _, _ => none
  | n + 1, s53, s54, s55, s56, s57, s58 => f151.s4 L N self151 k4_e9 (f151.l4 L N self151 k4_e9 n) s53 s54 s55 s56 s57 s58
def f151.T4 (s53 : Int) (s54 : Int) (s55 : Int) (s56 : LT) (s57 : LS) (s58 : LS) : T := mkT 217 [(2, (.ptr 1002 0)), (5, (.row 1014)), (12, (.row 1165)), (13, (.tv i64 s53))]
def f151.H4 (s53 : Int) (s54 : Int) (s55 : Int) (s56 : LT) (s57 : LS) (s58 : LS) : H := [(1002, (.box [(.tv i64 s54), (.tv i64 s55), (.tv (.sl (.st 1)) s56)])), (1014, (.row 146 (.st 3) s57)), (1165, (.row 146 (.st 3) s58))]
def f151.T4_e9 (z59 : LS) : T := mkT 217 [(5, (.row 1014))]
def f151.H4_e9 (z59 : LS) : H := [(1014, (.row 146 (.st 3) z59))]
def f151.p4_e9' {R : Type} (L N : Nat) (self151 : Tree → LT → Option (LS)) (k : LS → Option R) (z59 : LS) : Option R :=
  k z59
def f151.p4_e9 {R : Type} (L N : Nat) (self151 : Tree → LT → Option (LS)) (k : LS → Option R) (z59 : LS) : Option R :=
  f151.p4_e9' L N self151 k z59
def f151.b' {R : Type} (L N : Nat) (self151 : Tree → LT → Option (LS)) (k : LS → Option R) (w0 : Int → Int → Int → LT → LS → LS → LS → Option R) (w4 : Int → Int → Int → LT → LS → LS → Option R) (x0 : Tree) (x1 : LT) : Option R :=
  bif (x0.op == (1 : Int)) then
    bif (decide (0 ≤ (0 : Int)) && decide ((0 : Int) < (x0.parts.length : Int))) then
      bif (decide (([] : LS).length + ([(Step.mk x0.n (Tree.mk ((listAt x0.parts (Ty.dflt (.st 1)) (0 : Int).toNat).op) ((listAt x0.parts (Ty.dflt (.st 1)) (0 : Int).toNat).n) ((listAt x0.parts (Ty.dflt (.st 1)) (0 : Int).toNat).parts)))] : LS).length ≤ lim)) then
        k (([] : LS) ++ ([(Step.mk x0.n (Tree.mk ((listAt x0.parts (Ty.dflt (.st 1)) (0 : Int).toNat).op) ((listAt x0.parts (Ty.dflt (.st 1)) (0 : Int).toNat).n) ((listAt x0.parts (Ty.dflt (.st 1)) (0 : Int).toNat).parts)))] : LS))
      else none
    else none
  else bif (x0.op == (2 : Int)) then
    bif (decide (0 ≤ (0 : Int)) && decide ((0 : Int) < (x0.parts.length : Int))) then
      (self151 (listAt x0.parts (Ty.dflt (.st 1)) (0 : Int).toNat) x1).bind fun y0 =>
      bif (decide (0 ≤ (1 : Int)) && decide ((1 : Int) < (x0.parts.length : Int))) then
        (self151 (listAt x0.parts (Ty.dflt (.st 1)) (1 : Int).toNat) x1).bind fun y1 =>
        bif (decide (y0.length + y1.length ≤ lim)) then
          k (y0 ++ y1)
        else none
      else none
    else none
  else bif (x0.op == (3 : Int)) then
    bif (decide (0 ≤ (0 : Int)) && decide ((0 : Int) < (x0.parts.length : Int))) then
      (self151 (listAt x0.parts (Ty.dflt (.st 1)) (0 : Int).toNat) x1).bind fun y2 =>
      bif (decide (0 ≤ (1 : Int)) && decide ((1 : Int) < (x0.parts.length : Int))) then
        (self151 (listAt x0.parts (Ty.dflt (.st 1)) (1 : Int).toNat) x1).bind fun y3 =>
        w0 (0 : Int) x0.op x0.n x0.parts ([] : LS) y2 y3
      else none
    else none
  else bif (x0.op == (4 : Int)) then
    bif (decide (0 ≤ (0 : Int)) && decide ((0 : Int) < (x0.parts.length : Int))) then
      (self151 (listAt x0.parts (Ty.dflt (.st 1)) (0 : Int).toNat) x1).bind fun y52 =>
      w4 (0 : Int) x0.op x0.n x0.parts ([] : LS) y52
    else none
  else bif (x0.op == (5 : Int)) then
    bif (decide (0 ≤ x0.n) && decide (x0.n < (x1.length : Int))) then
      (self151 (listAt x1 (Ty.dflt (.st 1)) x0.n.toNat) x1).bind fun y74 =>
      k y74
    else none
  else k ([] : LS)
def f151.b {R : Type} (L N : Nat) (self151 : Tree → LT → Option (LS)) (k : LS → Option R) (x0 : Tree) (x1 : LT) : Option R :=
  f151.b' L N self151 k (fun s4 s5 s6 s7 s8 s9 s10 => f151.l0 L N self151 (fun z11 z12 z13 z14 z15 z16 => f151.p0_e1 L N self151 k z11 z12 z13 z14 z15 z16) L s4 s5 s6 s7 s8 s9 s10) (fun s53 s54 s55 s56 s57 s58 => f151.l4 L N self151 (fun z59 => f151.p4_e9 L N self151 k z59) L s53 s54 s55 s56 s57 s58) x0 x1
def f151 (L N : Nat) : Nat → Tree → LT → Option (LS)
  | 0, _, _ => none
  | n + 1, x0, x1 => f151.b L N (f151 L N n) some x0 x1
def f151.ent (L N m : Nat) (args : List AV) (vw : View) (site : Nat) : Ans := match coeD [(.st 1), (.sl (.st 1))] vw args with
  | some (d, u) => ⟨LS, f151 L N m d.1 d.2.1, fun y => (.row site, u ++ [(site, some (.row 146 (.st 3) y))], [])⟩
  | none => Ans.no
def Φ151s (L N m : Nat) : Tells := (addT (Φ150 L N) 151 (f151.ent L N m))
noncomputable def E151 (L N m : Nat) : Env := { P := Try.prog, ty := tyOf, Φ := Φ151s L N m, inl := inlT, live := lives, liveX := livesX, L := L, dp := none, prom := promT, heal := healT, ren := renT }
noncomputable def f151.c0 : Code := loopAt 1 (codeOf Try.f151)
def f151.X0_e1 {R : Type} (κ : KX R) := fun z11 z12 z13 z14 z15 z16 => κ (.exit 1) (f151.T0_e1 z11 z12 z13 z14 z15 z16) (f151.H0_e1 z11 z12 z13 z14 z15 z16)
def f151.R0 {R : Type} (rec : KT R) := fun s4 s5 s6 s7 s8 s9 s10 => rec (f151.T0 s4 s5 s6 s7 s8 s9 s10) (f151.H0 s4 s5 s6 s7 s8 s9 s10)
theorem f151.s0_eq {R : Type} (L N m : Nat) (κ : KX R) (rec : KT R) (s4 : Int) (s5 : Int) (s6 : Int) (s7 : LT) (s8 : LS) (s9 : LS) (s10 : LS) :
    evRd (E151 L N m) (evCallI (E151 L N m) 1 2000) 1000 151 217 1 f151.c0 κ rec (f151.T0 s4 s5 s6 s7 s8 s9 s10) (f151.H0 s4 s5 s6 s7 s8 s9 s10)
    = f151.s0 L N (f151 L N m) (f151.X0_e1 κ) (f151.R0 rec) s4 s5 s6 s7 s8 s9 s10 := by kernel_rfl
theorem f151.l0_eq {R : Type} (L N m : Nat) (κ : KX R) : ∀ (n : Nat) (s4 : Int) (s5 : Int) (s6 : Int) (s7 : LT) (s8 : LS) (s9 : LS) (s10 : LS),
    evLp (E151 L N m) (evCallI (E151 L N m) 1 2000) 1000 151 217 1 f151.c0 κ n (f151.T0 s4 s5 s6 s7 s8 s9 s10) (f151.H0 s4 s5 s6 s7 s8 s9 s10)
    = f151.l0 L N (f151 L N m) (f151.X0_e1 κ) n s4 s5 s6 s7 s8 s9 s10 := by
  intro n
  induction n with
  | zero => intros; rfl
  | succ n ih =>
    intro s4 s5 s6 s7 s8 s9 s10
    rw [evLp_succ, f151.s0_eq]
    delta f151.R0
    simp only [ih]
    rfl
noncomputable def f151.c1 : Code := loopAt 3 (codeOf Try.f151)
def f151.X1_e3 {R : Type} (κ : KX R) := fun z24 z25 z26 => κ (.exit 3) (f151.T1_e3 z24 z25 z26) (f151.H1_e3 z24 z25 z26)
def f151.R1 {R : Type} (rec : KT R) := fun s17 s18 s19 s20 s21 s22 s23 => rec (f151.T1 s17 s18 s19 s20 s21 s22 s23) (f151.H1 s17 s18 s19 s20 s21 s22 s23)
theorem f151.s1_eq {R : Type} (L N m : Nat) (κ : KX R) (rec : KT R) (s17 : Int) (s18 : Int) (s19 : Int) (s20 : LT) (s21 : LS) (s22 : LS) (s23 : LS) :
    evRd (E151 L N m) (evCallI (E151 L N m) 1 2000) 1000 151 217 3 f151.c1 κ rec (f151.T1 s17 s18 s19 s20 s21 s22 s23) (f151.H1 s17 s18 s19 s20 s21 s22 s23)
    = f151.s1 L N (f151 L N m) (f151.X1_e3 κ) (f151.R1 rec) s17 s18 s19 s20 s21 s22 s23 := by kernel_rfl
theorem f151.l1_eq {R : Type} (L N m : Nat) (κ : KX R) : ∀ (n : Nat) (s17 : Int) (s18 : Int) (s19 : Int) (s20 : LT) (s21 : LS) (s22 : LS) (s23 : LS),
    evLp (E151 L N m) (evCallI (E151 L N m) 1 2000) 1000 151 217 3 f151.c1 κ n (f151.T1 s17 s18 s19 s20 s21 s22 s23) (f151.H1 s17 s18 s19 s20 s21 s22 s23)
    = f151.l1 L N (f151 L N m) (f151.X1_e3 κ) n s17 s18 s19 s20 s21 s22 s23 := by
  intro n
  induction n with
  | zero => intros; rfl
  | succ n ih =>
    intro s17 s18 s19 s20 s21 s22 s23
    rw [evLp_succ, f151.s1_eq]
    delta f151.R1
    simp only [ih]
    rfl
noncomputable def f151.c2 : Code := loopAt 5 (codeOf Try.f151)
noncomputable def f151.c3 : Code := loopAt 7 f151.c2
def f151.X3_e7 {R : Type} (κ : KX R) := fun z37 z38 z39 z40 => κ (.exit 7) (f151.T3_e7 z37 z38 z39 z40) (f151.H3_e7 z37 z38 z39 z40)
def f151.R3 {R : Type} (rec : KT R) := fun s32 s33 s34 s35 s36 => rec (f151.T3 s32 s33 s34 s35 s36) (f151.H3 s32 s33 s34 s35 s36)
theorem f151.s3_eq {R : Type} (L N m : Nat) (κ : KX R) (rec : KT R) (s32 : Int) (s33 : Int) (s34 : LS) (s35 : LS) (s36 : LS) :
    evRd (E151 L N m) (evCallI (E151 L N m) 1 2000) 1000 151 217 7 f151.c3 κ rec (f151.T3 s32 s33 s34 s35 s36) (f151.H3 s32 s33 s34 s35 s36)
    = f151.s3 L N (f151 L N m) (f151.X3_e7 κ) (f151.R3 rec) s32 s33 s34 s35 s36 := by kernel_rfl
theorem f151.l3_eq {R : Type} (L N m : Nat) (κ : KX R) : ∀ (n : Nat) (s32 : Int) (s33 : Int) (s34 : LS) (s35 : LS) (s36 : LS),
    evLp (E151 L N m) (evCallI (E151 L N m) 1 2000) 1000 151 217 7 f151.c3 κ n (f151.T3 s32 s33 s34 s35 s36) (f151.H3 s32 s33 s34 s35 s36)
    = f151.l3 L N (f151 L N m) (f151.X3_e7 κ) n s32 s33 s34 s35 s36 := by
  intro n
  induction n with
  | zero => intros; rfl
  | succ n ih =>
    intro s32 s33 s34 s35 s36
    rw [evLp_succ, f151.s3_eq]
    delta f151.R3
    simp only [ih]
    rfl
def f151.X2_e5 {R : Type} (κ : KX R) := fun z31 => κ (.exit 5) (f151.T2_e5 z31) (f151.H2_e5 z31)
def f151.R2 {R : Type} (rec : KT R) := fun s27 s28 s29 s30 => rec (f151.T2 s27 s28 s29 s30) (f151.H2 s27 s28 s29 s30)
theorem f151.p3_e7_eq {R : Type} (L N m : Nat) (κ : KX R) (rec : KT R) (z37 : Int) (z38 : LS) (z39 : LS) (z40 : LS) :
    (contAt (E151 L N m) (evCallI (E151 L N m) 1 2000) 1000 151 217 7 f151.c2 (rdK (E151 L N m) 1000 151 217 5 κ rec)) (.exit 7) (f151.T3_e7 z37 z38 z39 z40) (f151.H3_e7 z37 z38 z39 z40)
    = f151.p3_e7 L N (f151 L N m) (f151.X2_e5 κ) (f151.R2 rec) z37 z38 z39 z40 := by kernel_rfl
theorem f151.s2_eq {R : Type} (L N m : Nat) (κ : KX R) (rec : KT R) (s27 : Int) (s28 : LS) (s29 : LS) (s30 : LS) :
    evRd (E151 L N m) (evCallI (E151 L N m) 1 2000) 1000 151 217 5 f151.c2 κ rec (f151.T2 s27 s28 s29 s30) (f151.H2 s27 s28 s29 s30)
    = f151.s2 L N (f151 L N m) (f151.X2_e5 κ) (f151.R2 rec) s27 s28 s29 s30 := by
  refine Eq.trans (b := f151.s2' L N (f151 L N m) (f151.X2_e5 κ) (f151.R2 rec) (fun s32 s33 s34 s35 s36 => evLp (E151 L N m) (evCallI (E151 L N m) 1 2000) 1000 151 217 7 f151.c3 (contAt (E151 L N m) (evCallI (E151 L N m) 1 2000) 1000 151 217 7 f151.c2 (rdK (E151 L N m) 1000 151 217 5 κ rec)) L (f151.T3 s32 s33 s34 s35 s36) (f151.H3 s32 s33 s34 s35 s36)) s27 s28 s29 s30) (by kernel_rfl) ?_
  unfold f151.s2
  simp only [f151.l3_eq]
  delta f151.X3_e7
  simp only [f151.p3_e7_eq]
theorem f151.l2_eq {R : Type} (L N m : Nat) (κ : KX R) : ∀ (n : Nat) (s27 : Int) (s28 : LS) (s29 : LS) (s30 : LS),
    evLp (E151 L N m) (evCallI (E151 L N m) 1 2000) 1000 151 217 5 f151.c2 κ n (f151.T2 s27 s28 s29 s30) (f151.H2 s27 s28 s29 s30)
    = f151.l2 L N (f151 L N m) (f151.X2_e5 κ) n s27 s28 s29 s30 := by
  intro n
  induction n with
  | zero => intros; rfl
  | succ n ih =>
    intro s27 s28 s29 s30
    rw [evLp_succ, f151.s2_eq]
    delta f151.R2
    simp only [ih]
    rfl
theorem f151.p2_e5_eq {R : Type} (L N m : Nat) (κ : List Step → Option R) (z31 : LS) :
    (contAt (E151 L N m) (evCallI (E151 L N m) 1 2000) 1000 151 217 5 (codeOf Try.f151) (finK (E151 L N m) 1000 Try.f151 (finRow 146 (.st 3) κ))) (.exit 5) (f151.T2_e5 z31) (f151.H2_e5 z31)
    = f151.p2_e5 L N (f151 L N m) κ z31 := by kernel_rfl
theorem f151.p1_e3_eq {R : Type} (L N m : Nat) (κ : List Step → Option R) (z24 : LS) (z25 : LS) (z26 : LS) :
    (contAt (E151 L N m) (evCallI (E151 L N m) 1 2000) 1000 151 217 3 (codeOf Try.f151) (finK (E151 L N m) 1000 Try.f151 (finRow 146 (.st 3) κ))) (.exit 3) (f151.T1_e3 z24 z25 z26) (f151.H1_e3 z24 z25 z26)
    = f151.p1_e3 L N (f151 L N m) κ z24 z25 z26 := by
  refine Eq.trans (b := f151.p1_e3' L N (f151 L N m) κ (fun s27 s28 s29 s30 => evLp (E151 L N m) (evCallI (E151 L N m) 1 2000) 1000 151 217 5 f151.c2 (contAt (E151 L N m) (evCallI (E151 L N m) 1 2000) 1000 151 217 5 (codeOf Try.f151) (finK (E151 L N m) 1000 Try.f151 (finRow 146 (.st 3) κ))) L (f151.T2 s27 s28 s29 s30) (f151.H2 s27 s28 s29 s30)) z24 z25 z26) (by kernel_rfl) ?_
  unfold f151.p1_e3
  simp only [f151.l2_eq]
  delta f151.X2_e5
  simp only [f151.p2_e5_eq]
theorem f151.p0_e1_eq {R : Type} (L N m : Nat) (κ : List Step → Option R) (z11 : Int) (z12 : Int) (z13 : LT) (z14 : LS) (z15 : LS) (z16 : LS) :
    (contAt (E151 L N m) (evCallI (E151 L N m) 1 2000) 1000 151 217 1 (codeOf Try.f151) (finK (E151 L N m) 1000 Try.f151 (finRow 146 (.st 3) κ))) (.exit 1) (f151.T0_e1 z11 z12 z13 z14 z15 z16) (f151.H0_e1 z11 z12 z13 z14 z15 z16)
    = f151.p0_e1 L N (f151 L N m) κ z11 z12 z13 z14 z15 z16 := by
  refine Eq.trans (b := f151.p0_e1' L N (f151 L N m) κ (fun s17 s18 s19 s20 s21 s22 s23 => evLp (E151 L N m) (evCallI (E151 L N m) 1 2000) 1000 151 217 3 f151.c1 (contAt (E151 L N m) (evCallI (E151 L N m) 1 2000) 1000 151 217 3 (codeOf Try.f151) (finK (E151 L N m) 1000 Try.f151 (finRow 146 (.st 3) κ))) L (f151.T1 s17 s18 s19 s20 s21 s22 s23) (f151.H1 s17 s18 s19 s20 s21 s22 s23)) z11 z12 z13 z14 z15 z16) (by kernel_rfl) ?_
  unfold f151.p0_e1
  simp only [f151.l1_eq]
  delta f151.X1_e3
  simp only [f151.p1_e3_eq]
noncomputable def f151.c4 : Code := loopAt 9 (codeOf Try.f151)
def f151.X4_e9 {R : Type} (κ : KX R) := fun z59 => κ (.exit 9) (f151.T4_e9 z59) (f151.H4_e9 z59)
def f151.R4 {R : Type} (rec : KT R) := fun s53 s54 s55 s56 s57 s58 => rec (f151.T4 s53 s54 s55 s56 s57 s58) (f151.H4 s53 s54 s55 s56 s57 s58)
theorem f151.s4_eq {R : Type} (L N m : Nat) (κ : KX R) (rec : KT R) (s53 : Int) (s54 : Int) (s55 : Int) (s56 : LT) (s57 : LS) (s58 : LS) :
    evRd (E151 L N m) (evCallI (E151 L N m) 1 2000) 1000 151 217 9 f151.c4 κ rec (f151.T4 s53 s54 s55 s56 s57 s58) (f151.H4 s53 s54 s55 s56 s57 s58)
    = f151.s4 L N (f151 L N m) (f151.X4_e9 κ) (f151.R4 rec) s53 s54 s55 s56 s57 s58 := by kernel_rfl
theorem f151.l4_eq {R : Type} (L N m : Nat) (κ : KX R) : ∀ (n : Nat) (s53 : Int) (s54 : Int) (s55 : Int) (s56 : LT) (s57 : LS) (s58 : LS),
    evLp (E151 L N m) (evCallI (E151 L N m) 1 2000) 1000 151 217 9 f151.c4 κ n (f151.T4 s53 s54 s55 s56 s57 s58) (f151.H4 s53 s54 s55 s56 s57 s58)
    = f151.l4 L N (f151 L N m) (f151.X4_e9 κ) n s53 s54 s55 s56 s57 s58 := by
  intro n
  induction n with
  | zero => intros; rfl
  | succ n ih =>
    intro s53 s54 s55 s56 s57 s58
    rw [evLp_succ, f151.s4_eq]
    delta f151.R4
    simp only [ih]
    rfl
theorem f151.p4_e9_eq {R : Type} (L N m : Nat) (κ : List Step → Option R) (z59 : LS) :
    (contAt (E151 L N m) (evCallI (E151 L N m) 1 2000) 1000 151 217 9 (codeOf Try.f151) (finK (E151 L N m) 1000 Try.f151 (finRow 146 (.st 3) κ))) (.exit 9) (f151.T4_e9 z59) (f151.H4_e9 z59)
    = f151.p4_e9 L N (f151 L N m) κ z59 := by kernel_rfl
theorem f151.b_eq {R : Type} (L N m : Nat) (κ : List Step → Option R) (x0 : Tree) (x1 : LT) :
    evBody (E151 L N m) (evCallI (E151 L N m) 1 2000) 1000 151 Try.f151 [(.tv (.st 1) x0), (.tv (.sl (.st 1)) x1)] [] [] (finRow 146 (.st 3) κ)
    = f151.b L N (f151 L N m) κ x0 x1 := by
  refine Eq.trans (b := f151.b' L N (f151 L N m) κ (fun s4 s5 s6 s7 s8 s9 s10 => evLp (E151 L N m) (evCallI (E151 L N m) 1 2000) 1000 151 217 1 f151.c0 (contAt (E151 L N m) (evCallI (E151 L N m) 1 2000) 1000 151 217 1 (codeOf Try.f151) (finK (E151 L N m) 1000 Try.f151 (finRow 146 (.st 3) κ))) L (f151.T0 s4 s5 s6 s7 s8 s9 s10) (f151.H0 s4 s5 s6 s7 s8 s9 s10)) (fun s53 s54 s55 s56 s57 s58 => evLp (E151 L N m) (evCallI (E151 L N m) 1 2000) 1000 151 217 9 f151.c4 (contAt (E151 L N m) (evCallI (E151 L N m) 1 2000) 1000 151 217 9 (codeOf Try.f151) (finK (E151 L N m) 1000 Try.f151 (finRow 146 (.st 3) κ))) L (f151.T4 s53 s54 s55 s56 s57 s58) (f151.H4 s53 s54 s55 s56 s57 s58)) x0 x1) (by kernel_rfl) ?_
  unfold f151.b
  simp only [f151.l0_eq, f151.l4_eq]
  delta f151.X0_e1 f151.X4_e9
  simp only [f151.p0_e1_eq, f151.p4_e9_eq]
theorem f151.ok (L N m : Nat) (hΦ : TellsOk Try.prog (Φ151s L N m)) : EntOk Try.prog 151 (f151.ent L N (m + 1)) := by
  intro args vw site h
  unfold f151.ent
  split
  · rename_i d u ha
    intro y hy hs
    refine call_row (dep := 1000) (E := (E151 L N m)) (sound_of hΦ) okP (callI_sound (sound_of hΦ) okP 1 2000) (f := Try.f151) rfl hs ha ?_ site
    exact (f151.b_eq L N m some d.1 d.2.1).trans hy
  · intro y hy
    cases hy
theorem Φ151s_ok (L N : Nat) : ∀ m, TellsOk Try.prog (Φ151s L N m) := by
  intro m
  induction m with
  | zero => exact (addT_ok (Φ150_ok L N) (fun args vw site h => by unfold f151.ent; split <;> (intro y hy; cases hy)))
  | succ m ih => exact (addT_ok (Φ150_ok L N) (f151.ok L N m ih))
def Φ151 (L N : Nat) : Tells := (addT (Φ150 L N) 151 (f151.ent L N N))
theorem Φ151_ok (L N : Nat) : TellsOk Try.prog (Φ151 L N) := Φ151s_ok L N N
def f133.s2' {R : Type} (L N : Nat) (k2_e4 : LT → Int → Int → ByteArray → Int → LT → LY → LS → LM → LLM → Option R) (rec2 : LT → Int → Int → ByteArray → Int → LT → LY → LS → LM → LLM → Option R) (s23 : LT) (s24 : Int) (s25 : Int) (s26 : ByteArray) (s27 : Int) (s28 : LT) (s29 : LY) (s30 : LS) (s31 : LM) (s32 : LLM) : Option R :=
  bif (decide (s27 < (s29.length : Int))) then
    bif (decide (0 ≤ s27) && decide (s27 < (s29.length : Int))) then
      bif (!((listAt s29 ByteArray.empty s27.toNat).toList == s26.toList)) then
        rec2 s23 s24 s25 s26 (wi (s27 + (1 : Int))) s28 s29 s30 s31 s32
      else k2_e4 s23 s24 s25 s26 s27 s28 s29 s30 s31 s32
    else none
  else k2_e4 s23 s24 s25 s26 s27 s28 s29 s30 s31 s32
def f133.s2 {R : Type} (L N : Nat) (k2_e4 : LT → Int → Int → ByteArray → Int → LT → LY → LS → LM → LLM → Option R) (rec2 : LT → Int → Int → ByteArray → Int → LT → LY → LS → LM → LLM → Option R) (s23 : LT) (s24 : Int) (s25 : Int) (s26 : ByteArray) (s27 : Int) (s28 : LT) (s29 : LY) (s30 : LS) (s31 : LM) (s32 : LLM) : Option R :=
  f133.s2' L N k2_e4 rec2 s23 s24 s25 s26 s27 s28 s29 s30 s31 s32
def f133.l2 {R : Type} (L N : Nat) (k2_e4 : LT → Int → Int → ByteArray → Int → LT → LY → LS → LM → LLM → Option R) : Nat → LT → Int → Int → ByteArray → Int → LT → LY → LS → LM → LLM → Option R
  | 0, _, _, _, _, _, _, _, _, _, _ => none
  | n + 1, s23, s24, s25, s26, s27, s28, s29, s30, s31, s32 => f133.s2 L N k2_e4 (f133.l2 L N k2_e4 n) s23 s24 s25 s26 s27 s28 s29 s30 s31 s32
def f133.T2 (s23 : LT) (s24 : Int) (s25 : Int) (s26 : ByteArray) (s27 : Int) (s28 : LT) (s29 : LY) (s30 : LS) (s31 : LM) (s32 : LLM) : T := mkT 106 [(1, (.tv (.sl (.st 1)) s23)), (4, (.ptr 1004 0)), (6, (.row 1016)), (7, (.row 1019)), (8, (.ptr 1008 0)), (9, (.tv i64 s24)), (10, (.row 1032)), (11, (.row 1033)), (12, (.tv i64 s25)), (13, (.tv .str s26)), (14, (.tv i64 s27))]
def f133.H2 (s23 : LT) (s24 : Int) (s25 : Int) (s26 : ByteArray) (s27 : Int) (s28 : LT) (s29 : LY) (s30 : LS) (s31 : LM) (s32 : LLM) : H := [(1004, (.box [.nil])), (1008, (.box [(.row 1900)])), (1016, (.row 110 (.st 1) s28)), (1019, (.row 9 .str s29)), (1032, (.row 146 (.st 3) s30)), (1033, (.row 53 (.st 0) s31)), (1900, (.row 51 (.sl (.st 0)) s32))]
def f133.T2_e4 (z44 : LT) (z45 : Int) (z46 : Int) (z47 : ByteArray) (z48 : Int) (z49 : LT) (z50 : LY) (z51 : LS) (z52 : LM) (z53 : LLM) : T := mkT 106 [(1, (.tv (.sl (.st 1)) z44)), (4, (.ptr 1004 0)), (6, (.row 1016)), (7, (.row 1019)), (8, (.ptr 1008 0)), (9, (.tv i64 z45)), (10, (.row 1032)), (11, (.row 1033)), (12, (.tv i64 z46)), (13, (.tv .str z47)), (14, (.tv i64 z48))]
def f133.H2_e4 (z44 : LT) (z45 : Int) (z46 : Int) (z47 : ByteArray) (z48 : Int) (z49 : LT) (z50 : LY) (z51 : LS) (z52 : LM) (z53 : LLM) : H := [(1004, (.box [.nil])), (1008, (.box [(.row 1900)])), (1016, (.row 110 (.st 1) z49)), (1019, (.row 9 .str z50)), (1032, (.row 146 (.st 3) z51)), (1033, (.row 53 (.st 0) z52)), (1900, (.row 51 (.sl (.st 0)) z53))]
def f133.j1' {R : Type} (L N : Nat) (k1_e2 : LT → Int → LT → LY → LM → LLM → Option R) (k1_r : LT → Bool → Int → LT → LY → LM → LLM → Option R) (rec1 : LT → Int → Int → LT → LY → LS → LM → LLM → Option R) (v93 : LT) (v94 : Int) (v95 : Int) (v96 : Int) (v97 : LT) (v98 : LY) (v99 : LS) (v100 : LM) (v101 : LLM) : Option R :=
  bif (decide (0 ≤ v95) && decide (v95 < (v99.length : Int))) then
    bif (decide (v100.length + ([(Move.mk ((listAt v99 (Ty.dflt (.st 3)) v95.toNat).act) v96)] : LM).length ≤ lim)) then
      rec1 v93 v94 (wi (v95 + (1 : Int))) v97 v98 v99 (v100 ++ ([(Move.mk ((listAt v99 (Ty.dflt (.st 3)) v95.toNat).act) v96)] : LM)) v101
    else none
  else none
def f133.j0' {R : Type} (L N : Nat) (k1_e2 : LT → Int → LT → LY → LM → LLM → Option R) (k1_r : LT → Bool → Int → LT → LY → LM → LLM → Option R) (rec1 : LT → Int → Int → LT → LY → LS → LM → LLM → Option R) (v83 : LT) (v84 : Int) (v85 : Int) (v86 : ByteArray) (v87 : Int) (v88 : LT) (v89 : LY) (v90 : LS) (v91 : LM) (v92 : LLM) : Option R :=
  bif (decide (0 ≤ v85) && decide (v85 < (v90.length : Int))) then
    bif (decide (v88.length + ([(Tree.mk ((listAt v90 (Ty.dflt (.st 3)) v85.toNat).thn.op) ((listAt v90 (Ty.dflt (.st 3)) v85.toNat).thn.n) ((listAt v90 (Ty.dflt (.st 3)) v85.toNat).thn.parts))] : LT).length ≤ lim)) then
      bif (decide (v89.length + ([v86] : LY).length ≤ lim)) then
        f133.j1' L N k1_e2 k1_r rec1 v83 v84 v85 v87 (v88 ++ ([(Tree.mk ((listAt v90 (Ty.dflt (.st 3)) v85.toNat).thn.op) ((listAt v90 (Ty.dflt (.st 3)) v85.toNat).thn.n) ((listAt v90 (Ty.dflt (.st 3)) v85.toNat).thn.parts))] : LT)) (v89 ++ ([v86] : LY)) v90 v91 v92
      else none
    else none
  else none
def f133.p2_e4' {R : Type} (L N : Nat) (k1_e2 : LT → Int → LT → LY → LM → LLM → Option R) (k1_r : LT → Bool → Int → LT → LY → LM → LLM → Option R) (rec1 : LT → Int → Int → LT → LY → LS → LM → LLM → Option R) (z44 : LT) (z45 : Int) (z46 : Int) (z47 : ByteArray) (z48 : Int) (z49 : LT) (z50 : LY) (z51 : LS) (z52 : LM) (z53 : LLM) : Option R :=
  bif (z48 == (z50.length : Int)) then
    bif (z48 == (60 : Int)) then
      k1_r z44 false z45 z49 z50 z52 z53
    else bif (decide (0 ≤ z46) && decide (z46 < (z51.length : Int))) then
      (f152 L N N (Tree.mk ((listAt z51 (Ty.dflt (.st 3)) z46.toNat).thn.op) ((listAt z51 (Ty.dflt (.st 3)) z46.toNat).thn.n) ((listAt z51 (Ty.dflt (.st 3)) z46.toNat).thn.parts))).bind fun y64 =>
      bif (decide (y64 > (24 : Int))) then
        k1_r z44 false z45 z49 z50 z52 z53
      else f133.j0' L N k1_e2 k1_r rec1 z44 z45 z46 z47 z48 z49 z50 z51 z52 z53
    else none
  else f133.j1' L N k1_e2 k1_r rec1 z44 z45 z46 z48 z49 z50 z51 z52 z53
def f133.p2_e4 {R : Type} (L N : Nat) (k1_e2 : LT → Int → LT → LY → LM → LLM → Option R) (k1_r : LT → Bool → Int → LT → LY → LM → LLM → Option R) (rec1 : LT → Int → Int → LT → LY → LS → LM → LLM → Option R) (z44 : LT) (z45 : Int) (z46 : Int) (z47 : ByteArray) (z48 : Int) (z49 : LT) (z50 : LY) (z51 : LS) (z52 : LM) (z53 : LLM) : Option R :=
  f133.p2_e4' L N k1_e2 k1_r rec1 z44 z45 z46 z47 z48 z49 z50 z51 z52 z53
def f133.s1' {R : Type} (L N : Nat) (k1_e2 : LT → Int → LT → LY → LM → LLM → Option R) (k1_r : LT → Bool → Int → LT → LY → LM → LLM → Option R) (rec1 : LT → Int → Int → LT → LY → LS → LM → LLM → Option R) (w2 : LT → Int → Int → ByteArray → Int → LT → LY → LS → LM → LLM → Option R) (s8 : LT) (s9 : Int) (s10 : Int) (s11 : LT) (s12 : LY) (s13 : LS) (s14 : LM) (s15 : LLM) : Option R :=
  bif (decide (s10 < (s13.length : Int))) then
    bif (decide (0 ≤ s10) && decide (s10 < (s13.length : Int))) then
      (f150 L N N (Tree.mk ((listAt s13 (Ty.dflt (.st 3)) s10.toNat).thn.op) ((listAt s13 (Ty.dflt (.st 3)) s10.toNat).thn.n) ((listAt s13 (Ty.dflt (.st 3)) s10.toNat).thn.parts))).bind fun y22 =>
      w2 s8 s9 s10 y22 (0 : Int) s11 s12 s13 s14 s15
    else none
  else k1_e2 s8 s9 s11 s12 s14 s15
def f133.s1 {R : Type} (L N : Nat) (k1_e2 : LT → Int → LT → LY → LM → LLM → Option R) (k1_r : LT → Bool → Int → LT → LY → LM → LLM → Option R) (rec1 : LT → Int → Int → LT → LY → LS → LM → LLM → Option R) (s8 : LT) (s9 : Int) (s10 : Int) (s11 : LT) (s12 : LY) (s13 : LS) (s14 : LM) (s15 : LLM) : Option R :=
  f133.s1' L N k1_e2 k1_r rec1 (fun s23 s24 s25 s26 s27 s28 s29 s30 s31 s32 => f133.l2 L N (fun z44 z45 z46 z47 z48 z49 z50 z51 z52 z53 => f133.p2_e4 L N k1_e2 k1_r rec1 z44 z45 z46 z47 z48 z49 z50 z51 z52 z53) L s23 s24 s25 s26 s27 s28 s29 s30 s31 s32) s8 s9 s10 s11 s12 s13 s14 s15
def f133.l1 {R : Type} (L N : Nat) (k1_e2 : LT → Int → LT → LY → LM → LLM → Option R) (k1_r : LT → Bool → Int → LT → LY → LM → LLM → Option R) : Nat → LT → Int → Int → LT → LY → LS → LM → LLM → Option R
  | 0, _, _, _, _, _, _, _, _ => none
  | n + 1, s8, s9, s10, s11, s12, s13, s14, s15 => f133.s1 L N k1_e2 k1_r (f133.l1 L N k1_e2 k1_r n) s8 s9 s10 s11 s12 s13 s14 s15
def f133.T1 (s8 : LT) (s9 : Int) (s10 : Int) (s11 : LT) (s12 : LY) (s13 : LS) (s14 : LM) (s15 : LLM) : T := mkT 106 [(1, (.tv (.sl (.st 1)) s8)), (4, (.ptr 1004 0)), (6, (.row 1016)), (7, (.row 1019)), (8, (.ptr 1008 0)), (9, (.tv i64 s9)), (10, (.row 1032)), (11, (.row 1033)), (12, (.tv i64 s10))]
def f133.H1 (s8 : LT) (s9 : Int) (s10 : Int) (s11 : LT) (s12 : LY) (s13 : LS) (s14 : LM) (s15 : LLM) : H := [(1004, (.box [.nil])), (1008, (.box [(.row 1900)])), (1016, (.row 110 (.st 1) s11)), (1019, (.row 9 .str s12)), (1032, (.row 146 (.st 3) s13)), (1033, (.row 53 (.st 0) s14)), (1900, (.row 51 (.sl (.st 0)) s15))]
def f133.T1_e2 (z16 : LT) (z17 : Int) (z18 : LT) (z19 : LY) (z20 : LM) (z21 : LLM) : T := mkT 106 [(1, (.tv (.sl (.st 1)) z16)), (4, (.ptr 1004 0)), (6, (.row 1016)), (7, (.row 1019)), (8, (.ptr 1008 0)), (9, (.tv i64 z17)), (11, (.row 1033))]
def f133.H1_e2 (z16 : LT) (z17 : Int) (z18 : LT) (z19 : LY) (z20 : LM) (z21 : LLM) : H := [(1004, (.box [.nil])), (1008, (.box [(.row 1900)])), (1016, (.row 110 (.st 1) z18)), (1019, (.row 9 .str z19)), (1033, (.row 53 (.st 0) z20)), (1900, (.row 51 (.sl (.st 0)) z21))]
def f133.T1_r (z76 : LT) (z77 : Bool) (z78 : Int) (z79 : LT) (z80 : LY) (z81 : LM) (z82 : LLM) : T := mkT 106 [(1, (.tv (.sl (.st 1)) z76)), (4, (.ptr 1004 0)), (5, (.tv .bool z77)), (6, (.row 1016)), (7, (.row 1019)), (8, (.ptr 1008 0)), (9, (.tv i64 z78)), (11, (.row 1033))]
def f133.H1_r (z76 : LT) (z77 : Bool) (z78 : Int) (z79 : LT) (z80 : LY) (z81 : LM) (z82 : LLM) : H := [(1004, (.box [.nil])), (1008, (.box [(.row 1900)])), (1016, (.row 110 (.st 1) z79)), (1019, (.row 9 .str z80)), (1033, (.row 53 (.st 0) z81)), (1900, (.row 51 (.sl (.st 0)) z82))]
def f133.p1_e2' {R : Type} (L N : Nat) (k0_e0 : LLM → Option R) (k0_r : Bool → LLM → Option R) (rec0 : LT → Int → LT → LY → LLM → Option R) (z16 : LT) (z17 : Int) (z18 : LT) (z19 : LY) (z20 : LM) (z21 : LLM) : Option R :=
  (f123 L N z20).bind fun y104 =>
  bif (decide (z21.length + ([y104] : LLM).length ≤ lim)) then
    rec0 z16 (wi (z17 + (1 : Int))) z18 z19 (z21 ++ ([y104] : LLM))
  else none
def f133.p1_e2 {R : Type} (L N : Nat) (k0_e0 : LLM → Option R) (k0_r : Bool → LLM → Option R) (rec0 : LT → Int → LT → LY → LLM → Option R) (z16 : LT) (z17 : Int) (z18 : LT) (z19 : LY) (z20 : LM) (z21 : LLM) : Option R :=
  f133.p1_e2' L N k0_e0 k0_r rec0 z16 z17 z18 z19 z20 z21
def f133.p1_r' {R : Type} (L N : Nat) (k0_e0 : LLM → Option R) (k0_r : Bool → LLM → Option R) (rec0 : LT → Int → LT → LY → LLM → Option R) (z76 : LT) (z77 : Bool) (z78 : Int) (z79 : LT) (z80 : LY) (z81 : LM) (z82 : LLM) : Option R :=
  k0_r z77 z82
def f133.p1_r {R : Type} (L N : Nat) (k0_e0 : LLM → Option R) (k0_r : Bool → LLM → Option R) (rec0 : LT → Int → LT → LY → LLM → Option R) (z76 : LT) (z77 : Bool) (z78 : Int) (z79 : LT) (z80 : LY) (z81 : LM) (z82 : LLM) : Option R :=
  f133.p1_r' L N k0_e0 k0_r rec0 z76 z77 z78 z79 z80 z81 z82
def f133.s0' {R : Type} (L N : Nat) (k0_e0 : LLM → Option R) (k0_r : Bool → LLM → Option R) (rec0 : LT → Int → LT → LY → LLM → Option R) (w1 : LT → Int → Int → LT → LY → LS → LM → LLM → Option R) (s1 : LT) (s2 : Int) (s3 : LT) (s4 : LY) (s5 : LLM) : Option R :=
  bif (decide (s2 < (s3.length : Int))) then
    bif (decide (0 ≤ s2) && decide (s2 < (s3.length : Int))) then
      (f151 L N N (listAt s3 (Ty.dflt (.st 1)) s2.toNat) s1).bind fun y7 =>
      w1 s1 s2 (0 : Int) s3 s4 y7 ([] : LM) s5
    else none
  else k0_e0 s5
def f133.s0 {R : Type} (L N : Nat) (k0_e0 : LLM → Option R) (k0_r : Bool → LLM → Option R) (rec0 : LT → Int → LT → LY → LLM → Option R) (s1 : LT) (s2 : Int) (s3 : LT) (s4 : LY) (s5 : LLM) : Option R :=
  f133.s0' L N k0_e0 k0_r rec0 (fun s8 s9 s10 s11 s12 s13 s14 s15 => f133.l1 L N (fun z16 z17 z18 z19 z20 z21 => f133.p1_e2 L N k0_e0 k0_r rec0 z16 z17 z18 z19 z20 z21) (fun z76 z77 z78 z79 z80 z81 z82 => f133.p1_r L N k0_e0 k0_r rec0 z76 z77 z78 z79 z80 z81 z82) L s8 s9 s10 s11 s12 s13 s14 s15) s1 s2 s3 s4 s5
def f133.l0 {R : Type} (L N : Nat) (k0_e0 : LLM → Option R) (k0_r : Bool → LLM → Option R) : Nat → LT → Int → LT → LY → LLM → Option R
  | 0, _, _, _, _, _ => none
  | n + 1, s1, s2, s3, s4, s5 => f133.s0 L N k0_e0 k0_r (f133.l0 L N k0_e0 k0_r n) s1 s2 s3 s4 s5
def f133.T0 (s1 : LT) (s2 : Int) (s3 : LT) (s4 : LY) (s5 : LLM) : T := mkT 106 [(1, (.tv (.sl (.st 1)) s1)), (4, (.ptr 1004 0)), (6, (.row 1016)), (7, (.row 1019)), (8, (.ptr 1008 0)), (9, (.tv i64 s2))]
def f133.H0 (s1 : LT) (s2 : Int) (s3 : LT) (s4 : LY) (s5 : LLM) : H := [(1004, (.box [.nil])), (1008, (.box [(.row 1900)])), (1016, (.row 110 (.st 1) s3)), (1019, (.row 9 .str s4)), (1900, (.row 51 (.sl (.st 0)) s5))]
def f133.T0_e0 (z6 : LLM) : T := mkT 106 [(4, (.ptr 1004 0)), (8, (.ptr 1008 0))]
def f133.H0_e0 (z6 : LLM) : H := [(1004, (.box [.nil])), (1008, (.box [(.row 1900)])), (1900, (.row 51 (.sl (.st 0)) z6))]
def f133.T0_r (z102 : Bool) (z103 : LLM) : T := mkT 106 [(4, (.ptr 1004 0)), (5, (.tv .bool z102)), (8, (.ptr 1008 0))]
def f133.H0_r (z102 : Bool) (z103 : LLM) : H := [(1004, (.box [.nil])), (1008, (.box [(.row 1900)])), (1900, (.row 51 (.sl (.st 0)) z103))]
def f133.p0_e0' {R : Type} (L N : Nat) (k : Graph → Bool → Option R) (z6 : LLM) : Option R :=
  k (Graph.mk z6) true
def f133.p0_e0 {R : Type} (L N : Nat) (k : Graph → Bool → Option R) (z6 : LLM) : Option R :=
  f133.p0_e0' L N k z6
def f133.p0_r' {R : Type} (L N : Nat) (k : Graph → Bool → Option R) (z102 : Bool) (z103 : LLM) : Option R :=
  k (Graph.mk []) z102
def f133.p0_r {R : Type} (L N : Nat) (k : Graph → Bool → Option R) (z102 : Bool) (z103 : LLM) : Option R :=
  f133.p0_r' L N k z102 z103
def f133.b' {R : Type} (L N : Nat) (k : Graph → Bool → Option R) (w0 : LT → Int → LT → LY → LLM → Option R) (x0 : Tree) (x1 : LT) : Option R :=
  (f150 L N N (Tree.mk x0.op x0.n x0.parts)).bind fun y0 =>
  w0 x1 (0 : Int) ([(Tree.mk x0.op x0.n x0.parts)] : LT) ([y0] : LY) ([] : LLM)
def f133.b {R : Type} (L N : Nat) (k : Graph → Bool → Option R) (x0 : Tree) (x1 : LT) : Option R :=
  f133.b' L N k (fun s1 s2 s3 s4 s5 => f133.l0 L N (fun z6 => f133.p0_e0 L N k z6) (fun z102 z103 => f133.p0_r L N k z102 z103) L s1 s2 s3 s4 s5) x0 x1
def f133 (L N : Nat) (x0 : Tree) (x1 : LT) : Option (Graph × Bool) := f133.b L N (fun a0 a1 => some (a0, a1)) x0 x1
def f133.ent (L N : Nat) := entDa [(.st 1), (.sl (.st 1))] (.many [(.st 2), .bool]) fun d => f133 L N d.1 d.2.1
noncomputable def E133 (L N : Nat) : Env := { P := Try.prog, ty := tyOf, Φ := (Φ151 L N), inl := inlT, live := lives, liveX := livesX, L := L, dp := none, prom := promT, heal := healT, ren := renT }
noncomputable def f133.c0 : Code := loopAt 0 (codeOf Try.f133)
noncomputable def f133.c1 : Code := loopAt 2 f133.c0
noncomputable def f133.c2 : Code := loopAt 4 f133.c1
def f133.X2_e4 {R : Type} (κ : KX R) := fun z44 z45 z46 z47 z48 z49 z50 z51 z52 z53 => κ (.exit 4) (f133.T2_e4 z44 z45 z46 z47 z48 z49 z50 z51 z52 z53) (f133.H2_e4 z44 z45 z46 z47 z48 z49 z50 z51 z52 z53)
def f133.R2 {R : Type} (rec : KT R) := fun s23 s24 s25 s26 s27 s28 s29 s30 s31 s32 => rec (f133.T2 s23 s24 s25 s26 s27 s28 s29 s30 s31 s32) (f133.H2 s23 s24 s25 s26 s27 s28 s29 s30 s31 s32)
theorem f133.s2_eq {R : Type} (L N : Nat) (κ : KX R) (rec : KT R) (s23 : LT) (s24 : Int) (s25 : Int) (s26 : ByteArray) (s27 : Int) (s28 : LT) (s29 : LY) (s30 : LS) (s31 : LM) (s32 : LLM) :
    evRd (E133 L N) (evCallI (E133 L N) 1 2000) 1000 133 106 4 f133.c2 κ rec (f133.T2 s23 s24 s25 s26 s27 s28 s29 s30 s31 s32) (f133.H2 s23 s24 s25 s26 s27 s28 s29 s30 s31 s32)
    = f133.s2 L N (f133.X2_e4 κ) (f133.R2 rec) s23 s24 s25 s26 s27 s28 s29 s30 s31 s32 := by kernel_rfl
theorem f133.l2_eq {R : Type} (L N : Nat) (κ : KX R) : ∀ (n : Nat) (s23 : LT) (s24 : Int) (s25 : Int) (s26 : ByteArray) (s27 : Int) (s28 : LT) (s29 : LY) (s30 : LS) (s31 : LM) (s32 : LLM),
    evLp (E133 L N) (evCallI (E133 L N) 1 2000) 1000 133 106 4 f133.c2 κ n (f133.T2 s23 s24 s25 s26 s27 s28 s29 s30 s31 s32) (f133.H2 s23 s24 s25 s26 s27 s28 s29 s30 s31 s32)
    = f133.l2 L N (f133.X2_e4 κ) n s23 s24 s25 s26 s27 s28 s29 s30 s31 s32 := by
  intro n
  induction n with
  | zero => intros; rfl
  | succ n ih =>
    intro s23 s24 s25 s26 s27 s28 s29 s30 s31 s32
    rw [evLp_succ, f133.s2_eq]
    delta f133.R2
    simp only [ih]
    rfl
def f133.X1_e2 {R : Type} (κ : KX R) := fun z16 z17 z18 z19 z20 z21 => κ (.exit 2) (f133.T1_e2 z16 z17 z18 z19 z20 z21) (f133.H1_e2 z16 z17 z18 z19 z20 z21)
def f133.X1_r {R : Type} (κ : KX R) := fun z76 z77 z78 z79 z80 z81 z82 => κ .ret (f133.T1_r z76 z77 z78 z79 z80 z81 z82) (f133.H1_r z76 z77 z78 z79 z80 z81 z82)
def f133.R1 {R : Type} (rec : KT R) := fun s8 s9 s10 s11 s12 s13 s14 s15 => rec (f133.T1 s8 s9 s10 s11 s12 s13 s14 s15) (f133.H1 s8 s9 s10 s11 s12 s13 s14 s15)
theorem f133.p2_e4_eq {R : Type} (L N : Nat) (κ : KX R) (rec : KT R) (z44 : LT) (z45 : Int) (z46 : Int) (z47 : ByteArray) (z48 : Int) (z49 : LT) (z50 : LY) (z51 : LS) (z52 : LM) (z53 : LLM) :
    (contAt (E133 L N) (evCallI (E133 L N) 1 2000) 1000 133 106 4 f133.c1 (rdK (E133 L N) 1000 133 106 2 κ rec)) (.exit 4) (f133.T2_e4 z44 z45 z46 z47 z48 z49 z50 z51 z52 z53) (f133.H2_e4 z44 z45 z46 z47 z48 z49 z50 z51 z52 z53)
    = f133.p2_e4 L N (f133.X1_e2 κ) (f133.X1_r κ) (f133.R1 rec) z44 z45 z46 z47 z48 z49 z50 z51 z52 z53 := by kernel_rfl
theorem f133.s1_eq {R : Type} (L N : Nat) (κ : KX R) (rec : KT R) (s8 : LT) (s9 : Int) (s10 : Int) (s11 : LT) (s12 : LY) (s13 : LS) (s14 : LM) (s15 : LLM) :
    evRd (E133 L N) (evCallI (E133 L N) 1 2000) 1000 133 106 2 f133.c1 κ rec (f133.T1 s8 s9 s10 s11 s12 s13 s14 s15) (f133.H1 s8 s9 s10 s11 s12 s13 s14 s15)
    = f133.s1 L N (f133.X1_e2 κ) (f133.X1_r κ) (f133.R1 rec) s8 s9 s10 s11 s12 s13 s14 s15 := by
  refine Eq.trans (b := f133.s1' L N (f133.X1_e2 κ) (f133.X1_r κ) (f133.R1 rec) (fun s23 s24 s25 s26 s27 s28 s29 s30 s31 s32 => evLp (E133 L N) (evCallI (E133 L N) 1 2000) 1000 133 106 4 f133.c2 (contAt (E133 L N) (evCallI (E133 L N) 1 2000) 1000 133 106 4 f133.c1 (rdK (E133 L N) 1000 133 106 2 κ rec)) L (f133.T2 s23 s24 s25 s26 s27 s28 s29 s30 s31 s32) (f133.H2 s23 s24 s25 s26 s27 s28 s29 s30 s31 s32)) s8 s9 s10 s11 s12 s13 s14 s15) (by kernel_rfl) ?_
  unfold f133.s1
  simp only [f133.l2_eq]
  delta f133.X2_e4
  simp only [f133.p2_e4_eq]
theorem f133.l1_eq {R : Type} (L N : Nat) (κ : KX R) : ∀ (n : Nat) (s8 : LT) (s9 : Int) (s10 : Int) (s11 : LT) (s12 : LY) (s13 : LS) (s14 : LM) (s15 : LLM),
    evLp (E133 L N) (evCallI (E133 L N) 1 2000) 1000 133 106 2 f133.c1 κ n (f133.T1 s8 s9 s10 s11 s12 s13 s14 s15) (f133.H1 s8 s9 s10 s11 s12 s13 s14 s15)
    = f133.l1 L N (f133.X1_e2 κ) (f133.X1_r κ) n s8 s9 s10 s11 s12 s13 s14 s15 := by
  intro n
  induction n with
  | zero => intros; rfl
  | succ n ih =>
    intro s8 s9 s10 s11 s12 s13 s14 s15
    rw [evLp_succ, f133.s1_eq]
    delta f133.R1
    simp only [ih]
    rfl
def f133.X0_e0 {R : Type} (κ : KX R) := fun z6 => κ (.exit 0) (f133.T0_e0 z6) (f133.H0_e0 z6)
def f133.X0_r {R : Type} (κ : KX R) := fun z102 z103 => κ .ret (f133.T0_r z102 z103) (f133.H0_r z102 z103)
def f133.R0 {R : Type} (rec : KT R) := fun s1 s2 s3 s4 s5 => rec (f133.T0 s1 s2 s3 s4 s5) (f133.H0 s1 s2 s3 s4 s5)
theorem f133.p1_e2_eq {R : Type} (L N : Nat) (κ : KX R) (rec : KT R) (z16 : LT) (z17 : Int) (z18 : LT) (z19 : LY) (z20 : LM) (z21 : LLM) :
    (contAt (E133 L N) (evCallI (E133 L N) 1 2000) 1000 133 106 2 f133.c0 (rdK (E133 L N) 1000 133 106 0 κ rec)) (.exit 2) (f133.T1_e2 z16 z17 z18 z19 z20 z21) (f133.H1_e2 z16 z17 z18 z19 z20 z21)
    = f133.p1_e2 L N (f133.X0_e0 κ) (f133.X0_r κ) (f133.R0 rec) z16 z17 z18 z19 z20 z21 := by kernel_rfl
theorem f133.p1_r_eq {R : Type} (L N : Nat) (κ : KX R) (rec : KT R) (z76 : LT) (z77 : Bool) (z78 : Int) (z79 : LT) (z80 : LY) (z81 : LM) (z82 : LLM) :
    (contAt (E133 L N) (evCallI (E133 L N) 1 2000) 1000 133 106 2 f133.c0 (rdK (E133 L N) 1000 133 106 0 κ rec)) .ret (f133.T1_r z76 z77 z78 z79 z80 z81 z82) (f133.H1_r z76 z77 z78 z79 z80 z81 z82)
    = f133.p1_r L N (f133.X0_e0 κ) (f133.X0_r κ) (f133.R0 rec) z76 z77 z78 z79 z80 z81 z82 := by kernel_rfl
theorem f133.s0_eq {R : Type} (L N : Nat) (κ : KX R) (rec : KT R) (s1 : LT) (s2 : Int) (s3 : LT) (s4 : LY) (s5 : LLM) :
    evRd (E133 L N) (evCallI (E133 L N) 1 2000) 1000 133 106 0 f133.c0 κ rec (f133.T0 s1 s2 s3 s4 s5) (f133.H0 s1 s2 s3 s4 s5)
    = f133.s0 L N (f133.X0_e0 κ) (f133.X0_r κ) (f133.R0 rec) s1 s2 s3 s4 s5 := by
  refine Eq.trans (b := f133.s0' L N (f133.X0_e0 κ) (f133.X0_r κ) (f133.R0 rec) (fun s8 s9 s10 s11 s12 s13 s14 s15 => evLp (E133 L N) (evCallI (E133 L N) 1 2000) 1000 133 106 2 f133.c1 (contAt (E133 L N) (evCallI (E133 L N) 1 2000) 1000 133 106 2 f133.c0 (rdK (E133 L N) 1000 133 106 0 κ rec)) L (f133.T1 s8 s9 s10 s11 s12 s13 s14 s15) (f133.H1 s8 s9 s10 s11 s12 s13 s14 s15)) s1 s2 s3 s4 s5) (by kernel_rfl) ?_
  unfold f133.s0
  simp only [f133.l1_eq]
  delta f133.X1_e2 f133.X1_r
  simp only [f133.p1_e2_eq, f133.p1_r_eq]
theorem f133.l0_eq {R : Type} (L N : Nat) (κ : KX R) : ∀ (n : Nat) (s1 : LT) (s2 : Int) (s3 : LT) (s4 : LY) (s5 : LLM),
    evLp (E133 L N) (evCallI (E133 L N) 1 2000) 1000 133 106 0 f133.c0 κ n (f133.T0 s1 s2 s3 s4 s5) (f133.H0 s1 s2 s3 s4 s5)
    = f133.l0 L N (f133.X0_e0 κ) (f133.X0_r κ) n s1 s2 s3 s4 s5 := by
  intro n
  induction n with
  | zero => intros; rfl
  | succ n ih =>
    intro s1 s2 s3 s4 s5
    rw [evLp_succ, f133.s0_eq]
    delta f133.R0
    simp only [ih]
    rfl
theorem f133.p0_e0_eq {R : Type} (L N : Nat) (κ : AV → Option R) (z6 : LLM) :
    (contAt (E133 L N) (evCallI (E133 L N) 1 2000) 1000 133 106 0 (codeOf Try.f133) (finK (E133 L N) 1000 Try.f133 (finC (.many [(.st 2), .bool]) κ))) (.exit 0) (f133.T0_e0 z6) (f133.H0_e0 z6)
    = f133.p0_e0 L N (fun a0 a1 => κ (.tup [(.tv (.st 2) a0), (.tv .bool a1)])) z6 := by kernel_rfl
theorem f133.p0_r_eq {R : Type} (L N : Nat) (κ : AV → Option R) (z102 : Bool) (z103 : LLM) :
    (contAt (E133 L N) (evCallI (E133 L N) 1 2000) 1000 133 106 0 (codeOf Try.f133) (finK (E133 L N) 1000 Try.f133 (finC (.many [(.st 2), .bool]) κ))) .ret (f133.T0_r z102 z103) (f133.H0_r z102 z103)
    = f133.p0_r L N (fun a0 a1 => κ (.tup [(.tv (.st 2) a0), (.tv .bool a1)])) z102 z103 := by kernel_rfl
theorem f133.b_eq {R : Type} (L N : Nat) (κ : AV → Option R) (x0 : Tree) (x1 : LT) :
    evBody (E133 L N) (evCallI (E133 L N) 1 2000) 1000 133 Try.f133 [(.tv (.st 1) x0), (.tv (.sl (.st 1)) x1)] [] [] (finC (.many [(.st 2), .bool]) κ)
    = f133.b L N (fun a0 a1 => κ (.tup [(.tv (.st 2) a0), (.tv .bool a1)])) x0 x1 := by
  refine Eq.trans (b := f133.b' L N (fun a0 a1 => κ (.tup [(.tv (.st 2) a0), (.tv .bool a1)])) (fun s1 s2 s3 s4 s5 => evLp (E133 L N) (evCallI (E133 L N) 1 2000) 1000 133 106 0 f133.c0 (contAt (E133 L N) (evCallI (E133 L N) 1 2000) 1000 133 106 0 (codeOf Try.f133) (finK (E133 L N) 1000 Try.f133 (finC (.many [(.st 2), .bool]) κ))) L (f133.T0 s1 s2 s3 s4 s5) (f133.H0 s1 s2 s3 s4 s5)) x0 x1) (by kernel_rfl) ?_
  unfold f133.b
  simp only [f133.l0_eq]
  delta f133.X0_e0 f133.X0_r
  simp only [f133.p0_e0_eq, f133.p0_r_eq]
theorem f133.ok (L N : Nat) (hΦ : TellsOk Try.prog ((Φ151 L N))) : EntOk Try.prog 133 (f133.ent L N) := entDa_ok (E := (E133 L N)) (dep := 1000) (f := Try.f133) (sound_of hΦ) okP (callI_sound (sound_of hΦ) okP 1 2000) rfl fun d _ hy => (f133.b_eq L N (unR (.many [(.st 2), .bool])) d.1 d.2.1).trans (Eq.trans (b := f133.b L N (fun a0 a1 => some (a0, a1)) d.1 d.2.1) (by kernel_rfl) hy)
def Φ133 (L N : Nat) : Tells := (addT (Φ151 L N) 133 (f133.ent L N))
theorem Φ133_ok (L N : Nat) : TellsOk Try.prog (Φ133 L N) := addT_ok (Φ151_ok L N) (f133.ok L N (Φ151_ok L N))
def f104.b' {R : Type} (L N : Nat) (k : Graph → Bool → Option R) (x0 : Tree) (x1 : LT) : Option R :=
  (f132 L N (Tree.mk x0.op x0.n x0.parts) x1).bind fun y0 =>
  bif (!y0) then
    k (Graph.mk []) false
  else (f133 L N (Tree.mk x0.op x0.n x0.parts) x1).bind fun y1 =>
  k (Graph.mk y1.1.moves) y1.2
def f104.b {R : Type} (L N : Nat) (k : Graph → Bool → Option R) (x0 : Tree) (x1 : LT) : Option R :=
  f104.b' L N k x0 x1
def f104 (L N : Nat) (x0 : Tree) (x1 : LT) : Option (Graph × Bool) := f104.b L N (fun a0 a1 => some (a0, a1)) x0 x1
def f104.ent (L N : Nat) := entDa [(.st 1), (.sl (.st 1))] (.many [(.st 2), .bool]) fun d => f104 L N d.1 d.2.1
noncomputable def E104 (L N : Nat) : Env := { P := Try.prog, ty := tyOf, Φ := (Φ133 L N), inl := inlT, live := lives, liveX := livesX, L := L, dp := none, prom := promT, heal := healT, ren := renT }
theorem f104.b_eq {R : Type} (L N : Nat) (κ : AV → Option R) (x0 : Tree) (x1 : LT) :
    evBody (E104 L N) (evCallI (E104 L N) 1 2000) 1000 104 Try.f104 [(.tv (.st 1) x0), (.tv (.sl (.st 1)) x1)] [] [] (finC (.many [(.st 2), .bool]) κ)
    = f104.b L N (fun a0 a1 => κ (.tup [(.tv (.st 2) a0), (.tv .bool a1)])) x0 x1 := by kernel_rfl
theorem f104.ok (L N : Nat) (hΦ : TellsOk Try.prog ((Φ133 L N))) : EntOk Try.prog 104 (f104.ent L N) := entDa_ok (E := (E104 L N)) (dep := 1000) (f := Try.f104) (sound_of hΦ) okP (callI_sound (sound_of hΦ) okP 1 2000) rfl fun d _ hy => (f104.b_eq L N (unR (.many [(.st 2), .bool])) d.1 d.2.1).trans (Eq.trans (b := f104.b L N (fun a0 a1 => some (a0, a1)) d.1 d.2.1) (by kernel_rfl) hy)
def Φ104 (L N : Nat) : Tells := (addT (Φ133 L N) 104 (f104.ent L N))
theorem Φ104_ok (L N : Nat) : TellsOk Try.prog (Φ104 L N) := addT_ok (Φ133_ok L N) (f104.ok L N (Φ133_ok L N))
def f105.j0' {R : Type} (L N : Nat) (k1_e2 : Int → Bool → Int → LI → Int → LM → LLM → LLM → Option R) (rec1 : Int → Bool → Int → Int → LI → Int → LM → LLM → LLM → Option R) (v34 : Int) (v35 : Bool) (v36 : Int) (v37 : Int) (v38 : Int) (v39 : LI) (v40 : Int) (v41 : LM) (v42 : LLM) (v43 : LLM) : Option R :=
  (f91 L N v39 v40 v34).bind fun y44 =>
  bif (decide (v41.length + ([(Move.mk v38 y44.1)] : LM).length ≤ lim)) then
    rec1 v34 v35 v36 (wi (v37 - (1 : Int))) y44.2.1 y44.2.2 (v41 ++ ([(Move.mk v38 y44.1)] : LM)) v42 v43
  else none
def f105.s1' {R : Type} (L N : Nat) (k1_e2 : Int → Bool → Int → LI → Int → LM → LLM → LLM → Option R) (rec1 : Int → Bool → Int → Int → LI → Int → LM → LLM → LLM → Option R) (s15 : Int) (s16 : Bool) (s17 : Int) (s18 : Int) (s19 : LI) (s20 : Int) (s21 : LM) (s22 : LLM) (s23 : LLM) : Option R :=
  bif (decide (s18 > (0 : Int))) then
    (f91 L N s19 s20 (3 : Int)).bind fun y32 =>
    bif (!s16) then
      (f134 L N y32.2.1 y32.2.2).bind fun y33 =>
      f105.j0' L N k1_e2 rec1 s15 s16 s17 s18 y33.1 y33.2.1 y33.2.2 s21 s22 s23
    else f105.j0' L N k1_e2 rec1 s15 s16 s17 s18 y32.1 y32.2.1 y32.2.2 s21 s22 s23
  else k1_e2 s15 s16 s17 s19 s20 s21 s22 s23
def f105.s1 {R : Type} (L N : Nat) (k1_e2 : Int → Bool → Int → LI → Int → LM → LLM → LLM → Option R) (rec1 : Int → Bool → Int → Int → LI → Int → LM → LLM → LLM → Option R) (s15 : Int) (s16 : Bool) (s17 : Int) (s18 : Int) (s19 : LI) (s20 : Int) (s21 : LM) (s22 : LLM) (s23 : LLM) : Option R :=
  f105.s1' L N k1_e2 rec1 s15 s16 s17 s18 s19 s20 s21 s22 s23
def f105.l1 {R : Type} (L N : Nat) (k1_e2 : Int → Bool → Int → LI → Int → LM → LLM → LLM → Option R) : Nat → Int → Bool → Int → Int → LI → Int → LM → LLM → LLM → Option R
  | 0, _, _, _, _, _, _, _, _, _ => none
  | n + 1, s15, s16, s17, s18, s19, s20, s21, s22, s23 => f105.s1 L N k1_e2 (f105.l1 L N k1_e2 n) s15 s16 s17 s18 s19 s20 s21 s22 s23
def f105.T1 (s15 : Int) (s16 : Bool) (s17 : Int) (s18 : Int) (s19 : LI) (s20 : Int) (s21 : LM) (s22 : LLM) (s23 : LLM) : T := mkT 84 [(0, (.ptr 0 0)), (4, (.ptr 1004 0)), (5, (.ptr 1005 0)), (6, (.tv i64 s15)), (7, (.tv .bool s16)), (8, (.tv i64 s17)), (9, (.row 1025)), (10, (.tv i64 s18))] ++ [.ptr 0 0]
def f105.H1 (s15 : Int) (s16 : Bool) (s17 : Int) (s18 : Int) (s19 : LI) (s20 : Int) (s21 : LM) (s22 : LLM) (s23 : LLM) : H := [(0, (.box [(.tv (.sl (.int .u8)) s19), (.tv i64 s20)])), (1004, (.box [(.row 1900)])), (1005, (.box [(.row 1901)])), (1025, (.row 53 (.st 0) s21)), (1900, (.deep 0 (.sl (.st 0)) s22 none)), (1901, (.deep 0 (.sl (.st 0)) s23 none))]
def f105.T1_e2 (z24 : Int) (z25 : Bool) (z26 : Int) (z27 : LI) (z28 : Int) (z29 : LM) (z30 : LLM) (z31 : LLM) : T := mkT 84 [(0, (.ptr 0 0)), (4, (.ptr 1004 0)), (5, (.ptr 1005 0)), (6, (.tv i64 z24)), (7, (.tv .bool z25)), (8, (.tv i64 z26)), (9, (.row 1025))] ++ [.ptr 0 0]
def f105.H1_e2 (z24 : Int) (z25 : Bool) (z26 : Int) (z27 : LI) (z28 : Int) (z29 : LM) (z30 : LLM) (z31 : LLM) : H := [(0, (.box [(.tv (.sl (.int .u8)) z27), (.tv i64 z28)])), (1004, (.box [(.row 1900)])), (1005, (.box [(.row 1901)])), (1025, (.row 53 (.st 0) z29)), (1900, (.deep 0 (.sl (.st 0)) z30 none)), (1901, (.deep 0 (.sl (.st 0)) z31 none))]
def f105.p1_e2' {R : Type} (L N : Nat) (k0_e0 : Int → LI → Int → LLM → LLM → Option R) (rec0 : Int → Bool → Int → LI → Int → LLM → LLM → Option R) (z24 : Int) (z25 : Bool) (z26 : Int) (z27 : LI) (z28 : Int) (z29 : LM) (z30 : LLM) (z31 : LLM) : Option R :=
  (f123 L N z29).bind fun y45 =>
  bif (decide (z31.length + ([y45] : LLM).length ≤ lim)) then
    rec0 z24 z25 (wi (z26 + (1 : Int))) z27 z28 z30 (z31 ++ ([y45] : LLM))
  else none
def f105.p1_e2 {R : Type} (L N : Nat) (k0_e0 : Int → LI → Int → LLM → LLM → Option R) (rec0 : Int → Bool → Int → LI → Int → LLM → LLM → Option R) (z24 : Int) (z25 : Bool) (z26 : Int) (z27 : LI) (z28 : Int) (z29 : LM) (z30 : LLM) (z31 : LLM) : Option R :=
  f105.p1_e2' L N k0_e0 rec0 z24 z25 z26 z27 z28 z29 z30 z31
def f105.s0' {R : Type} (L N : Nat) (k0_e0 : Int → LI → Int → LLM → LLM → Option R) (rec0 : Int → Bool → Int → LI → Int → LLM → LLM → Option R) (w1 : Int → Bool → Int → Int → LI → Int → LM → LLM → LLM → Option R) (s2 : Int) (s3 : Bool) (s4 : Int) (s5 : LI) (s6 : Int) (s7 : LLM) (s8 : LLM) : Option R :=
  bif (decide (s4 < s2)) then
    (f91 L N s5 s6 (4 : Int)).bind fun y14 =>
    w1 s2 s3 s4 y14.1 y14.2.1 y14.2.2 ([] : LM) s7 s8
  else k0_e0 s2 s5 s6 s7 s8
def f105.s0 {R : Type} (L N : Nat) (k0_e0 : Int → LI → Int → LLM → LLM → Option R) (rec0 : Int → Bool → Int → LI → Int → LLM → LLM → Option R) (s2 : Int) (s3 : Bool) (s4 : Int) (s5 : LI) (s6 : Int) (s7 : LLM) (s8 : LLM) : Option R :=
  f105.s0' L N k0_e0 rec0 (fun s15 s16 s17 s18 s19 s20 s21 s22 s23 => f105.l1 L N (fun z24 z25 z26 z27 z28 z29 z30 z31 => f105.p1_e2 L N k0_e0 rec0 z24 z25 z26 z27 z28 z29 z30 z31) L s15 s16 s17 s18 s19 s20 s21 s22 s23) s2 s3 s4 s5 s6 s7 s8
def f105.l0 {R : Type} (L N : Nat) (k0_e0 : Int → LI → Int → LLM → LLM → Option R) : Nat → Int → Bool → Int → LI → Int → LLM → LLM → Option R
  | 0, _, _, _, _, _, _, _ => none
  | n + 1, s2, s3, s4, s5, s6, s7, s8 => f105.s0 L N k0_e0 (f105.l0 L N k0_e0 n) s2 s3 s4 s5 s6 s7 s8
def f105.T0 (s2 : Int) (s3 : Bool) (s4 : Int) (s5 : LI) (s6 : Int) (s7 : LLM) (s8 : LLM) : T := mkT 84 [(0, (.ptr 0 0)), (4, (.ptr 1004 0)), (5, (.ptr 1005 0)), (6, (.tv i64 s2)), (7, (.tv .bool s3)), (8, (.tv i64 s4))] ++ [.ptr 0 0]
def f105.H0 (s2 : Int) (s3 : Bool) (s4 : Int) (s5 : LI) (s6 : Int) (s7 : LLM) (s8 : LLM) : H := [(0, (.box [(.tv (.sl (.int .u8)) s5), (.tv i64 s6)])), (1004, (.box [(.row 1900)])), (1005, (.box [(.row 1901)])), (1900, (.deep 0 (.sl (.st 0)) s7 none)), (1901, (.deep 0 (.sl (.st 0)) s8 none))]
def f105.T0_e0 (z9 : Int) (z10 : LI) (z11 : Int) (z12 : LLM) (z13 : LLM) : T := mkT 84 [(0, (.ptr 0 0)), (4, (.ptr 1004 0)), (5, (.ptr 1005 0)), (6, (.tv i64 z9))] ++ [.ptr 0 0]
def f105.H0_e0 (z9 : Int) (z10 : LI) (z11 : Int) (z12 : LLM) (z13 : LLM) : H := [(0, (.box [(.tv (.sl (.int .u8)) z10), (.tv i64 z11)])), (1004, (.box [(.row 1900)])), (1005, (.box [(.row 1901)])), (1900, (.deep 0 (.sl (.st 0)) z12 none)), (1901, (.deep 0 (.sl (.st 0)) z13 none))]
def f105.p0_e0' {R : Type} (L N : Nat) (k : Graph → LI → Int → Option R) (z9 : Int) (z10 : LI) (z11 : Int) (z12 : LLM) (z13 : LLM) : Option R :=
  (f91 L N z10 z11 (30 : Int)).bind fun y46 =>
  bif (y46.1 == (0 : Int)) then
    bif (decide (0 ≤ (0 : Int)) && decide ((0 : Int) < (z13.length : Int))) then
      bif (decide ((listAt z13 [] (0 : Int).toNat).length + ([(Move.mk (9 : Int) (0 : Int))] : LM).length ≤ lim)) then
        bif (decide (0 ≤ (0 : Int)) && decide ((0 : Int) < (z13.length : Int))) then
          k (Graph.mk (z13.set ((0 : Int).toNat) ((listAt z13 [] (0 : Int).toNat) ++ ([(Move.mk (9 : Int) (0 : Int))] : LM)))) y46.2.1 y46.2.2
        else none
      else none
    else none
  else bif (y46.1 == (1 : Int)) then
    bif (decide (0 ≤ (0 : Int)) && decide ((0 : Int) < (z13.length : Int))) then
      bif (decide ((listAt z13 [] (0 : Int).toNat).length + ([(Move.mk (0 : Int) z9)] : LM).length ≤ lim)) then
        bif (decide (0 ≤ (0 : Int)) && decide ((0 : Int) < (z13.length : Int))) then
          k (Graph.mk (z13.set ((0 : Int).toNat) ((listAt z13 [] (0 : Int).toNat) ++ ([(Move.mk (0 : Int) z9)] : LM)))) y46.2.1 y46.2.2
        else none
      else none
    else none
  else bif (y46.1 == (2 : Int)) then
    k (Graph.mk []) y46.2.1 y46.2.2
  else k (Graph.mk z13) y46.2.1 y46.2.2
def f105.p0_e0 {R : Type} (L N : Nat) (k : Graph → LI → Int → Option R) (z9 : Int) (z10 : LI) (z11 : Int) (z12 : LLM) (z13 : LLM) : Option R :=
  f105.p0_e0' L N k z9 z10 z11 z12 z13
def f105.b' {R : Type} (L N : Nat) (k : Graph → LI → Int → Option R) (w0 : Int → Bool → Int → LI → Int → LLM → LLM → Option R) (c0 : LI) (c1 : Int) (x0 : Int) : Option R :=
  (f91 L N c0 c1 x0).bind fun y0 =>
  (f91 L N y0.2.1 y0.2.2 (2 : Int)).bind fun y1 =>
  w0 (wi ((1 : Int) + y0.1)) (y1.1 == (0 : Int)) (0 : Int) y1.2.1 y1.2.2 ([] : LLM) ([] : LLM)
def f105.b {R : Type} (L N : Nat) (k : Graph → LI → Int → Option R) (c0 : LI) (c1 : Int) (x0 : Int) : Option R :=
  f105.b' L N k (fun s2 s3 s4 s5 s6 s7 s8 => f105.l0 L N (fun z9 z10 z11 z12 z13 => f105.p0_e0 L N k z9 z10 z11 z12 z13) L s2 s3 s4 s5 s6 s7 s8) c0 c1 x0
def f105 (L N : Nat) (c0 : LI) (c1 : Int) (x0 : Int) : Option (Graph × LI × Int) := f105.b L N (fun a0 a1 a2 => some (a0, a1, a2)) c0 c1 x0
def f105.ent (L N : Nat) (args : List AV) (vw : View) (site : Nat) : Ans := match boxD [(.sl (.int .u8)), i64] [i64] vw args with
  | some (o, d0, d, u) => ⟨Graph × LI × Int, f105 L N d0.1 d0.2.1 d.1, fun y => ((.tv (.st 2) y.1), u ++ [(o, some (.box [(.tv (.sl (.int .u8)) y.2.1), (.tv i64 y.2.2)]))], [])⟩
  | none => Ans.no
noncomputable def E105 (L N : Nat) : Env := { P := Try.prog, ty := tyOf, Φ := (Φ104 L N), inl := inlT, live := lives, liveX := livesX, L := L, dp := (some 0), prom := promT, heal := healT, ren := renT, fresh := fun s => Nat.beq s 1065 || Nat.beq s 1078 }
noncomputable def f105.c0 : Code := loopAt 0 (codeOf Try.f105)
noncomputable def f105.c1 : Code := loopAt 2 f105.c0
def f105.X1_e2 {R : Type} (κ : KX R) := fun z24 z25 z26 z27 z28 z29 z30 z31 => κ (.exit 2) (f105.T1_e2 z24 z25 z26 z27 z28 z29 z30 z31) (f105.H1_e2 z24 z25 z26 z27 z28 z29 z30 z31)
def f105.R1 {R : Type} (rec : KT R) := fun s15 s16 s17 s18 s19 s20 s21 s22 s23 => rec (f105.T1 s15 s16 s17 s18 s19 s20 s21 s22 s23) (f105.H1 s15 s16 s17 s18 s19 s20 s21 s22 s23)
theorem f105.s1_eq {R : Type} (L N : Nat) (κ : KX R) (rec : KT R) (s15 : Int) (s16 : Bool) (s17 : Int) (s18 : Int) (s19 : LI) (s20 : Int) (s21 : LM) (s22 : LLM) (s23 : LLM) :
    evRd (E105 L N) (evCallI (E105 L N) 1 2000) 1000 105 84 2 f105.c1 κ rec (f105.T1 s15 s16 s17 s18 s19 s20 s21 s22 s23) (f105.H1 s15 s16 s17 s18 s19 s20 s21 s22 s23)
    = f105.s1 L N (f105.X1_e2 κ) (f105.R1 rec) s15 s16 s17 s18 s19 s20 s21 s22 s23 := by kernel_rfl
theorem f105.l1_eq {R : Type} (L N : Nat) (κ : KX R) : ∀ (n : Nat) (s15 : Int) (s16 : Bool) (s17 : Int) (s18 : Int) (s19 : LI) (s20 : Int) (s21 : LM) (s22 : LLM) (s23 : LLM),
    evLp (E105 L N) (evCallI (E105 L N) 1 2000) 1000 105 84 2 f105.c1 κ n (f105.T1 s15 s16 s17 s18 s19 s20 s21 s22 s23) (f105.H1 s15 s16 s17 s18 s19 s20 s21 s22 s23)
    = f105.l1 L N (f105.X1_e2 κ) n s15 s16 s17 s18 s19 s20 s21 s22 s23 := by
  intro n
  induction n with
  | zero => intros; rfl
  | succ n ih =>
    intro s15 s16 s17 s18 s19 s20 s21 s22 s23
    rw [evLp_succ, f105.s1_eq]
    delta f105.R1
    simp only [ih]
    rfl
def f105.X0_e0 {R : Type} (κ : KX R) := fun z9 z10 z11 z12 z13 => κ (.exit 0) (f105.T0_e0 z9 z10 z11 z12 z13) (f105.H0_e0 z9 z10 z11 z12 z13)
def f105.R0 {R : Type} (rec : KT R) := fun s2 s3 s4 s5 s6 s7 s8 => rec (f105.T0 s2 s3 s4 s5 s6 s7 s8) (f105.H0 s2 s3 s4 s5 s6 s7 s8)
theorem f105.p1_e2_eq {R : Type} (L N : Nat) (κ : KX R) (rec : KT R) (z24 : Int) (z25 : Bool) (z26 : Int) (z27 : LI) (z28 : Int) (z29 : LM) (z30 : LLM) (z31 : LLM) :
    (contAt (E105 L N) (evCallI (E105 L N) 1 2000) 1000 105 84 2 f105.c0 (rdK (E105 L N) 1000 105 84 0 κ rec)) (.exit 2) (f105.T1_e2 z24 z25 z26 z27 z28 z29 z30 z31) (f105.H1_e2 z24 z25 z26 z27 z28 z29 z30 z31)
    = f105.p1_e2 L N (f105.X0_e0 κ) (f105.R0 rec) z24 z25 z26 z27 z28 z29 z30 z31 := by kernel_rfl
theorem f105.s0_eq {R : Type} (L N : Nat) (κ : KX R) (rec : KT R) (s2 : Int) (s3 : Bool) (s4 : Int) (s5 : LI) (s6 : Int) (s7 : LLM) (s8 : LLM) :
    evRd (E105 L N) (evCallI (E105 L N) 1 2000) 1000 105 84 0 f105.c0 κ rec (f105.T0 s2 s3 s4 s5 s6 s7 s8) (f105.H0 s2 s3 s4 s5 s6 s7 s8)
    = f105.s0 L N (f105.X0_e0 κ) (f105.R0 rec) s2 s3 s4 s5 s6 s7 s8 := by
  refine Eq.trans (b := f105.s0' L N (f105.X0_e0 κ) (f105.R0 rec) (fun s15 s16 s17 s18 s19 s20 s21 s22 s23 => evLp (E105 L N) (evCallI (E105 L N) 1 2000) 1000 105 84 2 f105.c1 (contAt (E105 L N) (evCallI (E105 L N) 1 2000) 1000 105 84 2 f105.c0 (rdK (E105 L N) 1000 105 84 0 κ rec)) L (f105.T1 s15 s16 s17 s18 s19 s20 s21 s22 s23) (f105.H1 s15 s16 s17 s18 s19 s20 s21 s22 s23)) s2 s3 s4 s5 s6 s7 s8) (by kernel_rfl) ?_
  unfold f105.s0
  simp only [f105.l1_eq]
  delta f105.X1_e2
  simp only [f105.p1_e2_eq]
theorem f105.l0_eq {R : Type} (L N : Nat) (κ : KX R) : ∀ (n : Nat) (s2 : Int) (s3 : Bool) (s4 : Int) (s5 : LI) (s6 : Int) (s7 : LLM) (s8 : LLM),
    evLp (E105 L N) (evCallI (E105 L N) 1 2000) 1000 105 84 0 f105.c0 κ n (f105.T0 s2 s3 s4 s5 s6 s7 s8) (f105.H0 s2 s3 s4 s5 s6 s7 s8)
    = f105.l0 L N (f105.X0_e0 κ) n s2 s3 s4 s5 s6 s7 s8 := by
  intro n
  induction n with
  | zero => intros; rfl
  | succ n ih =>
    intro s2 s3 s4 s5 s6 s7 s8
    rw [evLp_succ, f105.s0_eq]
    delta f105.R0
    simp only [ih]
    rfl
theorem f105.p0_e0_eq {R : Type} (L N : Nat) (κ : AV → Dens [(.sl (.int .u8)), i64] → Option R) (z9 : Int) (z10 : LI) (z11 : Int) (z12 : LLM) (z13 : LLM) :
    (contAt (E105 L N) (evCallI (E105 L N) 1 2000) 1000 105 84 0 (codeOf Try.f105) (finK (E105 L N) 1000 Try.f105 (finM (.one (.st 2)) [(.sl (.int .u8)), i64] κ))) (.exit 0) (f105.T0_e0 z9 z10 z11 z12 z13) (f105.H0_e0 z9 z10 z11 z12 z13)
    = f105.p0_e0 L N (fun a0 a1 a2 => κ (.tv (.st 2) a0) (a1, a2, ())) z9 z10 z11 z12 z13 := by kernel_rfl
theorem f105.b_eq {R : Type} (L N : Nat) (κ : AV → Dens [(.sl (.int .u8)), i64] → Option R) (c0 : LI) (c1 : Int) (x0 : Int) :
    evBody (E105 L N) (evCallI (E105 L N) 1 2000) 1000 105 Try.f105 [(.ptr 0 0), (.tv i64 x0)] [.ptr 0 0] [(0, (.box [(.tv (.sl (.int .u8)) c0), (.tv i64 c1)]))] (finM (.one (.st 2)) [(.sl (.int .u8)), i64] κ)
    = f105.b L N (fun a0 a1 a2 => κ (.tv (.st 2) a0) (a1, a2, ())) c0 c1 x0 := by
  refine Eq.trans (b := f105.b' L N (fun a0 a1 a2 => κ (.tv (.st 2) a0) (a1, a2, ())) (fun s2 s3 s4 s5 s6 s7 s8 => evLp (E105 L N) (evCallI (E105 L N) 1 2000) 1000 105 84 0 f105.c0 (contAt (E105 L N) (evCallI (E105 L N) 1 2000) 1000 105 84 0 (codeOf Try.f105) (finK (E105 L N) 1000 Try.f105 (finM (.one (.st 2)) [(.sl (.int .u8)), i64] κ))) L (f105.T0 s2 s3 s4 s5 s6 s7 s8) (f105.H0 s2 s3 s4 s5 s6 s7 s8)) c0 c1 x0) (by kernel_rfl) ?_
  unfold f105.b
  simp only [f105.l0_eq]
  delta f105.X0_e0
  simp only [f105.p0_e0_eq]
theorem f105.ok (L N : Nat) (hΦ : TellsOk Try.prog ((Φ104 L N))) : EntOk Try.prog 105 (f105.ent L N) := by
  intro args vw site h
  unfold f105.ent
  split
  · rename_i o d0 d u ha
    intro y hy hs
    obtain ⟨rest, cs, rfl, ho, hd0, hr, hu⟩ := boxD_some ha
    refine call_box (y := y) (dep := 1000) (v' := (.tv (.st 2) y.1)) (d1 := (y.2.1, y.2.2, ())) (E := (E105 L N)) (ts := [(.sl (.int .u8)), i64]) (tr := [i64]) (rs := (.one (.st 2))) (κ := (fun v d => (unR (.one (.st 2)) v).bind fun x => some (x, d.1, d.2.1))) (sound_of hΦ) okP (callI_sound (sound_of hΦ) okP 1 2000) (f := Try.f105) rfl hs ho hd0 hr hu ?_ (fun _ _ h => by obtain ⟨x, h1, h2⟩ := unR_bind h; obtain rfl := Option.some.inj h2; exact ⟨h1, rfl⟩) site
    exact (f105.b_eq L N (fun v d => (unR (.one (.st 2)) v).bind fun x => some (x, d.1, d.2.1)) d0.1 d0.2.1 d.1).trans (Eq.trans (b := f105.b L N (fun a0 a1 a2 => some (a0, a1, a2)) d0.1 d0.2.1 d.1) (by kernel_rfl) hy)
  · intro y hy
    cases hy
def Φ105 (L N : Nat) : Tells := (addT (Φ104 L N) 105 (f105.ent L N))
theorem Φ105_ok (L N : Nat) : TellsOk Try.prog (Φ105 L N) := addT_ok (Φ104_ok L N) (f105.ok L N (Φ104_ok L N))
def f69.b' {R : Type} (L N : Nat) (k : Graph → LI → Int → Option R) (c0 : LI) (c1 : Int) : Option R :=
  (f91 L N c0 c1 (2 : Int)).bind fun y0 =>
  bif (y0.1 == (0 : Int)) then
    (f103 L N y0.2.1 y0.2.2).bind fun y1 =>
    (f104 L N (Tree.mk y1.1.op y1.1.n y1.1.parts) y1.2.1).bind fun y2 =>
    bif y2.2 then
      k (Graph.mk ((Graph.mk y2.1.moves).moves)) y1.2.2.1 y1.2.2.2
    else (f105 L N y1.2.2.1 y1.2.2.2 (6 : Int)).bind fun y6 =>
    k (Graph.mk y6.1.moves) y6.2.1 y6.2.2
  else (f105 L N y0.2.1 y0.2.2 (6 : Int)).bind fun y7 =>
  k (Graph.mk y7.1.moves) y7.2.1 y7.2.2
def f69.b {R : Type} (L N : Nat) (k : Graph → LI → Int → Option R) (c0 : LI) (c1 : Int) : Option R :=
  f69.b' L N k c0 c1
def f69 (L N : Nat) (c0 : LI) (c1 : Int) : Option (Graph × LI × Int) := f69.b L N (fun a0 a1 a2 => some (a0, a1, a2)) c0 c1
def f69.ent (L N : Nat) (args : List AV) (vw : View) (site : Nat) : Ans := match boxD [(.sl (.int .u8)), i64] [] vw args with
  | some (o, d0, d, u) => ⟨Graph × LI × Int, f69 L N d0.1 d0.2.1, fun y => ((.tv (.st 2) y.1), u ++ [(o, some (.box [(.tv (.sl (.int .u8)) y.2.1), (.tv i64 y.2.2)]))], [])⟩
  | none => Ans.no
noncomputable def E69 (L N : Nat) : Env := { P := Try.prog, ty := tyOf, Φ := (Φ105 L N), inl := inlT, live := lives, liveX := livesX, L := L, dp := none, prom := promT, heal := healT, ren := renT }
theorem f69.b_eq {R : Type} (L N : Nat) (κ : AV → Dens [(.sl (.int .u8)), i64] → Option R) (c0 : LI) (c1 : Int) :
    evBody (E69 L N) (evCallI (E69 L N) 1 2000) 1000 69 Try.f69 [(.ptr 0 0)] [.ptr 0 0] [(0, (.box [(.tv (.sl (.int .u8)) c0), (.tv i64 c1)]))] (finM (.one (.st 2)) [(.sl (.int .u8)), i64] κ)
    = f69.b L N (fun a0 a1 a2 => κ (.tv (.st 2) a0) (a1, a2, ())) c0 c1 := by kernel_rfl
theorem f69.ok (L N : Nat) (hΦ : TellsOk Try.prog ((Φ105 L N))) : EntOk Try.prog 69 (f69.ent L N) := by
  intro args vw site h
  unfold f69.ent
  split
  · rename_i o d0 d u ha
    intro y hy hs
    obtain ⟨rest, cs, rfl, ho, hd0, hr, hu⟩ := boxD_some ha
    refine call_box (y := y) (dep := 1000) (v' := (.tv (.st 2) y.1)) (d1 := (y.2.1, y.2.2, ())) (E := (E69 L N)) (ts := [(.sl (.int .u8)), i64]) (tr := []) (rs := (.one (.st 2))) (κ := (fun v d => (unR (.one (.st 2)) v).bind fun x => some (x, d.1, d.2.1))) (sound_of hΦ) okP (callI_sound (sound_of hΦ) okP 1 2000) (f := Try.f69) rfl hs ho hd0 hr hu ?_ (fun _ _ h => by obtain ⟨x, h1, h2⟩ := unR_bind h; obtain rfl := Option.some.inj h2; exact ⟨h1, rfl⟩) site
    exact (f69.b_eq L N (fun v d => (unR (.one (.st 2)) v).bind fun x => some (x, d.1, d.2.1)) d0.1 d0.2.1).trans (Eq.trans (b := f69.b L N (fun a0 a1 a2 => some (a0, a1, a2)) d0.1 d0.2.1) (by kernel_rfl) hy)
  · intro y hy
    cases hy
def Φ69 (L N : Nat) : Tells := (addT (Φ105 L N) 69 (f69.ent L N))
theorem Φ69_ok (L N : Nat) : TellsOk Try.prog (Φ69 L N) := addT_ok (Φ105_ok L N) (f69.ok L N (Φ105_ok L N))
def f55.b' {R : Type} (L N : Nat) (k : Graph → Option R) (x0 : LI) : Option R :=
  (f68 L N x0).bind fun y0 =>
  (f69 L N y0.1 y0.2).bind fun y1 =>
  k (Graph.mk ((Graph.mk y1.1.moves).moves))
def f55.b {R : Type} (L N : Nat) (k : Graph → Option R) (x0 : LI) : Option R :=
  f55.b' L N k x0
def f55 (L N : Nat) (x0 : LI) : Option (Graph) := f55.b L N some x0
def f55.ent (L N : Nat) := entDa [(.sl (.int .u8))] (.one (.st 2)) fun d => f55 L N d.1
noncomputable def E55 (L N : Nat) : Env := { P := Try.prog, ty := tyOf, Φ := (Φ69 L N), inl := inlT, live := lives, liveX := livesX, L := L, dp := none, prom := promT, heal := healT, ren := renT }
theorem f55.b_eq {R : Type} (L N : Nat) (κ : AV → Option R) (x0 : LI) :
    evBody (E55 L N) (evCallI (E55 L N) 1 2000) 1000 55 Try.f55 [(.tv (.sl (.int .u8)) x0)] [] [] (finC (.one (.st 2)) κ)
    = f55.b L N (fun a0 => κ (.tv (.st 2) a0)) x0 := by kernel_rfl
theorem f55.ok (L N : Nat) (hΦ : TellsOk Try.prog ((Φ69 L N))) : EntOk Try.prog 55 (f55.ent L N) := entDa_ok (E := (E55 L N)) (dep := 1000) (f := Try.f55) (sound_of hΦ) okP (callI_sound (sound_of hΦ) okP 1 2000) rfl fun d _ hy => (f55.b_eq L N (unR (.one (.st 2))) d.1).trans (Eq.trans (b := f55.b L N some d.1) (by kernel_rfl) hy)
def Φ55 (L N : Nat) : Tells := (addT (Φ69 L N) 55 (f55.ent L N))
theorem Φ55_ok (L N : Nat) : TellsOk Try.prog (Φ55 L N) := addT_ok (Φ69_ok L N) (f55.ok L N (Φ69_ok L N))
def f14.b' {R : Type} (L N : Nat) (k : Bool → Option R) (x0 : LI) : Option R :=
  bif (decide ((x0.length : Int) > (1048576 : Int))) then
    k true
  else (f55 L N x0).bind fun y0 =>
  (f52 L N (Graph.mk y0.moves)).bind fun y1 =>
  (f51 L N (Graph.mk y0.moves)).bind fun y2 =>
  (f31 L N y1 y2).bind fun y3 =>
  bif (!y3) then
    k false
  else (f47 L N (Graph.mk y0.moves)).bind fun y4 =>
  (f41 L N (Graph.mk y0.moves)).bind fun y5 =>
  (f45 L N y5 y1).bind fun y6 =>
  bif y6 then
    bif (!y4.2) then
      k true
    else (f44 L N (Graph.mk y4.1)).bind fun y7 =>
    (f31 L N y1 y7).bind fun y8 =>
    k y8
  else k false
def f14.b {R : Type} (L N : Nat) (k : Bool → Option R) (x0 : LI) : Option R :=
  f14.b' L N k x0
def f14 (L N : Nat) (x0 : LI) : Option (Bool) := f14.b L N some x0
def f14.ent (L N : Nat) := entRo [(.sl (.int .u8))] (.one .bool) fun d => f14 L N d.1
noncomputable def E14 (L N : Nat) : Env := { P := Try.prog, ty := tyOf, Φ := (Φ55 L N), inl := inlT, live := lives, liveX := livesX, L := L, dp := none, prom := promT, heal := healT, ren := renT }
theorem f14.b_eq {R : Type} (L N : Nat) (κ : AV → Option R) (x0 : LI) :
    evBody (E14 L N) (evCallI (E14 L N) 1 2000) 1000 14 Try.f14 [(.tv (.sl (.int .u8)) x0)] [] [] (finC (.one .bool) κ)
    = f14.b L N (fun a0 => κ (.tv .bool a0)) x0 := by kernel_rfl
theorem f14.ok (L N : Nat) (hΦ : TellsOk Try.prog ((Φ55 L N))) : EntOk Try.prog 14 (f14.ent L N) := entRo_ok (E := (E14 L N)) (dep := 1000) (f := Try.f14) (sound_of hΦ) okP (callI_sound (sound_of hΦ) okP 1 2000) rfl rfl fun d _ hy => (f14.b_eq L N (unR (.one .bool)) d.1).trans (Eq.trans (b := f14.b L N some d.1) (by kernel_rfl) hy)
def Φ14 (L N : Nat) : Tells := (addT (Φ55 L N) 14 (f14.ent L N))
theorem Φ14_ok (L N : Nat) : TellsOk Try.prog (Φ14 L N) := addT_ok (Φ55_ok L N) (f14.ok L N (Φ55_ok L N))
end Go.Proofs.Ytdfjdbpklbehoaa.Ev
