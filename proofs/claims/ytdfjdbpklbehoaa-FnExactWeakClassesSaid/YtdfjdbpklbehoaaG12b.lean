/- The seat's functions as plain functions, continued: made by program (wip/gen/gen.py). -/
import Derived.Test.YtdfjdbpklbehoaaG12a
namespace Go.Proofs.Ytdfjdbpklbehoaa.Ev
open Go
set_option linter.unusedVariables false
set_option maxRecDepth 20000
theorem f87.p0_e0_eq {R : Type} (L N : Nat) (κ : AV → Option R) (z6 : LLM) :
    (contAt (E87 L N) (evCallI (E87 L N) 1 2000) 1000 87 94 0 (codeOf Try.f87) (finK (E87 L N) 1000 Try.f87 (finC (.one (.st 2)) κ))) (.exit 0) (f87.T0_e0 z6) (f87.H0_e0 z6)
    = f87.p0_e0 L N (fun a0 => κ (.tv (.st 2) a0)) z6 := by
  rw [f87.p0_e0_pre]
  unfold f87.p0_e0
  rfl
theorem f87.b_pre {R : Type} (L N : Nat) (κ : AV → Option R) (x0 : Graph) (x1 : Bool) :
    evBody (E87 L N) (evCallI (E87 L N) 1 2000) 1000 87 Try.f87 [(.tv (.st 2) x0), (.tv .bool x1)] [] [] (finC (.one (.st 2)) κ)
    = f87.b' L N (fun a0 => κ (.tv (.st 2) a0)) (fun s1 s2 s3 s4 s5 => evLp (E87 L N) (evCallI (E87 L N) 1 2000) 1000 87 94 0 f87.c0 (contAt (E87 L N) (evCallI (E87 L N) 1 2000) 1000 87 94 0 (codeOf Try.f87) (finK (E87 L N) 1000 Try.f87 (finC (.one (.st 2)) κ))) L (f87.T0 s1 s2 s3 s4 s5) (f87.H0 s1 s2 s3 s4 s5)) x0 x1 := by kernel_rfl
theorem f87.b_eq {R : Type} (L N : Nat) (κ : AV → Option R) (x0 : Graph) (x1 : Bool) :
    evBody (E87 L N) (evCallI (E87 L N) 1 2000) 1000 87 Try.f87 [(.tv (.st 2) x0), (.tv .bool x1)] [] [] (finC (.one (.st 2)) κ)
    = f87.b L N (fun a0 => κ (.tv (.st 2) a0)) x0 x1 := by
  rw [f87.b_pre]
  unfold f87.b
  simp only [f87.l0_eq, f87.p0_e0_eq]
theorem f87.s3'_nat {R R' : Type} (j : R → Option R') (L N : Nat) (k3_e6 : Bool → LLB → Int → Int → Int → LLM → LM → LLM → Option R) (rec3 : Bool → LLB → Int → Int → Int → Int → LLM → Int → Int → LM → LLM → Option R) (s42 : Bool) (s43 : LLB) (s44 : Int) (s45 : Int) (s46 : Int) (s47 : Int) (s48 : LLM) (s49 : Int) (s50 : Int) (s51 : LM) (s52 : LLM) :
    f87.s3' L N (fun a0 a1 a2 a3 a4 a5 a6 a7 => (k3_e6 a0 a1 a2 a3 a4 a5 a6 a7).bind j) (fun a0 a1 a2 a3 a4 a5 a6 a7 a8 a9 a10 => (rec3 a0 a1 a2 a3 a4 a5 a6 a7 a8 a9 a10).bind j) s42 s43 s44 s45 s46 s47 s48 s49 s50 s51 s52 = (f87.s3' L N k3_e6 rec3 s42 s43 s44 s45 s46 s47 s48 s49 s50 s51 s52).bind j := by
  unfold f87.s3'
  repeat' (first | (with_reducible refine cond_nat ?_ ?_) | (with_reducible refine bind_nat fun _ => ?_) | rfl)
theorem f87.s3_nat {R R' : Type} (j : R → Option R') (L N : Nat) (k3_e6 : Bool → LLB → Int → Int → Int → LLM → LM → LLM → Option R) (rec3 : Bool → LLB → Int → Int → Int → Int → LLM → Int → Int → LM → LLM → Option R) (s42 : Bool) (s43 : LLB) (s44 : Int) (s45 : Int) (s46 : Int) (s47 : Int) (s48 : LLM) (s49 : Int) (s50 : Int) (s51 : LM) (s52 : LLM) :
    f87.s3 L N (fun a0 a1 a2 a3 a4 a5 a6 a7 => (k3_e6 a0 a1 a2 a3 a4 a5 a6 a7).bind j) (fun a0 a1 a2 a3 a4 a5 a6 a7 a8 a9 a10 => (rec3 a0 a1 a2 a3 a4 a5 a6 a7 a8 a9 a10).bind j) s42 s43 s44 s45 s46 s47 s48 s49 s50 s51 s52 = (f87.s3 L N k3_e6 rec3 s42 s43 s44 s45 s46 s47 s48 s49 s50 s51 s52).bind j := by
  unfold f87.s3
  exact f87.s3'_nat ..
theorem f87.l3_nat {R R' : Type} (j : R → Option R') (L N : Nat) (k3_e6 : Bool → LLB → Int → Int → Int → LLM → LM → LLM → Option R) : ∀ (n : Nat) (s42 : Bool) (s43 : LLB) (s44 : Int) (s45 : Int) (s46 : Int) (s47 : Int) (s48 : LLM) (s49 : Int) (s50 : Int) (s51 : LM) (s52 : LLM),
    f87.l3 L N (fun a0 a1 a2 a3 a4 a5 a6 a7 => (k3_e6 a0 a1 a2 a3 a4 a5 a6 a7).bind j) n s42 s43 s44 s45 s46 s47 s48 s49 s50 s51 s52 = (f87.l3 L N k3_e6 n s42 s43 s44 s45 s46 s47 s48 s49 s50 s51 s52).bind j := by
  intro n
  induction n with
  | zero => intros; rfl
  | succ n ih =>
    intro s42 s43 s44 s45 s46 s47 s48 s49 s50 s51 s52
    show f87.s3 L N (fun a0 a1 a2 a3 a4 a5 a6 a7 => (k3_e6 a0 a1 a2 a3 a4 a5 a6 a7).bind j) (f87.l3 L N (fun a0 a1 a2 a3 a4 a5 a6 a7 => (k3_e6 a0 a1 a2 a3 a4 a5 a6 a7).bind j) n) s42 s43 s44 s45 s46 s47 s48 s49 s50 s51 s52 = _
    rw [show f87.l3 L N (fun a0 a1 a2 a3 a4 a5 a6 a7 => (k3_e6 a0 a1 a2 a3 a4 a5 a6 a7).bind j) n = (fun s42 s43 s44 s45 s46 s47 s48 s49 s50 s51 s52 => (f87.l3 L N k3_e6 n s42 s43 s44 s45 s46 s47 s48 s49 s50 s51 s52).bind j) from funext fun s42 => funext fun s43 => funext fun s44 => funext fun s45 => funext fun s46 => funext fun s47 => funext fun s48 => funext fun s49 => funext fun s50 => funext fun s51 => funext fun s52 => ih s42 s43 s44 s45 s46 s47 s48 s49 s50 s51 s52]
    exact f87.s3_nat ..
theorem f87.p3_e6'_nat {R R' : Type} (j : R → Option R') (L N : Nat) (k2_e4 : Bool → LLB → Int → Int → LLM → LM → LLM → Option R) (rec2 : Bool → LLB → Int → Int → Int → LLM → LM → LLM → Option R) (z53 : Bool) (z54 : LLB) (z55 : Int) (z56 : Int) (z57 : Int) (z58 : LLM) (z59 : LM) (z60 : LLM) :
    f87.p3_e6' L N (fun a0 a1 a2 a3 a4 a5 a6 => (k2_e4 a0 a1 a2 a3 a4 a5 a6).bind j) (fun a0 a1 a2 a3 a4 a5 a6 a7 => (rec2 a0 a1 a2 a3 a4 a5 a6 a7).bind j) z53 z54 z55 z56 z57 z58 z59 z60 = (f87.p3_e6' L N k2_e4 rec2 z53 z54 z55 z56 z57 z58 z59 z60).bind j := by
  unfold f87.p3_e6'
  repeat' (first | (with_reducible refine cond_nat ?_ ?_) | (with_reducible refine bind_nat fun _ => ?_) | rfl)
theorem f87.p3_e6_nat {R R' : Type} (j : R → Option R') (L N : Nat) (k2_e4 : Bool → LLB → Int → Int → LLM → LM → LLM → Option R) (rec2 : Bool → LLB → Int → Int → Int → LLM → LM → LLM → Option R) (z53 : Bool) (z54 : LLB) (z55 : Int) (z56 : Int) (z57 : Int) (z58 : LLM) (z59 : LM) (z60 : LLM) :
    f87.p3_e6 L N (fun a0 a1 a2 a3 a4 a5 a6 => (k2_e4 a0 a1 a2 a3 a4 a5 a6).bind j) (fun a0 a1 a2 a3 a4 a5 a6 a7 => (rec2 a0 a1 a2 a3 a4 a5 a6 a7).bind j) z53 z54 z55 z56 z57 z58 z59 z60 = (f87.p3_e6 L N k2_e4 rec2 z53 z54 z55 z56 z57 z58 z59 z60).bind j := by
  unfold f87.p3_e6
  exact f87.p3_e6'_nat ..
theorem f87.s2'_nat {R R' : Type} (j : R → Option R') (L N : Nat) (k2_e4 : Bool → LLB → Int → Int → LLM → LM → LLM → Option R) (rec2 : Bool → LLB → Int → Int → Int → LLM → LM → LLM → Option R) (w3 : Bool → LLB → Int → Int → Int → Int → LLM → Int → Int → LM → LLM → Option R) (s27 : Bool) (s28 : LLB) (s29 : Int) (s30 : Int) (s31 : Int) (s32 : LLM) (s33 : LM) (s34 : LLM) :
    f87.s2' L N (fun a0 a1 a2 a3 a4 a5 a6 => (k2_e4 a0 a1 a2 a3 a4 a5 a6).bind j) (fun a0 a1 a2 a3 a4 a5 a6 a7 => (rec2 a0 a1 a2 a3 a4 a5 a6 a7).bind j) (fun a0 a1 a2 a3 a4 a5 a6 a7 a8 a9 a10 => (w3 a0 a1 a2 a3 a4 a5 a6 a7 a8 a9 a10).bind j) s27 s28 s29 s30 s31 s32 s33 s34 = (f87.s2' L N k2_e4 rec2 w3 s27 s28 s29 s30 s31 s32 s33 s34).bind j := by
  unfold f87.s2'
  repeat' (first | (with_reducible refine cond_nat ?_ ?_) | (with_reducible refine bind_nat fun _ => ?_) | rfl)
theorem f87.s2_nat {R R' : Type} (j : R → Option R') (L N : Nat) (k2_e4 : Bool → LLB → Int → Int → LLM → LM → LLM → Option R) (rec2 : Bool → LLB → Int → Int → Int → LLM → LM → LLM → Option R) (s27 : Bool) (s28 : LLB) (s29 : Int) (s30 : Int) (s31 : Int) (s32 : LLM) (s33 : LM) (s34 : LLM) :
    f87.s2 L N (fun a0 a1 a2 a3 a4 a5 a6 => (k2_e4 a0 a1 a2 a3 a4 a5 a6).bind j) (fun a0 a1 a2 a3 a4 a5 a6 a7 => (rec2 a0 a1 a2 a3 a4 a5 a6 a7).bind j) s27 s28 s29 s30 s31 s32 s33 s34 = (f87.s2 L N k2_e4 rec2 s27 s28 s29 s30 s31 s32 s33 s34).bind j := by
  unfold f87.s2
  simp only [f87.l3_nat, f87.p3_e6_nat]
  exact f87.s2'_nat ..
theorem f87.l2_nat {R R' : Type} (j : R → Option R') (L N : Nat) (k2_e4 : Bool → LLB → Int → Int → LLM → LM → LLM → Option R) : ∀ (n : Nat) (s27 : Bool) (s28 : LLB) (s29 : Int) (s30 : Int) (s31 : Int) (s32 : LLM) (s33 : LM) (s34 : LLM),
    f87.l2 L N (fun a0 a1 a2 a3 a4 a5 a6 => (k2_e4 a0 a1 a2 a3 a4 a5 a6).bind j) n s27 s28 s29 s30 s31 s32 s33 s34 = (f87.l2 L N k2_e4 n s27 s28 s29 s30 s31 s32 s33 s34).bind j := by
  intro n
  induction n with
  | zero => intros; rfl
  | succ n ih =>
    intro s27 s28 s29 s30 s31 s32 s33 s34
    show f87.s2 L N (fun a0 a1 a2 a3 a4 a5 a6 => (k2_e4 a0 a1 a2 a3 a4 a5 a6).bind j) (f87.l2 L N (fun a0 a1 a2 a3 a4 a5 a6 => (k2_e4 a0 a1 a2 a3 a4 a5 a6).bind j) n) s27 s28 s29 s30 s31 s32 s33 s34 = _
    rw [show f87.l2 L N (fun a0 a1 a2 a3 a4 a5 a6 => (k2_e4 a0 a1 a2 a3 a4 a5 a6).bind j) n = (fun s27 s28 s29 s30 s31 s32 s33 s34 => (f87.l2 L N k2_e4 n s27 s28 s29 s30 s31 s32 s33 s34).bind j) from funext fun s27 => funext fun s28 => funext fun s29 => funext fun s30 => funext fun s31 => funext fun s32 => funext fun s33 => funext fun s34 => ih s27 s28 s29 s30 s31 s32 s33 s34]
    exact f87.s2_nat ..
theorem f87.p2_e4'_nat {R R' : Type} (j : R → Option R') (L N : Nat) (k1_e2 : Bool → LLB → Int → LLM → LM → LLM → Option R) (rec1 : Bool → LLB → Int → Int → LLM → LM → LLM → Option R) (z35 : Bool) (z36 : LLB) (z37 : Int) (z38 : Int) (z39 : LLM) (z40 : LM) (z41 : LLM) :
    f87.p2_e4' L N (fun a0 a1 a2 a3 a4 a5 => (k1_e2 a0 a1 a2 a3 a4 a5).bind j) (fun a0 a1 a2 a3 a4 a5 a6 => (rec1 a0 a1 a2 a3 a4 a5 a6).bind j) z35 z36 z37 z38 z39 z40 z41 = (f87.p2_e4' L N k1_e2 rec1 z35 z36 z37 z38 z39 z40 z41).bind j := by
  unfold f87.p2_e4'
  repeat' (first | (with_reducible refine cond_nat ?_ ?_) | (with_reducible refine bind_nat fun _ => ?_) | rfl)
theorem f87.p2_e4_nat {R R' : Type} (j : R → Option R') (L N : Nat) (k1_e2 : Bool → LLB → Int → LLM → LM → LLM → Option R) (rec1 : Bool → LLB → Int → Int → LLM → LM → LLM → Option R) (z35 : Bool) (z36 : LLB) (z37 : Int) (z38 : Int) (z39 : LLM) (z40 : LM) (z41 : LLM) :
    f87.p2_e4 L N (fun a0 a1 a2 a3 a4 a5 => (k1_e2 a0 a1 a2 a3 a4 a5).bind j) (fun a0 a1 a2 a3 a4 a5 a6 => (rec1 a0 a1 a2 a3 a4 a5 a6).bind j) z35 z36 z37 z38 z39 z40 z41 = (f87.p2_e4 L N k1_e2 rec1 z35 z36 z37 z38 z39 z40 z41).bind j := by
  unfold f87.p2_e4
  exact f87.p2_e4'_nat ..
theorem f87.j0'_nat {R R' : Type} (j : R → Option R') (L N : Nat) (k1_e2 : Bool → LLB → Int → LLM → LM → LLM → Option R) (rec1 : Bool → LLB → Int → Int → LLM → LM → LLM → Option R) (w2 : Bool → LLB → Int → Int → Int → LLM → LM → LLM → Option R) (v20 : Bool) (v21 : LLB) (v22 : Int) (v23 : Int) (v24 : LLM) (v25 : LM) (v26 : LLM) :
    f87.j0' L N (fun a0 a1 a2 a3 a4 a5 => (k1_e2 a0 a1 a2 a3 a4 a5).bind j) (fun a0 a1 a2 a3 a4 a5 a6 => (rec1 a0 a1 a2 a3 a4 a5 a6).bind j) (fun a0 a1 a2 a3 a4 a5 a6 a7 => (w2 a0 a1 a2 a3 a4 a5 a6 a7).bind j) v20 v21 v22 v23 v24 v25 v26 = (f87.j0' L N k1_e2 rec1 w2 v20 v21 v22 v23 v24 v25 v26).bind j := by
  unfold f87.j0'
  repeat' (first | (with_reducible refine cond_nat ?_ ?_) | (with_reducible refine bind_nat fun _ => ?_) | rfl)
theorem f87.s1'_nat {R R' : Type} (j : R → Option R') (L N : Nat) (k1_e2 : Bool → LLB → Int → LLM → LM → LLM → Option R) (rec1 : Bool → LLB → Int → Int → LLM → LM → LLM → Option R) (w2 : Bool → LLB → Int → Int → Int → LLM → LM → LLM → Option R) (s7 : Bool) (s8 : LLB) (s9 : Int) (s10 : Int) (s11 : LLM) (s12 : LM) (s13 : LLM) :
    f87.s1' L N (fun a0 a1 a2 a3 a4 a5 => (k1_e2 a0 a1 a2 a3 a4 a5).bind j) (fun a0 a1 a2 a3 a4 a5 a6 => (rec1 a0 a1 a2 a3 a4 a5 a6).bind j) (fun a0 a1 a2 a3 a4 a5 a6 a7 => (w2 a0 a1 a2 a3 a4 a5 a6 a7).bind j) s7 s8 s9 s10 s11 s12 s13 = (f87.s1' L N k1_e2 rec1 w2 s7 s8 s9 s10 s11 s12 s13).bind j := by
  unfold f87.s1'
  repeat' (first | (with_reducible refine cond_nat ?_ ?_) | (with_reducible refine bind_nat fun _ => ?_) | exact f87.j0'_nat .. | rfl)
theorem f87.s1_nat {R R' : Type} (j : R → Option R') (L N : Nat) (k1_e2 : Bool → LLB → Int → LLM → LM → LLM → Option R) (rec1 : Bool → LLB → Int → Int → LLM → LM → LLM → Option R) (s7 : Bool) (s8 : LLB) (s9 : Int) (s10 : Int) (s11 : LLM) (s12 : LM) (s13 : LLM) :
    f87.s1 L N (fun a0 a1 a2 a3 a4 a5 => (k1_e2 a0 a1 a2 a3 a4 a5).bind j) (fun a0 a1 a2 a3 a4 a5 a6 => (rec1 a0 a1 a2 a3 a4 a5 a6).bind j) s7 s8 s9 s10 s11 s12 s13 = (f87.s1 L N k1_e2 rec1 s7 s8 s9 s10 s11 s12 s13).bind j := by
  unfold f87.s1
  simp only [f87.l2_nat, f87.p2_e4_nat]
  exact f87.s1'_nat ..
theorem f87.l1_nat {R R' : Type} (j : R → Option R') (L N : Nat) (k1_e2 : Bool → LLB → Int → LLM → LM → LLM → Option R) : ∀ (n : Nat) (s7 : Bool) (s8 : LLB) (s9 : Int) (s10 : Int) (s11 : LLM) (s12 : LM) (s13 : LLM),
    f87.l1 L N (fun a0 a1 a2 a3 a4 a5 => (k1_e2 a0 a1 a2 a3 a4 a5).bind j) n s7 s8 s9 s10 s11 s12 s13 = (f87.l1 L N k1_e2 n s7 s8 s9 s10 s11 s12 s13).bind j := by
  intro n
  induction n with
  | zero => intros; rfl
  | succ n ih =>
    intro s7 s8 s9 s10 s11 s12 s13
    show f87.s1 L N (fun a0 a1 a2 a3 a4 a5 => (k1_e2 a0 a1 a2 a3 a4 a5).bind j) (f87.l1 L N (fun a0 a1 a2 a3 a4 a5 => (k1_e2 a0 a1 a2 a3 a4 a5).bind j) n) s7 s8 s9 s10 s11 s12 s13 = _
    rw [show f87.l1 L N (fun a0 a1 a2 a3 a4 a5 => (k1_e2 a0 a1 a2 a3 a4 a5).bind j) n = (fun s7 s8 s9 s10 s11 s12 s13 => (f87.l1 L N k1_e2 n s7 s8 s9 s10 s11 s12 s13).bind j) from funext fun s7 => funext fun s8 => funext fun s9 => funext fun s10 => funext fun s11 => funext fun s12 => funext fun s13 => ih s7 s8 s9 s10 s11 s12 s13]
    exact f87.s1_nat ..
theorem f87.p1_e2'_nat {R R' : Type} (j : R → Option R') (L N : Nat) (k0_e0 : LLM → Option R) (rec0 : Bool → LLB → Int → LLM → LLM → Option R) (z14 : Bool) (z15 : LLB) (z16 : Int) (z17 : LLM) (z18 : LM) (z19 : LLM) :
    f87.p1_e2' L N (fun a0 => (k0_e0 a0).bind j) (fun a0 a1 a2 a3 a4 => (rec0 a0 a1 a2 a3 a4).bind j) z14 z15 z16 z17 z18 z19 = (f87.p1_e2' L N k0_e0 rec0 z14 z15 z16 z17 z18 z19).bind j := by
  unfold f87.p1_e2'
  repeat' (first | (with_reducible refine cond_nat ?_ ?_) | (with_reducible refine bind_nat fun _ => ?_) | rfl)
theorem f87.p1_e2_nat {R R' : Type} (j : R → Option R') (L N : Nat) (k0_e0 : LLM → Option R) (rec0 : Bool → LLB → Int → LLM → LLM → Option R) (z14 : Bool) (z15 : LLB) (z16 : Int) (z17 : LLM) (z18 : LM) (z19 : LLM) :
    f87.p1_e2 L N (fun a0 => (k0_e0 a0).bind j) (fun a0 a1 a2 a3 a4 => (rec0 a0 a1 a2 a3 a4).bind j) z14 z15 z16 z17 z18 z19 = (f87.p1_e2 L N k0_e0 rec0 z14 z15 z16 z17 z18 z19).bind j := by
  unfold f87.p1_e2
  exact f87.p1_e2'_nat ..
theorem f87.s0'_nat {R R' : Type} (j : R → Option R') (L N : Nat) (k0_e0 : LLM → Option R) (rec0 : Bool → LLB → Int → LLM → LLM → Option R) (w1 : Bool → LLB → Int → Int → LLM → LM → LLM → Option R) (s1 : Bool) (s2 : LLB) (s3 : Int) (s4 : LLM) (s5 : LLM) :
    f87.s0' L N (fun a0 => (k0_e0 a0).bind j) (fun a0 a1 a2 a3 a4 => (rec0 a0 a1 a2 a3 a4).bind j) (fun a0 a1 a2 a3 a4 a5 a6 => (w1 a0 a1 a2 a3 a4 a5 a6).bind j) s1 s2 s3 s4 s5 = (f87.s0' L N k0_e0 rec0 w1 s1 s2 s3 s4 s5).bind j := by
  unfold f87.s0'
  repeat' (first | (with_reducible refine cond_nat ?_ ?_) | (with_reducible refine bind_nat fun _ => ?_) | rfl)
theorem f87.s0_nat {R R' : Type} (j : R → Option R') (L N : Nat) (k0_e0 : LLM → Option R) (rec0 : Bool → LLB → Int → LLM → LLM → Option R) (s1 : Bool) (s2 : LLB) (s3 : Int) (s4 : LLM) (s5 : LLM) :
    f87.s0 L N (fun a0 => (k0_e0 a0).bind j) (fun a0 a1 a2 a3 a4 => (rec0 a0 a1 a2 a3 a4).bind j) s1 s2 s3 s4 s5 = (f87.s0 L N k0_e0 rec0 s1 s2 s3 s4 s5).bind j := by
  unfold f87.s0
  simp only [f87.l1_nat, f87.p1_e2_nat]
  exact f87.s0'_nat ..
theorem f87.l0_nat {R R' : Type} (j : R → Option R') (L N : Nat) (k0_e0 : LLM → Option R) : ∀ (n : Nat) (s1 : Bool) (s2 : LLB) (s3 : Int) (s4 : LLM) (s5 : LLM),
    f87.l0 L N (fun a0 => (k0_e0 a0).bind j) n s1 s2 s3 s4 s5 = (f87.l0 L N k0_e0 n s1 s2 s3 s4 s5).bind j := by
  intro n
  induction n with
  | zero => intros; rfl
  | succ n ih =>
    intro s1 s2 s3 s4 s5
    show f87.s0 L N (fun a0 => (k0_e0 a0).bind j) (f87.l0 L N (fun a0 => (k0_e0 a0).bind j) n) s1 s2 s3 s4 s5 = _
    rw [show f87.l0 L N (fun a0 => (k0_e0 a0).bind j) n = (fun s1 s2 s3 s4 s5 => (f87.l0 L N k0_e0 n s1 s2 s3 s4 s5).bind j) from funext fun s1 => funext fun s2 => funext fun s3 => funext fun s4 => funext fun s5 => ih s1 s2 s3 s4 s5]
    exact f87.s0_nat ..
theorem f87.p0_e0'_nat {R R' : Type} (j : R → Option R') (L N : Nat) (k : Graph → Option R) (z6 : LLM) :
    f87.p0_e0' L N (fun a0 => (k a0).bind j) z6 = (f87.p0_e0' L N k z6).bind j := by
  unfold f87.p0_e0'
  repeat' (first | (with_reducible refine cond_nat ?_ ?_) | (with_reducible refine bind_nat fun _ => ?_) | rfl)
theorem f87.p0_e0_nat {R R' : Type} (j : R → Option R') (L N : Nat) (k : Graph → Option R) (z6 : LLM) :
    f87.p0_e0 L N (fun a0 => (k a0).bind j) z6 = (f87.p0_e0 L N k z6).bind j := by
  unfold f87.p0_e0
  exact f87.p0_e0'_nat ..
theorem f87.b'_nat {R R' : Type} (j : R → Option R') (L N : Nat) (k : Graph → Option R) (w0 : Bool → LLB → Int → LLM → LLM → Option R) (x0 : Graph) (x1 : Bool) :
    f87.b' L N (fun a0 => (k a0).bind j) (fun a0 a1 a2 a3 a4 => (w0 a0 a1 a2 a3 a4).bind j) x0 x1 = (f87.b' L N k w0 x0 x1).bind j := by
  unfold f87.b'
  repeat' (first | (with_reducible refine cond_nat ?_ ?_) | (with_reducible refine bind_nat fun _ => ?_) | rfl)
theorem f87.b_nat {R R' : Type} (j : R → Option R') (L N : Nat) (k : Graph → Option R) (x0 : Graph) (x1 : Bool) :
    f87.b L N (fun a0 => (k a0).bind j) x0 x1 = (f87.b L N k x0 x1).bind j := by
  unfold f87.b
  simp only [f87.l0_nat, f87.p0_e0_nat]
  exact f87.b'_nat ..
theorem f87.ok (L N : Nat) (hΦ : TellsOk Try.prog ((Φ123 L N))) : EntOk Try.prog 87 (f87.ent L N) := by
  intro args vw site h
  unfold f87.ent
  split
  · rename_i d u ha
    intro y hy hs
    refine call_data (dep := 1000) (E := (E87 L N)) (rs := (.one (.st 2))) (v' := (.tv (.st 2) y)) (sound_of hΦ) okP (callI_sound (sound_of hΦ) okP 1 2000) (f := Try.f87) rfl hs ha ?_ site
    refine (f87.b_eq L N some d.1 d.2.1).trans ?_
    refine ((f87.b_nat (fun y => (some (.tv (.st 2) y) : Option AV)) L N some d.1 d.2.1)).trans ?_
    rw [show f87.b L N some d.1 d.2.1 = some y from hy]
    rfl
  · intro y hy
    cases hy
def Φ87 (L N : Nat) : Tells := (addT (Φ123 L N) 87 (f87.ent L N))
theorem Φ87_ok (L N : Nat) : TellsOk Try.prog (Φ87 L N) := addT_ok (Φ123_ok L N) (f87.ok L N (Φ123_ok L N))
def f116.s0' {R : Type} (L N : Nat) (k0_e0 : Option R) (k0_r : Bool → Option R) (rec0 : LI → LI → Int → Option R) (s0 : LI) (s1 : LI) (s2 : Int) : Option R :=
  bif (decide (s2 < (s0.length : Int))) then
    bif (decide (0 ≤ s2) && decide (s2 < (s0.length : Int))) then
      bif (decide (0 ≤ s2) && decide (s2 < (s1.length : Int))) then
        bif ((listAt s0 (0 : Int) s2.toNat) != (listAt s1 (0 : Int) s2.toNat)) then
          k0_r false
        else rec0 s0 s1 (wi (s2 + (1 : Int)))
      else none
    else none
  else k0_e0
def f116.s0 {R : Type} (L N : Nat) (k0_e0 : Option R) (k0_r : Bool → Option R) (rec0 : LI → LI → Int → Option R) (s0 : LI) (s1 : LI) (s2 : Int) : Option R :=
  f116.s0' L N k0_e0 k0_r rec0 s0 s1 s2
def f116.l0 {R : Type} (L N : Nat) (k0_e0 : Option R) (k0_r : Bool → Option R) : Nat → LI → LI → Int → Option R
  | 0, _, _, _ => none
  | n + 1, s0, s1, s2 => f116.s0 L N k0_e0 k0_r (f116.l0 L N k0_e0 k0_r n) s0 s1 s2
def f116.T0 (s0 : LI) (s1 : LI) (s2 : Int) : T := mkT 26 [(0, (.tv (.sl i64) s0)), (1, (.tv (.sl i64) s1)), (5, (.tv i64 s2))]
def f116.H0 (s0 : LI) (s1 : LI) (s2 : Int) : H := []
def f116.T0_e0 : T := mkT 26 []
def f116.H0_e0 : H := []
def f116.T0_r (z3 : Bool) : T := mkT 26 [(4, (.tv .bool z3))]
def f116.H0_r (z3 : Bool) : H := []
def f116.p0_e0' {R : Type} (L N : Nat) (k : Bool → Option R) : Option R :=
  k true
def f116.p0_e0 {R : Type} (L N : Nat) (k : Bool → Option R) : Option R :=
  f116.p0_e0' L N k
def f116.p0_r' {R : Type} (L N : Nat) (k : Bool → Option R) (z3 : Bool) : Option R :=
  k z3
def f116.p0_r {R : Type} (L N : Nat) (k : Bool → Option R) (z3 : Bool) : Option R :=
  f116.p0_r' L N k z3
def f116.b' {R : Type} (L N : Nat) (k : Bool → Option R) (w0 : LI → LI → Int → Option R) (x0 : LI) (x1 : LI) : Option R :=
  bif ((x0.length : Int) != (x1.length : Int)) then
    k false
  else w0 x0 x1 (0 : Int)
def f116.b {R : Type} (L N : Nat) (k : Bool → Option R) (x0 : LI) (x1 : LI) : Option R :=
  f116.b' L N k (fun s0 s1 s2 => f116.l0 L N (f116.p0_e0 L N k) (fun z3 => f116.p0_r L N k z3) L s0 s1 s2) x0 x1
def f116 (L N : Nat) (x0 : LI) (x1 : LI) : Option (Bool) := f116.b L N some x0 x1
def f116.ent (L N : Nat) (args : List AV) (vw : View) (site : Nat) : Ans := match roD [(.sl i64), (.sl i64)] vw args with
  | some d => ⟨Bool, f116 L N d.1 d.2.1, fun y => ((.tv .bool y), [], [])⟩
  | none => Ans.no
noncomputable def E116 (L N : Nat) : Env := { P := Try.prog, ty := tyOf, Φ := (Φ87 L N), inl := inlT, live := lives, liveX := livesX, L := L, dp := none, prom := promT, heal := healT, ren := renT }
noncomputable def f116.c0 : Code := loopAt 0 (codeOf Try.f116)
theorem f116.s0_pre {R : Type} (L N : Nat) (κ : Ex → T → H → Option R) (rec : T → H → Option R) (s0 : LI) (s1 : LI) (s2 : Int) :
    evRd (E116 L N) (evCallI (E116 L N) 1 2000) 1000 116 26 0 f116.c0 κ rec (f116.T0 s0 s1 s2) (f116.H0 s0 s1 s2)
    = f116.s0' L N (κ (.exit 0) f116.T0_e0 f116.H0_e0) (fun z3 => κ .ret (f116.T0_r z3) (f116.H0_r z3)) (fun s0 s1 s2 => rec (f116.T0 s0 s1 s2) (f116.H0 s0 s1 s2)) s0 s1 s2 := by kernel_rfl
theorem f116.s0_eq {R : Type} (L N : Nat) (κ : Ex → T → H → Option R) (rec : T → H → Option R) (s0 : LI) (s1 : LI) (s2 : Int) :
    evRd (E116 L N) (evCallI (E116 L N) 1 2000) 1000 116 26 0 f116.c0 κ rec (f116.T0 s0 s1 s2) (f116.H0 s0 s1 s2)
    = f116.s0 L N (κ (.exit 0) f116.T0_e0 f116.H0_e0) (fun z3 => κ .ret (f116.T0_r z3) (f116.H0_r z3)) (fun s0 s1 s2 => rec (f116.T0 s0 s1 s2) (f116.H0 s0 s1 s2)) s0 s1 s2 := by
  rw [f116.s0_pre]
  unfold f116.s0
  rfl
theorem f116.l0_eq {R : Type} (L N : Nat) (κ : Ex → T → H → Option R) : ∀ (n : Nat) (s0 : LI) (s1 : LI) (s2 : Int),
    evLp (E116 L N) (evCallI (E116 L N) 1 2000) 1000 116 26 0 f116.c0 κ n (f116.T0 s0 s1 s2) (f116.H0 s0 s1 s2)
    = f116.l0 L N (κ (.exit 0) f116.T0_e0 f116.H0_e0) (fun z3 => κ .ret (f116.T0_r z3) (f116.H0_r z3)) n s0 s1 s2 := by
  intro n
  induction n with
  | zero => intros; rfl
  | succ n ih =>
    intro s0 s1 s2
    rw [evLp_succ, f116.s0_eq]
    simp only [ih]
    rfl
theorem f116.p0_e0_pre {R : Type} (L N : Nat) (κ : AV → Option R) :
    (contAt (E116 L N) (evCallI (E116 L N) 1 2000) 1000 116 26 0 (codeOf Try.f116) (finK (E116 L N) 1000 Try.f116 (finC (.one .bool) κ))) (.exit 0) f116.T0_e0 f116.H0_e0
    = f116.p0_e0' L N (fun a0 => κ (.tv .bool a0)) := by kernel_rfl
theorem f116.p0_e0_eq {R : Type} (L N : Nat) (κ : AV → Option R) :
    (contAt (E116 L N) (evCallI (E116 L N) 1 2000) 1000 116 26 0 (codeOf Try.f116) (finK (E116 L N) 1000 Try.f116 (finC (.one .bool) κ))) (.exit 0) f116.T0_e0 f116.H0_e0
    = f116.p0_e0 L N (fun a0 => κ (.tv .bool a0)) := by
  rw [f116.p0_e0_pre]
  unfold f116.p0_e0
  rfl
theorem f116.p0_r_pre {R : Type} (L N : Nat) (κ : AV → Option R) (z3 : Bool) :
    (contAt (E116 L N) (evCallI (E116 L N) 1 2000) 1000 116 26 0 (codeOf Try.f116) (finK (E116 L N) 1000 Try.f116 (finC (.one .bool) κ))) .ret (f116.T0_r z3) (f116.H0_r z3)
    = f116.p0_r' L N (fun a0 => κ (.tv .bool a0)) z3 := by kernel_rfl
theorem f116.p0_r_eq {R : Type} (L N : Nat) (κ : AV → Option R) (z3 : Bool) :
    (contAt (E116 L N) (evCallI (E116 L N) 1 2000) 1000 116 26 0 (codeOf Try.f116) (finK (E116 L N) 1000 Try.f116 (finC (.one .bool) κ))) .ret (f116.T0_r z3) (f116.H0_r z3)
    = f116.p0_r L N (fun a0 => κ (.tv .bool a0)) z3 := by
  rw [f116.p0_r_pre]
  unfold f116.p0_r
  rfl
theorem f116.b_pre {R : Type} (L N : Nat) (κ : AV → Option R) (x0 : LI) (x1 : LI) :
    evBody (E116 L N) (evCallI (E116 L N) 1 2000) 1000 116 Try.f116 [(.tv (.sl i64) x0), (.tv (.sl i64) x1)] [] [] (finC (.one .bool) κ)
    = f116.b' L N (fun a0 => κ (.tv .bool a0)) (fun s0 s1 s2 => evLp (E116 L N) (evCallI (E116 L N) 1 2000) 1000 116 26 0 f116.c0 (contAt (E116 L N) (evCallI (E116 L N) 1 2000) 1000 116 26 0 (codeOf Try.f116) (finK (E116 L N) 1000 Try.f116 (finC (.one .bool) κ))) L (f116.T0 s0 s1 s2) (f116.H0 s0 s1 s2)) x0 x1 := by kernel_rfl
theorem f116.b_eq {R : Type} (L N : Nat) (κ : AV → Option R) (x0 : LI) (x1 : LI) :
    evBody (E116 L N) (evCallI (E116 L N) 1 2000) 1000 116 Try.f116 [(.tv (.sl i64) x0), (.tv (.sl i64) x1)] [] [] (finC (.one .bool) κ)
    = f116.b L N (fun a0 => κ (.tv .bool a0)) x0 x1 := by
  rw [f116.b_pre]
  unfold f116.b
  simp only [f116.l0_eq, f116.p0_e0_eq, f116.p0_r_eq]
theorem f116.s0'_nat {R R' : Type} (j : R → Option R') (L N : Nat) (k0_e0 : Option R) (k0_r : Bool → Option R) (rec0 : LI → LI → Int → Option R) (s0 : LI) (s1 : LI) (s2 : Int) :
    f116.s0' L N (k0_e0.bind j) (fun a0 => (k0_r a0).bind j) (fun a0 a1 a2 => (rec0 a0 a1 a2).bind j) s0 s1 s2 = (f116.s0' L N k0_e0 k0_r rec0 s0 s1 s2).bind j := by
  unfold f116.s0'
  repeat' (first | (with_reducible refine cond_nat ?_ ?_) | (with_reducible refine bind_nat fun _ => ?_) | rfl)
theorem f116.s0_nat {R R' : Type} (j : R → Option R') (L N : Nat) (k0_e0 : Option R) (k0_r : Bool → Option R) (rec0 : LI → LI → Int → Option R) (s0 : LI) (s1 : LI) (s2 : Int) :
    f116.s0 L N (k0_e0.bind j) (fun a0 => (k0_r a0).bind j) (fun a0 a1 a2 => (rec0 a0 a1 a2).bind j) s0 s1 s2 = (f116.s0 L N k0_e0 k0_r rec0 s0 s1 s2).bind j := by
  unfold f116.s0
  exact f116.s0'_nat ..
theorem f116.l0_nat {R R' : Type} (j : R → Option R') (L N : Nat) (k0_e0 : Option R) (k0_r : Bool → Option R) : ∀ (n : Nat) (s0 : LI) (s1 : LI) (s2 : Int),
    f116.l0 L N (k0_e0.bind j) (fun a0 => (k0_r a0).bind j) n s0 s1 s2 = (f116.l0 L N k0_e0 k0_r n s0 s1 s2).bind j := by
  intro n
  induction n with
  | zero => intros; rfl
  | succ n ih =>
    intro s0 s1 s2
    show f116.s0 L N (k0_e0.bind j) (fun a0 => (k0_r a0).bind j) (f116.l0 L N (k0_e0.bind j) (fun a0 => (k0_r a0).bind j) n) s0 s1 s2 = _
    rw [show f116.l0 L N (k0_e0.bind j) (fun a0 => (k0_r a0).bind j) n = (fun s0 s1 s2 => (f116.l0 L N k0_e0 k0_r n s0 s1 s2).bind j) from funext fun s0 => funext fun s1 => funext fun s2 => ih s0 s1 s2]
    exact f116.s0_nat ..
theorem f116.p0_e0'_nat {R R' : Type} (j : R → Option R') (L N : Nat) (k : Bool → Option R) :
    f116.p0_e0' L N (fun a0 => (k a0).bind j) = (f116.p0_e0' L N k).bind j := by
  unfold f116.p0_e0'
  repeat' (first | (with_reducible refine cond_nat ?_ ?_) | (with_reducible refine bind_nat fun _ => ?_) | rfl)
theorem f116.p0_e0_nat {R R' : Type} (j : R → Option R') (L N : Nat) (k : Bool → Option R) :
    f116.p0_e0 L N (fun a0 => (k a0).bind j) = (f116.p0_e0 L N k).bind j := by
  unfold f116.p0_e0
  exact f116.p0_e0'_nat ..
theorem f116.p0_r'_nat {R R' : Type} (j : R → Option R') (L N : Nat) (k : Bool → Option R) (z3 : Bool) :
    f116.p0_r' L N (fun a0 => (k a0).bind j) z3 = (f116.p0_r' L N k z3).bind j := by
  unfold f116.p0_r'
  repeat' (first | (with_reducible refine cond_nat ?_ ?_) | (with_reducible refine bind_nat fun _ => ?_) | rfl)
theorem f116.p0_r_nat {R R' : Type} (j : R → Option R') (L N : Nat) (k : Bool → Option R) (z3 : Bool) :
    f116.p0_r L N (fun a0 => (k a0).bind j) z3 = (f116.p0_r L N k z3).bind j := by
  unfold f116.p0_r
  exact f116.p0_r'_nat ..
theorem f116.b'_nat {R R' : Type} (j : R → Option R') (L N : Nat) (k : Bool → Option R) (w0 : LI → LI → Int → Option R) (x0 : LI) (x1 : LI) :
    f116.b' L N (fun a0 => (k a0).bind j) (fun a0 a1 a2 => (w0 a0 a1 a2).bind j) x0 x1 = (f116.b' L N k w0 x0 x1).bind j := by
  unfold f116.b'
  repeat' (first | (with_reducible refine cond_nat ?_ ?_) | (with_reducible refine bind_nat fun _ => ?_) | rfl)
theorem f116.b_nat {R R' : Type} (j : R → Option R') (L N : Nat) (k : Bool → Option R) (x0 : LI) (x1 : LI) :
    f116.b L N (fun a0 => (k a0).bind j) x0 x1 = (f116.b L N k x0 x1).bind j := by
  unfold f116.b
  simp only [f116.l0_nat, f116.p0_e0_nat, f116.p0_r_nat]
  exact f116.b'_nat ..
theorem f116.ok (L N : Nat) (hΦ : TellsOk Try.prog ((Φ87 L N))) : EntOk Try.prog 116 (f116.ent L N) := by
  intro args vw site h
  unfold f116.ent
  split
  · rename_i d ha
    intro y hy hs
    refine call_ro (dep := 1000) (E := (E116 L N)) (rs := (.one .bool)) (v := (.tv .bool y)) (sound_of hΦ) okP (callI_sound (sound_of hΦ) okP 1 2000) (f := Try.f116) rfl hs ha ?_ rfl site
    refine (f116.b_eq L N some d.1 d.2.1).trans ?_
    refine ((f116.b_nat (fun y => (some (.tv .bool y) : Option AV)) L N some d.1 d.2.1)).trans ?_
    rw [show f116.b L N some d.1 d.2.1 = some y from hy]
    rfl
  · intro y hy
    cases hy
def Φ116 (L N : Nat) : Tells := (addT (Φ87 L N) 116 (f116.ent L N))
theorem Φ116_ok (L N : Nat) : TellsOk Try.prog (Φ116 L N) := addT_ok (Φ87_ok L N) (f116.ok L N (Φ87_ok L N))
def f183.s0' {R : Type} (L N : Nat) (k0_e0 : Option R) (k0_r : Bool → Option R) (rec0 : Int → Int → LI → Int → Int → LLM → Option R) (s0 : Int) (s1 : Int) (s2 : LI) (s3 : Int) (s4 : Int) (s5 : LLM) : Option R :=
  bif (decide (0 ≤ s0) && decide (s0 < (s5.length : Int))) then
    bif (decide (s4 < ((listAt s5 [] s0.toNat).length : Int))) then
      bif (decide (0 ≤ s0) && decide (s0 < (s5.length : Int))) then
        bif (decide (0 ≤ s4) && decide (s4 < ((listAt s5 [] s0.toNat).length : Int))) then
          bif ((listAt (listAt s5 [] s0.toNat) (Ty.dflt (.st 0)) s4.toNat).act == s1) then
            bif (decide (0 ≤ (listAt (listAt s5 [] s0.toNat) (Ty.dflt (.st 0)) s4.toNat).to) && decide ((listAt (listAt s5 [] s0.toNat) (Ty.dflt (.st 0)) s4.toNat).to < (s2.length : Int))) then
              bif ((listAt s2 (0 : Int) ((listAt (listAt s5 [] s0.toNat) (Ty.dflt (.st 0)) s4.toNat).to).toNat) == s3) then
                k0_r true
              else rec0 s0 s1 s2 s3 (wi (s4 + (1 : Int))) s5
            else none
          else rec0 s0 s1 s2 s3 (wi (s4 + (1 : Int))) s5
        else none
      else none
    else k0_e0
  else none
def f183.s0 {R : Type} (L N : Nat) (k0_e0 : Option R) (k0_r : Bool → Option R) (rec0 : Int → Int → LI → Int → Int → LLM → Option R) (s0 : Int) (s1 : Int) (s2 : LI) (s3 : Int) (s4 : Int) (s5 : LLM) : Option R :=
  f183.s0' L N k0_e0 k0_r rec0 s0 s1 s2 s3 s4 s5
def f183.l0 {R : Type} (L N : Nat) (k0_e0 : Option R) (k0_r : Bool → Option R) : Nat → Int → Int → LI → Int → Int → LLM → Option R
  | 0, _, _, _, _, _, _ => none
  | n + 1, s0, s1, s2, s3, s4, s5 => f183.s0 L N k0_e0 k0_r (f183.l0 L N k0_e0 k0_r n) s0 s1 s2 s3 s4 s5
def f183.T0 (s0 : Int) (s1 : Int) (s2 : LI) (s3 : Int) (s4 : Int) (s5 : LLM) : T := mkT 44 [(1, (.tv i64 s0)), (2, (.tv i64 s1)), (3, (.tv (.sl i64) s2)), (4, (.tv i64 s3)), (5, (.ptr 1005 0)), (11, (.tv i64 s4))]
def f183.H0 (s0 : Int) (s1 : Int) (s2 : LI) (s3 : Int) (s4 : Int) (s5 : LLM) : H := [(1005, (.box [(.tv (.sl (.sl (.st 0))) s5)]))]
def f183.T0_e0 : T := mkT 44 []
def f183.H0_e0 : H := []
def f183.T0_r (z13 : Bool) : T := mkT 44 [(10, (.tv .bool z13))]
def f183.H0_r (z13 : Bool) : H := []
def f183.p0_e0' {R : Type} (L N : Nat) (k : Bool → Option R) : Option R :=
  k false
def f183.p0_e0 {R : Type} (L N : Nat) (k : Bool → Option R) : Option R :=
  f183.p0_e0' L N k
def f183.p0_r' {R : Type} (L N : Nat) (k : Bool → Option R) (z13 : Bool) : Option R :=
  k z13
def f183.p0_r {R : Type} (L N : Nat) (k : Bool → Option R) (z13 : Bool) : Option R :=
  f183.p0_r' L N k z13
def f183.b' {R : Type} (L N : Nat) (k : Bool → Option R) (w0 : Int → Int → LI → Int → Int → LLM → Option R) (x0 : Graph) (x1 : Int) (x2 : Int) (x3 : LI) (x4 : Int) : Option R :=
  w0 x1 x2 x3 x4 (0 : Int) x0.moves
def f183.b {R : Type} (L N : Nat) (k : Bool → Option R) (x0 : Graph) (x1 : Int) (x2 : Int) (x3 : LI) (x4 : Int) : Option R :=
  f183.b' L N k (fun s0 s1 s2 s3 s4 s5 => f183.l0 L N (f183.p0_e0 L N k) (fun z13 => f183.p0_r L N k z13) L s0 s1 s2 s3 s4 s5) x0 x1 x2 x3 x4
def f183 (L N : Nat) (x0 : Graph) (x1 : Int) (x2 : Int) (x3 : LI) (x4 : Int) : Option (Bool) := f183.b L N some x0 x1 x2 x3 x4
def f183.ent (L N : Nat) (args : List AV) (vw : View) (site : Nat) : Ans := match roD [(.st 2), i64, i64, (.sl i64), i64] vw args with
  | some d => ⟨Bool, f183 L N d.1 d.2.1 d.2.2.1 d.2.2.2.1 d.2.2.2.2.1, fun y => ((.tv .bool y), [], [])⟩
  | none => Ans.no
noncomputable def E183 (L N : Nat) : Env := { P := Try.prog, ty := tyOf, Φ := (Φ116 L N), inl := inlT, live := lives, liveX := livesX, L := L, dp := none, prom := promT, heal := healT, ren := renT }
noncomputable def f183.c0 : Code := loopAt 0 (codeOf Try.f183)
theorem f183.s0_pre {R : Type} (L N : Nat) (κ : Ex → T → H → Option R) (rec : T → H → Option R) (s0 : Int) (s1 : Int) (s2 : LI) (s3 : Int) (s4 : Int) (s5 : LLM) :
    evRd (E183 L N) (evCallI (E183 L N) 1 2000) 1000 183 44 0 f183.c0 κ rec (f183.T0 s0 s1 s2 s3 s4 s5) (f183.H0 s0 s1 s2 s3 s4 s5)
    = f183.s0' L N (κ (.exit 0) f183.T0_e0 f183.H0_e0) (fun z13 => κ .ret (f183.T0_r z13) (f183.H0_r z13)) (fun s0 s1 s2 s3 s4 s5 => rec (f183.T0 s0 s1 s2 s3 s4 s5) (f183.H0 s0 s1 s2 s3 s4 s5)) s0 s1 s2 s3 s4 s5 := by kernel_rfl
theorem f183.s0_eq {R : Type} (L N : Nat) (κ : Ex → T → H → Option R) (rec : T → H → Option R) (s0 : Int) (s1 : Int) (s2 : LI) (s3 : Int) (s4 : Int) (s5 : LLM) :
    evRd (E183 L N) (evCallI (E183 L N) 1 2000) 1000 183 44 0 f183.c0 κ rec (f183.T0 s0 s1 s2 s3 s4 s5) (f183.H0 s0 s1 s2 s3 s4 s5)
    = f183.s0 L N (κ (.exit 0) f183.T0_e0 f183.H0_e0) (fun z13 => κ .ret (f183.T0_r z13) (f183.H0_r z13)) (fun s0 s1 s2 s3 s4 s5 => rec (f183.T0 s0 s1 s2 s3 s4 s5) (f183.H0 s0 s1 s2 s3 s4 s5)) s0 s1 s2 s3 s4 s5 := by
  rw [f183.s0_pre]
  unfold f183.s0
  rfl
theorem f183.l0_eq {R : Type} (L N : Nat) (κ : Ex → T → H → Option R) : ∀ (n : Nat) (s0 : Int) (s1 : Int) (s2 : LI) (s3 : Int) (s4 : Int) (s5 : LLM),
    evLp (E183 L N) (evCallI (E183 L N) 1 2000) 1000 183 44 0 f183.c0 κ n (f183.T0 s0 s1 s2 s3 s4 s5) (f183.H0 s0 s1 s2 s3 s4 s5)
    = f183.l0 L N (κ (.exit 0) f183.T0_e0 f183.H0_e0) (fun z13 => κ .ret (f183.T0_r z13) (f183.H0_r z13)) n s0 s1 s2 s3 s4 s5 := by
  intro n
  induction n with
  | zero => intros; rfl
  | succ n ih =>
    intro s0 s1 s2 s3 s4 s5
    rw [evLp_succ, f183.s0_eq]
    simp only [ih]
    rfl
theorem f183.p0_e0_pre {R : Type} (L N : Nat) (κ : AV → Option R) :
    (contAt (E183 L N) (evCallI (E183 L N) 1 2000) 1000 183 44 0 (codeOf Try.f183) (finK (E183 L N) 1000 Try.f183 (finC (.one .bool) κ))) (.exit 0) f183.T0_e0 f183.H0_e0
    = f183.p0_e0' L N (fun a0 => κ (.tv .bool a0)) := by kernel_rfl
theorem f183.p0_e0_eq {R : Type} (L N : Nat) (κ : AV → Option R) :
    (contAt (E183 L N) (evCallI (E183 L N) 1 2000) 1000 183 44 0 (codeOf Try.f183) (finK (E183 L N) 1000 Try.f183 (finC (.one .bool) κ))) (.exit 0) f183.T0_e0 f183.H0_e0
    = f183.p0_e0 L N (fun a0 => κ (.tv .bool a0)) := by
  rw [f183.p0_e0_pre]
  unfold f183.p0_e0
  rfl
theorem f183.p0_r_pre {R : Type} (L N : Nat) (κ : AV → Option R) (z13 : Bool) :
    (contAt (E183 L N) (evCallI (E183 L N) 1 2000) 1000 183 44 0 (codeOf Try.f183) (finK (E183 L N) 1000 Try.f183 (finC (.one .bool) κ))) .ret (f183.T0_r z13) (f183.H0_r z13)
    = f183.p0_r' L N (fun a0 => κ (.tv .bool a0)) z13 := by kernel_rfl
theorem f183.p0_r_eq {R : Type} (L N : Nat) (κ : AV → Option R) (z13 : Bool) :
    (contAt (E183 L N) (evCallI (E183 L N) 1 2000) 1000 183 44 0 (codeOf Try.f183) (finK (E183 L N) 1000 Try.f183 (finC (.one .bool) κ))) .ret (f183.T0_r z13) (f183.H0_r z13)
    = f183.p0_r L N (fun a0 => κ (.tv .bool a0)) z13 := by
  rw [f183.p0_r_pre]
  unfold f183.p0_r
  rfl
theorem f183.b_pre {R : Type} (L N : Nat) (κ : AV → Option R) (x0 : Graph) (x1 : Int) (x2 : Int) (x3 : LI) (x4 : Int) :
    evBody (E183 L N) (evCallI (E183 L N) 1 2000) 1000 183 Try.f183 [(.tv (.st 2) x0), (.tv i64 x1), (.tv i64 x2), (.tv (.sl i64) x3), (.tv i64 x4)] [] [] (finC (.one .bool) κ)
    = f183.b' L N (fun a0 => κ (.tv .bool a0)) (fun s0 s1 s2 s3 s4 s5 => evLp (E183 L N) (evCallI (E183 L N) 1 2000) 1000 183 44 0 f183.c0 (contAt (E183 L N) (evCallI (E183 L N) 1 2000) 1000 183 44 0 (codeOf Try.f183) (finK (E183 L N) 1000 Try.f183 (finC (.one .bool) κ))) L (f183.T0 s0 s1 s2 s3 s4 s5) (f183.H0 s0 s1 s2 s3 s4 s5)) x0 x1 x2 x3 x4 := by kernel_rfl
theorem f183.b_eq {R : Type} (L N : Nat) (κ : AV → Option R) (x0 : Graph) (x1 : Int) (x2 : Int) (x3 : LI) (x4 : Int) :
    evBody (E183 L N) (evCallI (E183 L N) 1 2000) 1000 183 Try.f183 [(.tv (.st 2) x0), (.tv i64 x1), (.tv i64 x2), (.tv (.sl i64) x3), (.tv i64 x4)] [] [] (finC (.one .bool) κ)
    = f183.b L N (fun a0 => κ (.tv .bool a0)) x0 x1 x2 x3 x4 := by
  rw [f183.b_pre]
  unfold f183.b
  simp only [f183.l0_eq, f183.p0_e0_eq, f183.p0_r_eq]
theorem f183.s0'_nat {R R' : Type} (j : R → Option R') (L N : Nat) (k0_e0 : Option R) (k0_r : Bool → Option R) (rec0 : Int → Int → LI → Int → Int → LLM → Option R) (s0 : Int) (s1 : Int) (s2 : LI) (s3 : Int) (s4 : Int) (s5 : LLM) :
    f183.s0' L N (k0_e0.bind j) (fun a0 => (k0_r a0).bind j) (fun a0 a1 a2 a3 a4 a5 => (rec0 a0 a1 a2 a3 a4 a5).bind j) s0 s1 s2 s3 s4 s5 = (f183.s0' L N k0_e0 k0_r rec0 s0 s1 s2 s3 s4 s5).bind j := by
  unfold f183.s0'
  repeat' (first | (with_reducible refine cond_nat ?_ ?_) | (with_reducible refine bind_nat fun _ => ?_) | rfl)
theorem f183.s0_nat {R R' : Type} (j : R → Option R') (L N : Nat) (k0_e0 : Option R) (k0_r : Bool → Option R) (rec0 : Int → Int → LI → Int → Int → LLM → Option R) (s0 : Int) (s1 : Int) (s2 : LI) (s3 : Int) (s4 : Int) (s5 : LLM) :
    f183.s0 L N (k0_e0.bind j) (fun a0 => (k0_r a0).bind j) (fun a0 a1 a2 a3 a4 a5 => (rec0 a0 a1 a2 a3 a4 a5).bind j) s0 s1 s2 s3 s4 s5 = (f183.s0 L N k0_e0 k0_r rec0 s0 s1 s2 s3 s4 s5).bind j := by
  unfold f183.s0
  exact f183.s0'_nat ..
theorem f183.l0_nat {R R' : Type} (j : R → Option R') (L N : Nat) (k0_e0 : Option R) (k0_r : Bool → Option R) : ∀ (n : Nat) (s0 : Int) (s1 : Int) (s2 : LI) (s3 : Int) (s4 : Int) (s5 : LLM),
    f183.l0 L N (k0_e0.bind j) (fun a0 => (k0_r a0).bind j) n s0 s1 s2 s3 s4 s5 = (f183.l0 L N k0_e0 k0_r n s0 s1 s2 s3 s4 s5).bind j := by
  intro n
  induction n with
  | zero => intros; rfl
  | succ n ih =>
    intro s0 s1 s2 s3 s4 s5
    show f183.s0 L N (k0_e0.bind j) (fun a0 => (k0_r a0).bind j) (f183.l0 L N (k0_e0.bind j) (fun a0 => (k0_r a0).bind j) n) s0 s1 s2 s3 s4 s5 = _
    rw [show f183.l0 L N (k0_e0.bind j) (fun a0 => (k0_r a0).bind j) n = (fun s0 s1 s2 s3 s4 s5 => (f183.l0 L N k0_e0 k0_r n s0 s1 s2 s3 s4 s5).bind j) from funext fun s0 => funext fun s1 => funext fun s2 => funext fun s3 => funext fun s4 => funext fun s5 => ih s0 s1 s2 s3 s4 s5]
    exact f183.s0_nat ..
theorem f183.p0_e0'_nat {R R' : Type} (j : R → Option R') (L N : Nat) (k : Bool → Option R) :
    f183.p0_e0' L N (fun a0 => (k a0).bind j) = (f183.p0_e0' L N k).bind j := by
  unfold f183.p0_e0'
  repeat' (first | (with_reducible refine cond_nat ?_ ?_) | (with_reducible refine bind_nat fun _ => ?_) | rfl)
theorem f183.p0_e0_nat {R R' : Type} (j : R → Option R') (L N : Nat) (k : Bool → Option R) :
    f183.p0_e0 L N (fun a0 => (k a0).bind j) = (f183.p0_e0 L N k).bind j := by
  unfold f183.p0_e0
  exact f183.p0_e0'_nat ..
theorem f183.p0_r'_nat {R R' : Type} (j : R → Option R') (L N : Nat) (k : Bool → Option R) (z13 : Bool) :
    f183.p0_r' L N (fun a0 => (k a0).bind j) z13 = (f183.p0_r' L N k z13).bind j := by
  unfold f183.p0_r'
  repeat' (first | (with_reducible refine cond_nat ?_ ?_) | (with_reducible refine bind_nat fun _ => ?_) | rfl)
theorem f183.p0_r_nat {R R' : Type} (j : R → Option R') (L N : Nat) (k : Bool → Option R) (z13 : Bool) :
    f183.p0_r L N (fun a0 => (k a0).bind j) z13 = (f183.p0_r L N k z13).bind j := by
  unfold f183.p0_r
  exact f183.p0_r'_nat ..
theorem f183.b'_nat {R R' : Type} (j : R → Option R') (L N : Nat) (k : Bool → Option R) (w0 : Int → Int → LI → Int → Int → LLM → Option R) (x0 : Graph) (x1 : Int) (x2 : Int) (x3 : LI) (x4 : Int) :
    f183.b' L N (fun a0 => (k a0).bind j) (fun a0 a1 a2 a3 a4 a5 => (w0 a0 a1 a2 a3 a4 a5).bind j) x0 x1 x2 x3 x4 = (f183.b' L N k w0 x0 x1 x2 x3 x4).bind j := by
  unfold f183.b'
  repeat' (first | (with_reducible refine cond_nat ?_ ?_) | (with_reducible refine bind_nat fun _ => ?_) | rfl)
theorem f183.b_nat {R R' : Type} (j : R → Option R') (L N : Nat) (k : Bool → Option R) (x0 : Graph) (x1 : Int) (x2 : Int) (x3 : LI) (x4 : Int) :
    f183.b L N (fun a0 => (k a0).bind j) x0 x1 x2 x3 x4 = (f183.b L N k x0 x1 x2 x3 x4).bind j := by
  unfold f183.b
  simp only [f183.l0_nat, f183.p0_e0_nat, f183.p0_r_nat]
  exact f183.b'_nat ..
theorem f183.ok (L N : Nat) (hΦ : TellsOk Try.prog ((Φ116 L N))) : EntOk Try.prog 183 (f183.ent L N) := by
  intro args vw site h
  unfold f183.ent
  split
  · rename_i d ha
    intro y hy hs
    refine call_ro (dep := 1000) (E := (E183 L N)) (rs := (.one .bool)) (v := (.tv .bool y)) (sound_of hΦ) okP (callI_sound (sound_of hΦ) okP 1 2000) (f := Try.f183) rfl hs ha ?_ rfl site
    refine (f183.b_eq L N some d.1 d.2.1 d.2.2.1 d.2.2.2.1 d.2.2.2.2.1).trans ?_
    refine ((f183.b_nat (fun y => (some (.tv .bool y) : Option AV)) L N some d.1 d.2.1 d.2.2.1 d.2.2.2.1 d.2.2.2.2.1)).trans ?_
    rw [show f183.b L N some d.1 d.2.1 d.2.2.1 d.2.2.2.1 d.2.2.2.2.1 = some y from hy]
    rfl
  · intro y hy
    cases hy
def Φ183 (L N : Nat) : Tells := (addT (Φ116 L N) 183 (f183.ent L N))
theorem Φ183_ok (L N : Nat) : TellsOk Try.prog (Φ183 L N) := addT_ok (Φ116_ok L N) (f183.ok L N (Φ116_ok L N))
def f157.s0' {R : Type} (L N : Nat) (k0_e0 : Option R) (k0_r : Bool → Option R) (rec0 : Int → Int → LI → Int → LLM → Option R) (s0 : Int) (s1 : Int) (s2 : LI) (s3 : Int) (s4 : LLM) : Option R :=
  bif (decide (0 ≤ s0) && decide (s0 < (s4.length : Int))) then
    bif (decide (s3 < ((listAt s4 [] s0.toNat).length : Int))) then
      bif (decide (0 ≤ s0) && decide (s0 < (s4.length : Int))) then
        bif (decide (0 ≤ s3) && decide (s3 < ((listAt s4 [] s0.toNat).length : Int))) then
          bif (decide (0 ≤ (listAt (listAt s4 [] s0.toNat) (Ty.dflt (.st 0)) s3.toNat).to) && decide ((listAt (listAt s4 [] s0.toNat) (Ty.dflt (.st 0)) s3.toNat).to < (s2.length : Int))) then
            (f183 L N (Graph.mk s4) s1 ((listAt (listAt s4 [] s0.toNat) (Ty.dflt (.st 0)) s3.toNat).act) s2 (listAt s2 (0 : Int) ((listAt (listAt s4 [] s0.toNat) (Ty.dflt (.st 0)) s3.toNat).to).toNat)).bind fun y5 =>
            bif (!y5) then
              k0_r false
            else rec0 s0 s1 s2 (wi (s3 + (1 : Int))) s4
          else none
        else none
      else none
    else k0_e0
  else none
def f157.s0 {R : Type} (L N : Nat) (k0_e0 : Option R) (k0_r : Bool → Option R) (rec0 : Int → Int → LI → Int → LLM → Option R) (s0 : Int) (s1 : Int) (s2 : LI) (s3 : Int) (s4 : LLM) : Option R :=
  f157.s0' L N k0_e0 k0_r rec0 s0 s1 s2 s3 s4
def f157.l0 {R : Type} (L N : Nat) (k0_e0 : Option R) (k0_r : Bool → Option R) : Nat → Int → Int → LI → Int → LLM → Option R
  | 0, _, _, _, _, _ => none
  | n + 1, s0, s1, s2, s3, s4 => f157.s0 L N k0_e0 k0_r (f157.l0 L N k0_e0 k0_r n) s0 s1 s2 s3 s4
def f157.T0 (s0 : Int) (s1 : Int) (s2 : LI) (s3 : Int) (s4 : LLM) : T := mkT 41 [(1, (.tv i64 s0)), (2, (.tv i64 s1)), (3, (.tv (.sl i64) s2)), (4, (.ptr 1004 0)), (9, (.tv i64 s3))]
def f157.H0 (s0 : Int) (s1 : Int) (s2 : LI) (s3 : Int) (s4 : LLM) : H := [(1004, (.box [(.tv (.sl (.sl (.st 0))) s4)]))]
def f157.T0_e0 : T := mkT 41 []
def f157.H0_e0 : H := []
def f157.T0_r (z6 : Bool) : T := mkT 41 [(8, (.tv .bool z6))]
def f157.H0_r (z6 : Bool) : H := []
def f157.p0_e0' {R : Type} (L N : Nat) (k : Bool → Option R) : Option R :=
  k true
def f157.p0_e0 {R : Type} (L N : Nat) (k : Bool → Option R) : Option R :=
  f157.p0_e0' L N k
def f157.p0_r' {R : Type} (L N : Nat) (k : Bool → Option R) (z6 : Bool) : Option R :=
  k z6
def f157.p0_r {R : Type} (L N : Nat) (k : Bool → Option R) (z6 : Bool) : Option R :=
  f157.p0_r' L N k z6
def f157.b' {R : Type} (L N : Nat) (k : Bool → Option R) (w0 : Int → Int → LI → Int → LLM → Option R) (x0 : Graph) (x1 : Int) (x2 : Int) (x3 : LI) : Option R :=
  w0 x1 x2 x3 (0 : Int) x0.moves
def f157.b {R : Type} (L N : Nat) (k : Bool → Option R) (x0 : Graph) (x1 : Int) (x2 : Int) (x3 : LI) : Option R :=
  f157.b' L N k (fun s0 s1 s2 s3 s4 => f157.l0 L N (f157.p0_e0 L N k) (fun z6 => f157.p0_r L N k z6) L s0 s1 s2 s3 s4) x0 x1 x2 x3
def f157 (L N : Nat) (x0 : Graph) (x1 : Int) (x2 : Int) (x3 : LI) : Option (Bool) := f157.b L N some x0 x1 x2 x3
def f157.ent (L N : Nat) (args : List AV) (vw : View) (site : Nat) : Ans := match roD [(.st 2), i64, i64, (.sl i64)] vw args with
  | some d => ⟨Bool, f157 L N d.1 d.2.1 d.2.2.1 d.2.2.2.1, fun y => ((.tv .bool y), [], [])⟩
  | none => Ans.no
noncomputable def E157 (L N : Nat) : Env := { P := Try.prog, ty := tyOf, Φ := (Φ183 L N), inl := inlT, live := lives, liveX := livesX, L := L, dp := none, prom := promT, heal := healT, ren := renT }
noncomputable def f157.c0 : Code := loopAt 0 (codeOf Try.f157)
theorem f157.s0_pre {R : Type} (L N : Nat) (κ : Ex → T → H → Option R) (rec : T → H → Option R) (s0 : Int) (s1 : Int) (s2 : LI) (s3 : Int) (s4 : LLM) :
    evRd (E157 L N) (evCallI (E157 L N) 1 2000) 1000 157 41 0 f157.c0 κ rec (f157.T0 s0 s1 s2 s3 s4) (f157.H0 s0 s1 s2 s3 s4)
    = f157.s0' L N (κ (.exit 0) f157.T0_e0 f157.H0_e0) (fun z6 => κ .ret (f157.T0_r z6) (f157.H0_r z6)) (fun s0 s1 s2 s3 s4 => rec (f157.T0 s0 s1 s2 s3 s4) (f157.H0 s0 s1 s2 s3 s4)) s0 s1 s2 s3 s4 := by kernel_rfl
theorem f157.s0_eq {R : Type} (L N : Nat) (κ : Ex → T → H → Option R) (rec : T → H → Option R) (s0 : Int) (s1 : Int) (s2 : LI) (s3 : Int) (s4 : LLM) :
    evRd (E157 L N) (evCallI (E157 L N) 1 2000) 1000 157 41 0 f157.c0 κ rec (f157.T0 s0 s1 s2 s3 s4) (f157.H0 s0 s1 s2 s3 s4)
    = f157.s0 L N (κ (.exit 0) f157.T0_e0 f157.H0_e0) (fun z6 => κ .ret (f157.T0_r z6) (f157.H0_r z6)) (fun s0 s1 s2 s3 s4 => rec (f157.T0 s0 s1 s2 s3 s4) (f157.H0 s0 s1 s2 s3 s4)) s0 s1 s2 s3 s4 := by
  rw [f157.s0_pre]
  unfold f157.s0
  rfl
theorem f157.l0_eq {R : Type} (L N : Nat) (κ : Ex → T → H → Option R) : ∀ (n : Nat) (s0 : Int) (s1 : Int) (s2 : LI) (s3 : Int) (s4 : LLM),
    evLp (E157 L N) (evCallI (E157 L N) 1 2000) 1000 157 41 0 f157.c0 κ n (f157.T0 s0 s1 s2 s3 s4) (f157.H0 s0 s1 s2 s3 s4)
    = f157.l0 L N (κ (.exit 0) f157.T0_e0 f157.H0_e0) (fun z6 => κ .ret (f157.T0_r z6) (f157.H0_r z6)) n s0 s1 s2 s3 s4 := by
  intro n
  induction n with
  | zero => intros; rfl
  | succ n ih =>
    intro s0 s1 s2 s3 s4
    rw [evLp_succ, f157.s0_eq]
    simp only [ih]
    rfl
theorem f157.p0_e0_pre {R : Type} (L N : Nat) (κ : AV → Option R) :
    (contAt (E157 L N) (evCallI (E157 L N) 1 2000) 1000 157 41 0 (codeOf Try.f157) (finK (E157 L N) 1000 Try.f157 (finC (.one .bool) κ))) (.exit 0) f157.T0_e0 f157.H0_e0
    = f157.p0_e0' L N (fun a0 => κ (.tv .bool a0)) := by kernel_rfl
theorem f157.p0_e0_eq {R : Type} (L N : Nat) (κ : AV → Option R) :
    (contAt (E157 L N) (evCallI (E157 L N) 1 2000) 1000 157 41 0 (codeOf Try.f157) (finK (E157 L N) 1000 Try.f157 (finC (.one .bool) κ))) (.exit 0) f157.T0_e0 f157.H0_e0
    = f157.p0_e0 L N (fun a0 => κ (.tv .bool a0)) := by
  rw [f157.p0_e0_pre]
  unfold f157.p0_e0
  rfl
theorem f157.p0_r_pre {R : Type} (L N : Nat) (κ : AV → Option R) (z6 : Bool) :
    (contAt (E157 L N) (evCallI (E157 L N) 1 2000) 1000 157 41 0 (codeOf Try.f157) (finK (E157 L N) 1000 Try.f157 (finC (.one .bool) κ))) .ret (f157.T0_r z6) (f157.H0_r z6)
    = f157.p0_r' L N (fun a0 => κ (.tv .bool a0)) z6 := by kernel_rfl
theorem f157.p0_r_eq {R : Type} (L N : Nat) (κ : AV → Option R) (z6 : Bool) :
    (contAt (E157 L N) (evCallI (E157 L N) 1 2000) 1000 157 41 0 (codeOf Try.f157) (finK (E157 L N) 1000 Try.f157 (finC (.one .bool) κ))) .ret (f157.T0_r z6) (f157.H0_r z6)
    = f157.p0_r L N (fun a0 => κ (.tv .bool a0)) z6 := by
  rw [f157.p0_r_pre]
  unfold f157.p0_r
  rfl
theorem f157.b_pre {R : Type} (L N : Nat) (κ : AV → Option R) (x0 : Graph) (x1 : Int) (x2 : Int) (x3 : LI) :
    evBody (E157 L N) (evCallI (E157 L N) 1 2000) 1000 157 Try.f157 [(.tv (.st 2) x0), (.tv i64 x1), (.tv i64 x2), (.tv (.sl i64) x3)] [] [] (finC (.one .bool) κ)
    = f157.b' L N (fun a0 => κ (.tv .bool a0)) (fun s0 s1 s2 s3 s4 => evLp (E157 L N) (evCallI (E157 L N) 1 2000) 1000 157 41 0 f157.c0 (contAt (E157 L N) (evCallI (E157 L N) 1 2000) 1000 157 41 0 (codeOf Try.f157) (finK (E157 L N) 1000 Try.f157 (finC (.one .bool) κ))) L (f157.T0 s0 s1 s2 s3 s4) (f157.H0 s0 s1 s2 s3 s4)) x0 x1 x2 x3 := by kernel_rfl
theorem f157.b_eq {R : Type} (L N : Nat) (κ : AV → Option R) (x0 : Graph) (x1 : Int) (x2 : Int) (x3 : LI) :
    evBody (E157 L N) (evCallI (E157 L N) 1 2000) 1000 157 Try.f157 [(.tv (.st 2) x0), (.tv i64 x1), (.tv i64 x2), (.tv (.sl i64) x3)] [] [] (finC (.one .bool) κ)
    = f157.b L N (fun a0 => κ (.tv .bool a0)) x0 x1 x2 x3 := by
  rw [f157.b_pre]
  unfold f157.b
  simp only [f157.l0_eq, f157.p0_e0_eq, f157.p0_r_eq]
theorem f157.s0'_nat {R R' : Type} (j : R → Option R') (L N : Nat) (k0_e0 : Option R) (k0_r : Bool → Option R) (rec0 : Int → Int → LI → Int → LLM → Option R) (s0 : Int) (s1 : Int) (s2 : LI) (s3 : Int) (s4 : LLM) :
    f157.s0' L N (k0_e0.bind j) (fun a0 => (k0_r a0).bind j) (fun a0 a1 a2 a3 a4 => (rec0 a0 a1 a2 a3 a4).bind j) s0 s1 s2 s3 s4 = (f157.s0' L N k0_e0 k0_r rec0 s0 s1 s2 s3 s4).bind j := by
  unfold f157.s0'
  repeat' (first | (with_reducible refine cond_nat ?_ ?_) | (with_reducible refine bind_nat fun _ => ?_) | rfl)
theorem f157.s0_nat {R R' : Type} (j : R → Option R') (L N : Nat) (k0_e0 : Option R) (k0_r : Bool → Option R) (rec0 : Int → Int → LI → Int → LLM → Option R) (s0 : Int) (s1 : Int) (s2 : LI) (s3 : Int) (s4 : LLM) :
    f157.s0 L N (k0_e0.bind j) (fun a0 => (k0_r a0).bind j) (fun a0 a1 a2 a3 a4 => (rec0 a0 a1 a2 a3 a4).bind j) s0 s1 s2 s3 s4 = (f157.s0 L N k0_e0 k0_r rec0 s0 s1 s2 s3 s4).bind j := by
  unfold f157.s0
  exact f157.s0'_nat ..
theorem f157.l0_nat {R R' : Type} (j : R → Option R') (L N : Nat) (k0_e0 : Option R) (k0_r : Bool → Option R) : ∀ (n : Nat) (s0 : Int) (s1 : Int) (s2 : LI) (s3 : Int) (s4 : LLM),
    f157.l0 L N (k0_e0.bind j) (fun a0 => (k0_r a0).bind j) n s0 s1 s2 s3 s4 = (f157.l0 L N k0_e0 k0_r n s0 s1 s2 s3 s4).bind j := by
  intro n
  induction n with
  | zero => intros; rfl
  | succ n ih =>
    intro s0 s1 s2 s3 s4
    show f157.s0 L N (k0_e0.bind j) (fun a0 => (k0_r a0).bind j) (f157.l0 L N (k0_e0.bind j) (fun a0 => (k0_r a0).bind j) n) s0 s1 s2 s3 s4 = _
    rw [show f157.l0 L N (k0_e0.bind j) (fun a0 => (k0_r a0).bind j) n = (fun s0 s1 s2 s3 s4 => (f157.l0 L N k0_e0 k0_r n s0 s1 s2 s3 s4).bind j) from funext fun s0 => funext fun s1 => funext fun s2 => funext fun s3 => funext fun s4 => ih s0 s1 s2 s3 s4]
    exact f157.s0_nat ..
theorem f157.p0_e0'_nat {R R' : Type} (j : R → Option R') (L N : Nat) (k : Bool → Option R) :
    f157.p0_e0' L N (fun a0 => (k a0).bind j) = (f157.p0_e0' L N k).bind j := by
  unfold f157.p0_e0'
  repeat' (first | (with_reducible refine cond_nat ?_ ?_) | (with_reducible refine bind_nat fun _ => ?_) | rfl)
theorem f157.p0_e0_nat {R R' : Type} (j : R → Option R') (L N : Nat) (k : Bool → Option R) :
    f157.p0_e0 L N (fun a0 => (k a0).bind j) = (f157.p0_e0 L N k).bind j := by
  unfold f157.p0_e0
  exact f157.p0_e0'_nat ..
theorem f157.p0_r'_nat {R R' : Type} (j : R → Option R') (L N : Nat) (k : Bool → Option R) (z6 : Bool) :
    f157.p0_r' L N (fun a0 => (k a0).bind j) z6 = (f157.p0_r' L N k z6).bind j := by
  unfold f157.p0_r'
  repeat' (first | (with_reducible refine cond_nat ?_ ?_) | (with_reducible refine bind_nat fun _ => ?_) | rfl)
theorem f157.p0_r_nat {R R' : Type} (j : R → Option R') (L N : Nat) (k : Bool → Option R) (z6 : Bool) :
    f157.p0_r L N (fun a0 => (k a0).bind j) z6 = (f157.p0_r L N k z6).bind j := by
  unfold f157.p0_r
  exact f157.p0_r'_nat ..
theorem f157.b'_nat {R R' : Type} (j : R → Option R') (L N : Nat) (k : Bool → Option R) (w0 : Int → Int → LI → Int → LLM → Option R) (x0 : Graph) (x1 : Int) (x2 : Int) (x3 : LI) :
    f157.b' L N (fun a0 => (k a0).bind j) (fun a0 a1 a2 a3 a4 => (w0 a0 a1 a2 a3 a4).bind j) x0 x1 x2 x3 = (f157.b' L N k w0 x0 x1 x2 x3).bind j := by
  unfold f157.b'
  repeat' (first | (with_reducible refine cond_nat ?_ ?_) | (with_reducible refine bind_nat fun _ => ?_) | rfl)
theorem f157.b_nat {R R' : Type} (j : R → Option R') (L N : Nat) (k : Bool → Option R) (x0 : Graph) (x1 : Int) (x2 : Int) (x3 : LI) :
    f157.b L N (fun a0 => (k a0).bind j) x0 x1 x2 x3 = (f157.b L N k x0 x1 x2 x3).bind j := by
  unfold f157.b
  simp only [f157.l0_nat, f157.p0_e0_nat, f157.p0_r_nat]
  exact f157.b'_nat ..
theorem f157.ok (L N : Nat) (hΦ : TellsOk Try.prog ((Φ183 L N))) : EntOk Try.prog 157 (f157.ent L N) := by
  intro args vw site h
  unfold f157.ent
  split
  · rename_i d ha
    intro y hy hs
    refine call_ro (dep := 1000) (E := (E157 L N)) (rs := (.one .bool)) (v := (.tv .bool y)) (sound_of hΦ) okP (callI_sound (sound_of hΦ) okP 1 2000) (f := Try.f157) rfl hs ha ?_ rfl site
    refine (f157.b_eq L N some d.1 d.2.1 d.2.2.1 d.2.2.2.1).trans ?_
    refine ((f157.b_nat (fun y => (some (.tv .bool y) : Option AV)) L N some d.1 d.2.1 d.2.2.1 d.2.2.2.1)).trans ?_
    rw [show f157.b L N some d.1 d.2.1 d.2.2.1 d.2.2.2.1 = some y from hy]
    rfl
  · intro y hy
    cases hy
def Φ157 (L N : Nat) : Tells := (addT (Φ183 L N) 157 (f157.ent L N))
theorem Φ157_ok (L N : Nat) : TellsOk Try.prog (Φ157 L N) := addT_ok (Φ183_ok L N) (f157.ok L N (Φ183_ok L N))
def f146.s1' {R : Type} (L N : Nat) (k1_e2 : LI → Int → Int → LLM → LI → Option R) (rec1 : LI → Int → Int → Int → LLM → LI → Option R) (s5 : LI) (s6 : Int) (s7 : Int) (s8 : Int) (s9 : LLM) (s10 : LI) : Option R :=
  bif (decide (s8 ≥ (0 : Int))) then
    bif (decide (0 ≤ s8) && decide (s8 < (s5.length : Int))) then
      bif (decide (0 ≤ s6) && decide (s6 < (s5.length : Int))) then
        bif ((listAt s5 (0 : Int) s8.toNat) == (listAt s5 (0 : Int) s6.toNat)) then
          (f157 L N (Graph.mk s9) s6 s8 s5).bind fun y16 =>
          bif y16 then
            (f157 L N (Graph.mk s9) s8 s6 s5).bind fun y17 =>
            bif y17 then
              rec1 s5 s6 s8 (wi (s8 - (1 : Int))) s9 s10
            else rec1 s5 s6 s7 (wi (s8 - (1 : Int))) s9 s10
          else rec1 s5 s6 s7 (wi (s8 - (1 : Int))) s9 s10
        else rec1 s5 s6 s7 (wi (s8 - (1 : Int))) s9 s10
      else none
    else none
  else k1_e2 s5 s6 s7 s9 s10
def f146.s1 {R : Type} (L N : Nat) (k1_e2 : LI → Int → Int → LLM → LI → Option R) (rec1 : LI → Int → Int → Int → LLM → LI → Option R) (s5 : LI) (s6 : Int) (s7 : Int) (s8 : Int) (s9 : LLM) (s10 : LI) : Option R :=
  f146.s1' L N k1_e2 rec1 s5 s6 s7 s8 s9 s10
def f146.l1 {R : Type} (L N : Nat) (k1_e2 : LI → Int → Int → LLM → LI → Option R) : Nat → LI → Int → Int → Int → LLM → LI → Option R
  | 0, _, _, _, _, _, _ => none
  | n + 1, s5, s6, s7, s8, s9, s10 => f146.s1 L N k1_e2 (f146.l1 L N k1_e2 n) s5 s6 s7 s8 s9 s10
def f146.T1 (s5 : LI) (s6 : Int) (s7 : Int) (s8 : Int) (s9 : LLM) (s10 : LI) : T := mkT 52 [(1, (.tv (.sl i64) s5)), (2, (.ptr 1002 0)), (5, (.row 1009)), (6, (.tv i64 s6)), (7, (.tv i64 s7)), (8, (.tv i64 s8))]
def f146.H1 (s5 : LI) (s6 : Int) (s7 : Int) (s8 : Int) (s9 : LLM) (s10 : LI) : H := [(1002, (.box [(.tv (.sl (.sl (.st 0))) s9)])), (1009, (.row 3 i64 s10))]
def f146.T1_e2 (z11 : LI) (z12 : Int) (z13 : Int) (z14 : LLM) (z15 : LI) : T := mkT 52 [(1, (.tv (.sl i64) z11)), (2, (.ptr 1002 0)), (5, (.row 1009)), (6, (.tv i64 z12)), (7, (.tv i64 z13))]
def f146.H1_e2 (z11 : LI) (z12 : Int) (z13 : Int) (z14 : LLM) (z15 : LI) : H := [(1002, (.box [(.tv (.sl (.sl (.st 0))) z14)])), (1009, (.row 3 i64 z15))]
def f146.p1_e2' {R : Type} (L N : Nat) (k0_e0 : LI → Option R) (rec0 : LI → Int → LLM → LI → Option R) (z11 : LI) (z12 : Int) (z13 : Int) (z14 : LLM) (z15 : LI) : Option R :=
  bif (decide (z15.length + ([z13] : LI).length ≤ lim)) then
    rec0 z11 (wi (z12 + (1 : Int))) z14 (z15 ++ ([z13] : LI))
  else none
def f146.p1_e2 {R : Type} (L N : Nat) (k0_e0 : LI → Option R) (rec0 : LI → Int → LLM → LI → Option R) (z11 : LI) (z12 : Int) (z13 : Int) (z14 : LLM) (z15 : LI) : Option R :=
  f146.p1_e2' L N k0_e0 rec0 z11 z12 z13 z14 z15
def f146.s0' {R : Type} (L N : Nat) (k0_e0 : LI → Option R) (rec0 : LI → Int → LLM → LI → Option R) (w1 : LI → Int → Int → Int → LLM → LI → Option R) (s0 : LI) (s1 : Int) (s2 : LLM) (s3 : LI) : Option R :=
  bif (decide (s1 < (s0.length : Int))) then
    w1 s0 s1 s1 (wi (s1 - (1 : Int))) s2 s3
  else k0_e0 s3
def f146.s0 {R : Type} (L N : Nat) (k0_e0 : LI → Option R) (rec0 : LI → Int → LLM → LI → Option R) (s0 : LI) (s1 : Int) (s2 : LLM) (s3 : LI) : Option R :=
  f146.s0' L N k0_e0 rec0 (fun s5 s6 s7 s8 s9 s10 => f146.l1 L N (fun z11 z12 z13 z14 z15 => f146.p1_e2 L N k0_e0 rec0 z11 z12 z13 z14 z15) L s5 s6 s7 s8 s9 s10) s0 s1 s2 s3
def f146.l0 {R : Type} (L N : Nat) (k0_e0 : LI → Option R) : Nat → LI → Int → LLM → LI → Option R
  | 0, _, _, _, _ => none
  | n + 1, s0, s1, s2, s3 => f146.s0 L N k0_e0 (f146.l0 L N k0_e0 n) s0 s1 s2 s3
def f146.T0 (s0 : LI) (s1 : Int) (s2 : LLM) (s3 : LI) : T := mkT 52 [(1, (.tv (.sl i64) s0)), (2, (.ptr 1002 0)), (5, (.row 1009)), (6, (.tv i64 s1))]
def f146.H0 (s0 : LI) (s1 : Int) (s2 : LLM) (s3 : LI) : H := [(1002, (.box [(.tv (.sl (.sl (.st 0))) s2)])), (1009, (.row 3 i64 s3))]
def f146.T0_e0 (z4 : LI) : T := mkT 52 [(5, (.row 1009))]
def f146.H0_e0 (z4 : LI) : H := [(1009, (.row 3 i64 z4))]
def f146.p0_e0' {R : Type} (L N : Nat) (k : LI → Option R) (z4 : LI) : Option R :=
  k z4
def f146.p0_e0 {R : Type} (L N : Nat) (k : LI → Option R) (z4 : LI) : Option R :=
  f146.p0_e0' L N k z4
def f146.b' {R : Type} (L N : Nat) (k : LI → Option R) (w0 : LI → Int → LLM → LI → Option R) (x0 : Graph) (x1 : LI) : Option R :=
  w0 x1 (0 : Int) x0.moves ([] : LI)
def f146.b {R : Type} (L N : Nat) (k : LI → Option R) (x0 : Graph) (x1 : LI) : Option R :=
  f146.b' L N k (fun s0 s1 s2 s3 => f146.l0 L N (fun z4 => f146.p0_e0 L N k z4) L s0 s1 s2 s3) x0 x1
def f146 (L N : Nat) (x0 : Graph) (x1 : LI) : Option (LI) := f146.b L N some x0 x1
def f146.ent (L N : Nat) (args : List AV) (vw : View) (site : Nat) : Ans := match coeD [(.st 2), (.sl i64)] vw args with
  | some (d, u) => ⟨LI, f146 L N d.1 d.2.1, fun y => ((.tv (.sl i64) y), u, [])⟩
  | none => Ans.no
noncomputable def E146 (L N : Nat) : Env := { P := Try.prog, ty := tyOf, Φ := (Φ157 L N), inl := inlT, live := lives, liveX := livesX, L := L, dp := none, prom := promT, heal := healT, ren := renT }
noncomputable def f146.c0 : Code := loopAt 0 (codeOf Try.f146)
noncomputable def f146.c1 : Code := loopAt 2 f146.c0
theorem f146.s1_pre {R : Type} (L N : Nat) (κ : Ex → T → H → Option R) (rec : T → H → Option R) (s5 : LI) (s6 : Int) (s7 : Int) (s8 : Int) (s9 : LLM) (s10 : LI) :
    evRd (E146 L N) (evCallI (E146 L N) 1 2000) 1000 146 52 2 f146.c1 κ rec (f146.T1 s5 s6 s7 s8 s9 s10) (f146.H1 s5 s6 s7 s8 s9 s10)
    = f146.s1' L N (fun z11 z12 z13 z14 z15 => κ (.exit 2) (f146.T1_e2 z11 z12 z13 z14 z15) (f146.H1_e2 z11 z12 z13 z14 z15)) (fun s5 s6 s7 s8 s9 s10 => rec (f146.T1 s5 s6 s7 s8 s9 s10) (f146.H1 s5 s6 s7 s8 s9 s10)) s5 s6 s7 s8 s9 s10 := by kernel_rfl
theorem f146.s1_eq {R : Type} (L N : Nat) (κ : Ex → T → H → Option R) (rec : T → H → Option R) (s5 : LI) (s6 : Int) (s7 : Int) (s8 : Int) (s9 : LLM) (s10 : LI) :
    evRd (E146 L N) (evCallI (E146 L N) 1 2000) 1000 146 52 2 f146.c1 κ rec (f146.T1 s5 s6 s7 s8 s9 s10) (f146.H1 s5 s6 s7 s8 s9 s10)
    = f146.s1 L N (fun z11 z12 z13 z14 z15 => κ (.exit 2) (f146.T1_e2 z11 z12 z13 z14 z15) (f146.H1_e2 z11 z12 z13 z14 z15)) (fun s5 s6 s7 s8 s9 s10 => rec (f146.T1 s5 s6 s7 s8 s9 s10) (f146.H1 s5 s6 s7 s8 s9 s10)) s5 s6 s7 s8 s9 s10 := by
  rw [f146.s1_pre]
  unfold f146.s1
  rfl
theorem f146.l1_eq {R : Type} (L N : Nat) (κ : Ex → T → H → Option R) : ∀ (n : Nat) (s5 : LI) (s6 : Int) (s7 : Int) (s8 : Int) (s9 : LLM) (s10 : LI),
    evLp (E146 L N) (evCallI (E146 L N) 1 2000) 1000 146 52 2 f146.c1 κ n (f146.T1 s5 s6 s7 s8 s9 s10) (f146.H1 s5 s6 s7 s8 s9 s10)
    = f146.l1 L N (fun z11 z12 z13 z14 z15 => κ (.exit 2) (f146.T1_e2 z11 z12 z13 z14 z15) (f146.H1_e2 z11 z12 z13 z14 z15)) n s5 s6 s7 s8 s9 s10 := by
  intro n
  induction n with
  | zero => intros; rfl
  | succ n ih =>
    intro s5 s6 s7 s8 s9 s10
    rw [evLp_succ, f146.s1_eq]
    simp only [ih]
    rfl
theorem f146.p1_e2_pre {R : Type} (L N : Nat) (κ : Ex → T → H → Option R) (rec : T → H → Option R) (z11 : LI) (z12 : Int) (z13 : Int) (z14 : LLM) (z15 : LI) :
    (contAt (E146 L N) (evCallI (E146 L N) 1 2000) 1000 146 52 2 f146.c0 (stepK (outK (keepT 52 ((E146 L N).liveX 146 0).1) (keepH 1000 ((E146 L N).liveX 146 0).2) κ) fun t h => rec (backK 1000 52 ((E146 L N).live 146 0).1 ((E146 L N).live 146 0).2 ((E146 L N).heal 146 0) ((E146 L N).ren 146 0) t h).1 (backK 1000 52 ((E146 L N).live 146 0).1 ((E146 L N).live 146 0).2 ((E146 L N).heal 146 0) ((E146 L N).ren 146 0) t h).2)) (.exit 2) (f146.T1_e2 z11 z12 z13 z14 z15) (f146.H1_e2 z11 z12 z13 z14 z15)
    = f146.p1_e2' L N (fun z4 => κ (.exit 0) (f146.T0_e0 z4) (f146.H0_e0 z4)) (fun s0 s1 s2 s3 => rec (f146.T0 s0 s1 s2 s3) (f146.H0 s0 s1 s2 s3)) z11 z12 z13 z14 z15 := by kernel_rfl
theorem f146.p1_e2_eq {R : Type} (L N : Nat) (κ : Ex → T → H → Option R) (rec : T → H → Option R) (z11 : LI) (z12 : Int) (z13 : Int) (z14 : LLM) (z15 : LI) :
    (contAt (E146 L N) (evCallI (E146 L N) 1 2000) 1000 146 52 2 f146.c0 (stepK (outK (keepT 52 ((E146 L N).liveX 146 0).1) (keepH 1000 ((E146 L N).liveX 146 0).2) κ) fun t h => rec (backK 1000 52 ((E146 L N).live 146 0).1 ((E146 L N).live 146 0).2 ((E146 L N).heal 146 0) ((E146 L N).ren 146 0) t h).1 (backK 1000 52 ((E146 L N).live 146 0).1 ((E146 L N).live 146 0).2 ((E146 L N).heal 146 0) ((E146 L N).ren 146 0) t h).2)) (.exit 2) (f146.T1_e2 z11 z12 z13 z14 z15) (f146.H1_e2 z11 z12 z13 z14 z15)
    = f146.p1_e2 L N (fun z4 => κ (.exit 0) (f146.T0_e0 z4) (f146.H0_e0 z4)) (fun s0 s1 s2 s3 => rec (f146.T0 s0 s1 s2 s3) (f146.H0 s0 s1 s2 s3)) z11 z12 z13 z14 z15 := by
  rw [f146.p1_e2_pre]
  unfold f146.p1_e2
  rfl
theorem f146.s0_pre {R : Type} (L N : Nat) (κ : Ex → T → H → Option R) (rec : T → H → Option R) (s0 : LI) (s1 : Int) (s2 : LLM) (s3 : LI) :
    evRd (E146 L N) (evCallI (E146 L N) 1 2000) 1000 146 52 0 f146.c0 κ rec (f146.T0 s0 s1 s2 s3) (f146.H0 s0 s1 s2 s3)
    = f146.s0' L N (fun z4 => κ (.exit 0) (f146.T0_e0 z4) (f146.H0_e0 z4)) (fun s0 s1 s2 s3 => rec (f146.T0 s0 s1 s2 s3) (f146.H0 s0 s1 s2 s3)) (fun s5 s6 s7 s8 s9 s10 => evLp (E146 L N) (evCallI (E146 L N) 1 2000) 1000 146 52 2 f146.c1 (contAt (E146 L N) (evCallI (E146 L N) 1 2000) 1000 146 52 2 f146.c0 (stepK (outK (keepT 52 ((E146 L N).liveX 146 0).1) (keepH 1000 ((E146 L N).liveX 146 0).2) κ) fun t h => rec (backK 1000 52 ((E146 L N).live 146 0).1 ((E146 L N).live 146 0).2 ((E146 L N).heal 146 0) ((E146 L N).ren 146 0) t h).1 (backK 1000 52 ((E146 L N).live 146 0).1 ((E146 L N).live 146 0).2 ((E146 L N).heal 146 0) ((E146 L N).ren 146 0) t h).2)) L (f146.T1 s5 s6 s7 s8 s9 s10) (f146.H1 s5 s6 s7 s8 s9 s10)) s0 s1 s2 s3 := by kernel_rfl
theorem f146.s0_eq {R : Type} (L N : Nat) (κ : Ex → T → H → Option R) (rec : T → H → Option R) (s0 : LI) (s1 : Int) (s2 : LLM) (s3 : LI) :
    evRd (E146 L N) (evCallI (E146 L N) 1 2000) 1000 146 52 0 f146.c0 κ rec (f146.T0 s0 s1 s2 s3) (f146.H0 s0 s1 s2 s3)
    = f146.s0 L N (fun z4 => κ (.exit 0) (f146.T0_e0 z4) (f146.H0_e0 z4)) (fun s0 s1 s2 s3 => rec (f146.T0 s0 s1 s2 s3) (f146.H0 s0 s1 s2 s3)) s0 s1 s2 s3 := by
  rw [f146.s0_pre]
  unfold f146.s0
  simp only [f146.l1_eq, f146.p1_e2_eq]
theorem f146.l0_eq {R : Type} (L N : Nat) (κ : Ex → T → H → Option R) : ∀ (n : Nat) (s0 : LI) (s1 : Int) (s2 : LLM) (s3 : LI),
    evLp (E146 L N) (evCallI (E146 L N) 1 2000) 1000 146 52 0 f146.c0 κ n (f146.T0 s0 s1 s2 s3) (f146.H0 s0 s1 s2 s3)
    = f146.l0 L N (fun z4 => κ (.exit 0) (f146.T0_e0 z4) (f146.H0_e0 z4)) n s0 s1 s2 s3 := by
  intro n
  induction n with
  | zero => intros; rfl
  | succ n ih =>
    intro s0 s1 s2 s3
    rw [evLp_succ, f146.s0_eq]
    simp only [ih]
    rfl
theorem f146.p0_e0_pre {R : Type} (L N : Nat) (κ : AV → Option R) (z4 : LI) :
    (contAt (E146 L N) (evCallI (E146 L N) 1 2000) 1000 146 52 0 (codeOf Try.f146) (finK (E146 L N) 1000 Try.f146 (finC (.one (.sl i64)) κ))) (.exit 0) (f146.T0_e0 z4) (f146.H0_e0 z4)
    = f146.p0_e0' L N (fun a0 => κ (.tv (.sl i64) a0)) z4 := by kernel_rfl
theorem f146.p0_e0_eq {R : Type} (L N : Nat) (κ : AV → Option R) (z4 : LI) :
    (contAt (E146 L N) (evCallI (E146 L N) 1 2000) 1000 146 52 0 (codeOf Try.f146) (finK (E146 L N) 1000 Try.f146 (finC (.one (.sl i64)) κ))) (.exit 0) (f146.T0_e0 z4) (f146.H0_e0 z4)
    = f146.p0_e0 L N (fun a0 => κ (.tv (.sl i64) a0)) z4 := by
  rw [f146.p0_e0_pre]
  unfold f146.p0_e0
  rfl
theorem f146.b_pre {R : Type} (L N : Nat) (κ : AV → Option R) (x0 : Graph) (x1 : LI) :
    evBody (E146 L N) (evCallI (E146 L N) 1 2000) 1000 146 Try.f146 [(.tv (.st 2) x0), (.tv (.sl i64) x1)] [] [] (finC (.one (.sl i64)) κ)
    = f146.b' L N (fun a0 => κ (.tv (.sl i64) a0)) (fun s0 s1 s2 s3 => evLp (E146 L N) (evCallI (E146 L N) 1 2000) 1000 146 52 0 f146.c0 (contAt (E146 L N) (evCallI (E146 L N) 1 2000) 1000 146 52 0 (codeOf Try.f146) (finK (E146 L N) 1000 Try.f146 (finC (.one (.sl i64)) κ))) L (f146.T0 s0 s1 s2 s3) (f146.H0 s0 s1 s2 s3)) x0 x1 := by kernel_rfl
theorem f146.b_eq {R : Type} (L N : Nat) (κ : AV → Option R) (x0 : Graph) (x1 : LI) :
    evBody (E146 L N) (evCallI (E146 L N) 1 2000) 1000 146 Try.f146 [(.tv (.st 2) x0), (.tv (.sl i64) x1)] [] [] (finC (.one (.sl i64)) κ)
    = f146.b L N (fun a0 => κ (.tv (.sl i64) a0)) x0 x1 := by
  rw [f146.b_pre]
  unfold f146.b
  simp only [f146.l0_eq, f146.p0_e0_eq]
theorem f146.s1'_nat {R R' : Type} (j : R → Option R') (L N : Nat) (k1_e2 : LI → Int → Int → LLM → LI → Option R) (rec1 : LI → Int → Int → Int → LLM → LI → Option R) (s5 : LI) (s6 : Int) (s7 : Int) (s8 : Int) (s9 : LLM) (s10 : LI) :
    f146.s1' L N (fun a0 a1 a2 a3 a4 => (k1_e2 a0 a1 a2 a3 a4).bind j) (fun a0 a1 a2 a3 a4 a5 => (rec1 a0 a1 a2 a3 a4 a5).bind j) s5 s6 s7 s8 s9 s10 = (f146.s1' L N k1_e2 rec1 s5 s6 s7 s8 s9 s10).bind j := by
  unfold f146.s1'
  repeat' (first | (with_reducible refine cond_nat ?_ ?_) | (with_reducible refine bind_nat fun _ => ?_) | rfl)
theorem f146.s1_nat {R R' : Type} (j : R → Option R') (L N : Nat) (k1_e2 : LI → Int → Int → LLM → LI → Option R) (rec1 : LI → Int → Int → Int → LLM → LI → Option R) (s5 : LI) (s6 : Int) (s7 : Int) (s8 : Int) (s9 : LLM) (s10 : LI) :
    f146.s1 L N (fun a0 a1 a2 a3 a4 => (k1_e2 a0 a1 a2 a3 a4).bind j) (fun a0 a1 a2 a3 a4 a5 => (rec1 a0 a1 a2 a3 a4 a5).bind j) s5 s6 s7 s8 s9 s10 = (f146.s1 L N k1_e2 rec1 s5 s6 s7 s8 s9 s10).bind j := by
  unfold f146.s1
  exact f146.s1'_nat ..
theorem f146.l1_nat {R R' : Type} (j : R → Option R') (L N : Nat) (k1_e2 : LI → Int → Int → LLM → LI → Option R) : ∀ (n : Nat) (s5 : LI) (s6 : Int) (s7 : Int) (s8 : Int) (s9 : LLM) (s10 : LI),
    f146.l1 L N (fun a0 a1 a2 a3 a4 => (k1_e2 a0 a1 a2 a3 a4).bind j) n s5 s6 s7 s8 s9 s10 = (f146.l1 L N k1_e2 n s5 s6 s7 s8 s9 s10).bind j := by
  intro n
  induction n with
  | zero => intros; rfl
  | succ n ih =>
    intro s5 s6 s7 s8 s9 s10
    show f146.s1 L N (fun a0 a1 a2 a3 a4 => (k1_e2 a0 a1 a2 a3 a4).bind j) (f146.l1 L N (fun a0 a1 a2 a3 a4 => (k1_e2 a0 a1 a2 a3 a4).bind j) n) s5 s6 s7 s8 s9 s10 = _
    rw [show f146.l1 L N (fun a0 a1 a2 a3 a4 => (k1_e2 a0 a1 a2 a3 a4).bind j) n = (fun s5 s6 s7 s8 s9 s10 => (f146.l1 L N k1_e2 n s5 s6 s7 s8 s9 s10).bind j) from funext fun s5 => funext fun s6 => funext fun s7 => funext fun s8 => funext fun s9 => funext fun s10 => ih s5 s6 s7 s8 s9 s10]
    exact f146.s1_nat ..
theorem f146.p1_e2'_nat {R R' : Type} (j : R → Option R') (L N : Nat) (k0_e0 : LI → Option R) (rec0 : LI → Int → LLM → LI → Option R) (z11 : LI) (z12 : Int) (z13 : Int) (z14 : LLM) (z15 : LI) :
    f146.p1_e2' L N (fun a0 => (k0_e0 a0).bind j) (fun a0 a1 a2 a3 => (rec0 a0 a1 a2 a3).bind j) z11 z12 z13 z14 z15 = (f146.p1_e2' L N k0_e0 rec0 z11 z12 z13 z14 z15).bind j := by
  unfold f146.p1_e2'
  repeat' (first | (with_reducible refine cond_nat ?_ ?_) | (with_reducible refine bind_nat fun _ => ?_) | rfl)
theorem f146.p1_e2_nat {R R' : Type} (j : R → Option R') (L N : Nat) (k0_e0 : LI → Option R) (rec0 : LI → Int → LLM → LI → Option R) (z11 : LI) (z12 : Int) (z13 : Int) (z14 : LLM) (z15 : LI) :
    f146.p1_e2 L N (fun a0 => (k0_e0 a0).bind j) (fun a0 a1 a2 a3 => (rec0 a0 a1 a2 a3).bind j) z11 z12 z13 z14 z15 = (f146.p1_e2 L N k0_e0 rec0 z11 z12 z13 z14 z15).bind j := by
  unfold f146.p1_e2
  exact f146.p1_e2'_nat ..
theorem f146.s0'_nat {R R' : Type} (j : R → Option R') (L N : Nat) (k0_e0 : LI → Option R) (rec0 : LI → Int → LLM → LI → Option R) (w1 : LI → Int → Int → Int → LLM → LI → Option R) (s0 : LI) (s1 : Int) (s2 : LLM) (s3 : LI) :
    f146.s0' L N (fun a0 => (k0_e0 a0).bind j) (fun a0 a1 a2 a3 => (rec0 a0 a1 a2 a3).bind j) (fun a0 a1 a2 a3 a4 a5 => (w1 a0 a1 a2 a3 a4 a5).bind j) s0 s1 s2 s3 = (f146.s0' L N k0_e0 rec0 w1 s0 s1 s2 s3).bind j := by
  unfold f146.s0'
  repeat' (first | (with_reducible refine cond_nat ?_ ?_) | (with_reducible refine bind_nat fun _ => ?_) | rfl)
theorem f146.s0_nat {R R' : Type} (j : R → Option R') (L N : Nat) (k0_e0 : LI → Option R) (rec0 : LI → Int → LLM → LI → Option R) (s0 : LI) (s1 : Int) (s2 : LLM) (s3 : LI) :
    f146.s0 L N (fun a0 => (k0_e0 a0).bind j) (fun a0 a1 a2 a3 => (rec0 a0 a1 a2 a3).bind j) s0 s1 s2 s3 = (f146.s0 L N k0_e0 rec0 s0 s1 s2 s3).bind j := by
  unfold f146.s0
  simp only [f146.l1_nat, f146.p1_e2_nat]
  exact f146.s0'_nat ..
theorem f146.l0_nat {R R' : Type} (j : R → Option R') (L N : Nat) (k0_e0 : LI → Option R) : ∀ (n : Nat) (s0 : LI) (s1 : Int) (s2 : LLM) (s3 : LI),
    f146.l0 L N (fun a0 => (k0_e0 a0).bind j) n s0 s1 s2 s3 = (f146.l0 L N k0_e0 n s0 s1 s2 s3).bind j := by
  intro n
  induction n with
  | zero => intros; rfl
  | succ n ih =>
    intro s0 s1 s2 s3
    show f146.s0 L N (fun a0 => (k0_e0 a0).bind j) (f146.l0 L N (fun a0 => (k0_e0 a0).bind j) n) s0 s1 s2 s3 = _
    rw [show f146.l0 L N (fun a0 => (k0_e0 a0).bind j) n = (fun s0 s1 s2 s3 => (f146.l0 L N k0_e0 n s0 s1 s2 s3).bind j) from funext fun s0 => funext fun s1 => funext fun s2 => funext fun s3 => ih s0 s1 s2 s3]
    exact f146.s0_nat ..
theorem f146.p0_e0'_nat {R R' : Type} (j : R → Option R') (L N : Nat) (k : LI → Option R) (z4 : LI) :
    f146.p0_e0' L N (fun a0 => (k a0).bind j) z4 = (f146.p0_e0' L N k z4).bind j := by
  unfold f146.p0_e0'
  repeat' (first | (with_reducible refine cond_nat ?_ ?_) | (with_reducible refine bind_nat fun _ => ?_) | rfl)
theorem f146.p0_e0_nat {R R' : Type} (j : R → Option R') (L N : Nat) (k : LI → Option R) (z4 : LI) :
    f146.p0_e0 L N (fun a0 => (k a0).bind j) z4 = (f146.p0_e0 L N k z4).bind j := by
  unfold f146.p0_e0
  exact f146.p0_e0'_nat ..
theorem f146.b'_nat {R R' : Type} (j : R → Option R') (L N : Nat) (k : LI → Option R) (w0 : LI → Int → LLM → LI → Option R) (x0 : Graph) (x1 : LI) :
    f146.b' L N (fun a0 => (k a0).bind j) (fun a0 a1 a2 a3 => (w0 a0 a1 a2 a3).bind j) x0 x1 = (f146.b' L N k w0 x0 x1).bind j := by
  unfold f146.b'
  repeat' (first | (with_reducible refine cond_nat ?_ ?_) | (with_reducible refine bind_nat fun _ => ?_) | rfl)
theorem f146.b_nat {R R' : Type} (j : R → Option R') (L N : Nat) (k : LI → Option R) (x0 : Graph) (x1 : LI) :
    f146.b L N (fun a0 => (k a0).bind j) x0 x1 = (f146.b L N k x0 x1).bind j := by
  unfold f146.b
  simp only [f146.l0_nat, f146.p0_e0_nat]
  exact f146.b'_nat ..
theorem f146.ok (L N : Nat) (hΦ : TellsOk Try.prog ((Φ157 L N))) : EntOk Try.prog 146 (f146.ent L N) := by
  intro args vw site h
  unfold f146.ent
  split
  · rename_i d u ha
    intro y hy hs
    refine call_data (dep := 1000) (E := (E146 L N)) (rs := (.one (.sl i64))) (v' := (.tv (.sl i64) y)) (sound_of hΦ) okP (callI_sound (sound_of hΦ) okP 1 2000) (f := Try.f146) rfl hs ha ?_ site
    refine (f146.b_eq L N some d.1 d.2.1).trans ?_
    refine ((f146.b_nat (fun y => (some (.tv (.sl i64) y) : Option AV)) L N some d.1 d.2.1)).trans ?_
    rw [show f146.b L N some d.1 d.2.1 = some y from hy]
    rfl
  · intro y hy
    cases hy
def Φ146 (L N : Nat) : Tells := (addT (Φ157 L N) 146 (f146.ent L N))
theorem Φ146_ok (L N : Nat) : TellsOk Try.prog (Φ146 L N) := addT_ok (Φ157_ok L N) (f146.ok L N (Φ157_ok L N))
def f127.s0' {R : Type} (L N : Nat) (k0_r : LLI → Option R) (rec0 : LLM → LLI → Option R) (s0 : LLM) (s1 : LLI) : Option R :=
  bif (decide (0 ≤ (wi ((s1.length : Int) - (1 : Int)))) && decide ((wi ((s1.length : Int) - (1 : Int))) < (s1.length : Int))) then
    (f146 L N (Graph.mk s0) (listAt s1 [] (wi ((s1.length : Int) - (1 : Int))).toNat)).bind fun y2 =>
    bif (decide (0 ≤ (wi ((s1.length : Int) - (1 : Int)))) && decide ((wi ((s1.length : Int) - (1 : Int))) < (s1.length : Int))) then
      (f116 L N y2 (listAt s1 [] (wi ((s1.length : Int) - (1 : Int))).toNat)).bind fun y3 =>
      bif y3 then
        k0_r s1
      else bif (decide (s1.length + ([y2] : LLI).length ≤ lim)) then
        rec0 s0 (s1 ++ ([y2] : LLI))
      else none
    else none
  else none
def f127.s0 {R : Type} (L N : Nat) (k0_r : LLI → Option R) (rec0 : LLM → LLI → Option R) (s0 : LLM) (s1 : LLI) : Option R :=
  f127.s0' L N k0_r rec0 s0 s1
def f127.l0 {R : Type} (L N : Nat) (k0_r : LLI → Option R) : Nat → LLM → LLI → Option R
  | 0, _, _ => none
  | n + 1, s0, s1 => f127.s0 L N k0_r (f127.l0 L N k0_r n) s0 s1
def f127.T0 (s0 : LLM) (s1 : LLI) : T := mkT 31 [(1, (.ptr 1001 0)), (3, (.row 1009))]
def f127.H0 (s0 : LLM) (s1 : LLI) : H := [(1001, (.box [(.tv (.sl (.sl (.st 0))) s0)])), (1009, (.row 30 (.sl i64) s1))]
def f127.T0_r (z4 : LLI) : T := mkT 31 [(2, (.row 1009))]
def f127.H0_r (z4 : LLI) : H := [(1009, (.row 30 (.sl i64) z4))]
def f127.p0_r' {R : Type} (L N : Nat) (k : LLI → Option R) (z4 : LLI) : Option R :=
  k z4
def f127.p0_r {R : Type} (L N : Nat) (k : LLI → Option R) (z4 : LLI) : Option R :=
  f127.p0_r' L N k z4
def f127.b' {R : Type} (L N : Nat) (k : LLI → Option R) (w0 : LLM → LLI → Option R) (x0 : Graph) : Option R :=
  bif (decide (0 ≤ (x0.moves.length : Int)) && decide ((x0.moves.length : Int) ≤ (lim : Int))) then
    w0 x0.moves ([(List.replicate (x0.moves.length : Int).toNat (0 : Int))] : LLI)
  else none
def f127.b {R : Type} (L N : Nat) (k : LLI → Option R) (x0 : Graph) : Option R :=
  f127.b' L N k (fun s0 s1 => f127.l0 L N (fun z4 => f127.p0_r L N k z4) L s0 s1) x0
def f127 (L N : Nat) (x0 : Graph) : Option (LLI) := f127.b L N some x0
def f127.ent (L N : Nat) (args : List AV) (vw : View) (site : Nat) : Ans := match coeD [(.st 2)] vw args with
  | some (d, u) => ⟨LLI, f127 L N d.1, fun y => ((.tv (.sl (.sl i64)) y), u, [])⟩
  | none => Ans.no
noncomputable def E127 (L N : Nat) : Env := { P := Try.prog, ty := tyOf, Φ := (Φ146 L N), inl := inlT, live := lives, liveX := livesX, L := L, dp := none, prom := promT, heal := healT, ren := renT }
noncomputable def f127.c0 : Code := loopAt 0 (codeOf Try.f127)
theorem f127.s0_pre {R : Type} (L N : Nat) (κ : Ex → T → H → Option R) (rec : T → H → Option R) (s0 : LLM) (s1 : LLI) :
    evRd (E127 L N) (evCallI (E127 L N) 1 2000) 1000 127 31 0 f127.c0 κ rec (f127.T0 s0 s1) (f127.H0 s0 s1)
    = f127.s0' L N (fun z4 => κ .ret (f127.T0_r z4) (f127.H0_r z4)) (fun s0 s1 => rec (f127.T0 s0 s1) (f127.H0 s0 s1)) s0 s1 := by kernel_rfl
theorem f127.s0_eq {R : Type} (L N : Nat) (κ : Ex → T → H → Option R) (rec : T → H → Option R) (s0 : LLM) (s1 : LLI) :
    evRd (E127 L N) (evCallI (E127 L N) 1 2000) 1000 127 31 0 f127.c0 κ rec (f127.T0 s0 s1) (f127.H0 s0 s1)
    = f127.s0 L N (fun z4 => κ .ret (f127.T0_r z4) (f127.H0_r z4)) (fun s0 s1 => rec (f127.T0 s0 s1) (f127.H0 s0 s1)) s0 s1 := by
  rw [f127.s0_pre]
  unfold f127.s0
  rfl
theorem f127.l0_eq {R : Type} (L N : Nat) (κ : Ex → T → H → Option R) : ∀ (n : Nat) (s0 : LLM) (s1 : LLI),
    evLp (E127 L N) (evCallI (E127 L N) 1 2000) 1000 127 31 0 f127.c0 κ n (f127.T0 s0 s1) (f127.H0 s0 s1)
    = f127.l0 L N (fun z4 => κ .ret (f127.T0_r z4) (f127.H0_r z4)) n s0 s1 := by
  intro n
  induction n with
  | zero => intros; rfl
  | succ n ih =>
    intro s0 s1
    rw [evLp_succ, f127.s0_eq]
    simp only [ih]
    rfl
theorem f127.p0_r_pre {R : Type} (L N : Nat) (κ : AV → Option R) (z4 : LLI) :
    (contAt (E127 L N) (evCallI (E127 L N) 1 2000) 1000 127 31 0 (codeOf Try.f127) (finK (E127 L N) 1000 Try.f127 (finC (.one (.sl (.sl i64))) κ))) .ret (f127.T0_r z4) (f127.H0_r z4)
    = f127.p0_r' L N (fun a0 => κ (.tv (.sl (.sl i64)) a0)) z4 := by kernel_rfl
theorem f127.p0_r_eq {R : Type} (L N : Nat) (κ : AV → Option R) (z4 : LLI) :
    (contAt (E127 L N) (evCallI (E127 L N) 1 2000) 1000 127 31 0 (codeOf Try.f127) (finK (E127 L N) 1000 Try.f127 (finC (.one (.sl (.sl i64))) κ))) .ret (f127.T0_r z4) (f127.H0_r z4)
    = f127.p0_r L N (fun a0 => κ (.tv (.sl (.sl i64)) a0)) z4 := by
  rw [f127.p0_r_pre]
  unfold f127.p0_r
  rfl
theorem f127.b_pre {R : Type} (L N : Nat) (κ : AV → Option R) (x0 : Graph) :
    evBody (E127 L N) (evCallI (E127 L N) 1 2000) 1000 127 Try.f127 [(.tv (.st 2) x0)] [] [] (finC (.one (.sl (.sl i64))) κ)
    = f127.b' L N (fun a0 => κ (.tv (.sl (.sl i64)) a0)) (fun s0 s1 => evLp (E127 L N) (evCallI (E127 L N) 1 2000) 1000 127 31 0 f127.c0 (contAt (E127 L N) (evCallI (E127 L N) 1 2000) 1000 127 31 0 (codeOf Try.f127) (finK (E127 L N) 1000 Try.f127 (finC (.one (.sl (.sl i64))) κ))) L (f127.T0 s0 s1) (f127.H0 s0 s1)) x0 := by kernel_rfl
theorem f127.b_eq {R : Type} (L N : Nat) (κ : AV → Option R) (x0 : Graph) :
    evBody (E127 L N) (evCallI (E127 L N) 1 2000) 1000 127 Try.f127 [(.tv (.st 2) x0)] [] [] (finC (.one (.sl (.sl i64))) κ)
    = f127.b L N (fun a0 => κ (.tv (.sl (.sl i64)) a0)) x0 := by
  rw [f127.b_pre]
  unfold f127.b
  simp only [f127.l0_eq, f127.p0_r_eq]
theorem f127.s0'_nat {R R' : Type} (j : R → Option R') (L N : Nat) (k0_r : LLI → Option R) (rec0 : LLM → LLI → Option R) (s0 : LLM) (s1 : LLI) :
    f127.s0' L N (fun a0 => (k0_r a0).bind j) (fun a0 a1 => (rec0 a0 a1).bind j) s0 s1 = (f127.s0' L N k0_r rec0 s0 s1).bind j := by
  unfold f127.s0'
  repeat' (first | (with_reducible refine cond_nat ?_ ?_) | (with_reducible refine bind_nat fun _ => ?_) | rfl)
theorem f127.s0_nat {R R' : Type} (j : R → Option R') (L N : Nat) (k0_r : LLI → Option R) (rec0 : LLM → LLI → Option R) (s0 : LLM) (s1 : LLI) :
    f127.s0 L N (fun a0 => (k0_r a0).bind j) (fun a0 a1 => (rec0 a0 a1).bind j) s0 s1 = (f127.s0 L N k0_r rec0 s0 s1).bind j := by
  unfold f127.s0
  exact f127.s0'_nat ..
theorem f127.l0_nat {R R' : Type} (j : R → Option R') (L N : Nat) (k0_r : LLI → Option R) : ∀ (n : Nat) (s0 : LLM) (s1 : LLI),
    f127.l0 L N (fun a0 => (k0_r a0).bind j) n s0 s1 = (f127.l0 L N k0_r n s0 s1).bind j := by
  intro n
  induction n with
  | zero => intros; rfl
  | succ n ih =>
    intro s0 s1
    show f127.s0 L N (fun a0 => (k0_r a0).bind j) (f127.l0 L N (fun a0 => (k0_r a0).bind j) n) s0 s1 = _
    rw [show f127.l0 L N (fun a0 => (k0_r a0).bind j) n = (fun s0 s1 => (f127.l0 L N k0_r n s0 s1).bind j) from funext fun s0 => funext fun s1 => ih s0 s1]
    exact f127.s0_nat ..
theorem f127.p0_r'_nat {R R' : Type} (j : R → Option R') (L N : Nat) (k : LLI → Option R) (z4 : LLI) :
    f127.p0_r' L N (fun a0 => (k a0).bind j) z4 = (f127.p0_r' L N k z4).bind j := by
  unfold f127.p0_r'
  repeat' (first | (with_reducible refine cond_nat ?_ ?_) | (with_reducible refine bind_nat fun _ => ?_) | rfl)
theorem f127.p0_r_nat {R R' : Type} (j : R → Option R') (L N : Nat) (k : LLI → Option R) (z4 : LLI) :
    f127.p0_r L N (fun a0 => (k a0).bind j) z4 = (f127.p0_r L N k z4).bind j := by
  unfold f127.p0_r
  exact f127.p0_r'_nat ..
theorem f127.b'_nat {R R' : Type} (j : R → Option R') (L N : Nat) (k : LLI → Option R) (w0 : LLM → LLI → Option R) (x0 : Graph) :
    f127.b' L N (fun a0 => (k a0).bind j) (fun a0 a1 => (w0 a0 a1).bind j) x0 = (f127.b' L N k w0 x0).bind j := by
  unfold f127.b'
  repeat' (first | (with_reducible refine cond_nat ?_ ?_) | (with_reducible refine bind_nat fun _ => ?_) | rfl)
theorem f127.b_nat {R R' : Type} (j : R → Option R') (L N : Nat) (k : LLI → Option R) (x0 : Graph) :
    f127.b L N (fun a0 => (k a0).bind j) x0 = (f127.b L N k x0).bind j := by
  unfold f127.b
  simp only [f127.l0_nat, f127.p0_r_nat]
  exact f127.b'_nat ..
theorem f127.ok (L N : Nat) (hΦ : TellsOk Try.prog ((Φ146 L N))) : EntOk Try.prog 127 (f127.ent L N) := by
  intro args vw site h
  unfold f127.ent
  split
  · rename_i d u ha
    intro y hy hs
    refine call_data (dep := 1000) (E := (E127 L N)) (rs := (.one (.sl (.sl i64)))) (v' := (.tv (.sl (.sl i64)) y)) (sound_of hΦ) okP (callI_sound (sound_of hΦ) okP 1 2000) (f := Try.f127) rfl hs ha ?_ site
    refine (f127.b_eq L N some d.1).trans ?_
    refine ((f127.b_nat (fun y => (some (.tv (.sl (.sl i64)) y) : Option AV)) L N some d.1)).trans ?_
    rw [show f127.b L N some d.1 = some y from hy]
    rfl
  · intro y hy
    cases hy
def Φ127 (L N : Nat) : Tells := (addT (Φ146 L N) 127 (f127.ent L N))
theorem Φ127_ok (L N : Nat) : TellsOk Try.prog (Φ127 L N) := addT_ok (Φ146_ok L N) (f127.ok L N (Φ146_ok L N))
def f94.b' {R : Type} (L N : Nat) (k : LI → Option R) (x0 : Graph) : Option R :=
  (f127 L N (Graph.mk x0.moves)).bind fun y0 =>
  bif (decide (0 ≤ (wi ((y0.length : Int) - (1 : Int)))) && decide ((wi ((y0.length : Int) - (1 : Int))) < (y0.length : Int))) then
    k (listAt y0 [] (wi ((y0.length : Int) - (1 : Int))).toNat)
  else none
def f94.b {R : Type} (L N : Nat) (k : LI → Option R) (x0 : Graph) : Option R :=
  f94.b' L N k x0
def f94 (L N : Nat) (x0 : Graph) : Option (LI) := f94.b L N some x0
def f94.ent (L N : Nat) (args : List AV) (vw : View) (site : Nat) : Ans := match coeD [(.st 2)] vw args with
  | some (d, u) => ⟨LI, f94 L N d.1, fun y => ((.tv (.sl i64) y), u, [])⟩
  | none => Ans.no
noncomputable def E94 (L N : Nat) : Env := { P := Try.prog, ty := tyOf, Φ := (Φ127 L N), inl := inlT, live := lives, liveX := livesX, L := L, dp := none, prom := promT, heal := healT, ren := renT }
theorem f94.b_pre {R : Type} (L N : Nat) (κ : AV → Option R) (x0 : Graph) :
    evBody (E94 L N) (evCallI (E94 L N) 1 2000) 1000 94 Try.f94 [(.tv (.st 2) x0)] [] [] (finC (.one (.sl i64)) κ)
    = f94.b' L N (fun a0 => κ (.tv (.sl i64) a0)) x0 := by kernel_rfl
theorem f94.b_eq {R : Type} (L N : Nat) (κ : AV → Option R) (x0 : Graph) :
    evBody (E94 L N) (evCallI (E94 L N) 1 2000) 1000 94 Try.f94 [(.tv (.st 2) x0)] [] [] (finC (.one (.sl i64)) κ)
    = f94.b L N (fun a0 => κ (.tv (.sl i64) a0)) x0 := by
  rw [f94.b_pre]
  unfold f94.b
  rfl
theorem f94.b'_nat {R R' : Type} (j : R → Option R') (L N : Nat) (k : LI → Option R) (x0 : Graph) :
    f94.b' L N (fun a0 => (k a0).bind j) x0 = (f94.b' L N k x0).bind j := by
  unfold f94.b'
  repeat' (first | (with_reducible refine cond_nat ?_ ?_) | (with_reducible refine bind_nat fun _ => ?_) | rfl)
theorem f94.b_nat {R R' : Type} (j : R → Option R') (L N : Nat) (k : LI → Option R) (x0 : Graph) :
    f94.b L N (fun a0 => (k a0).bind j) x0 = (f94.b L N k x0).bind j := by
  unfold f94.b
  exact f94.b'_nat ..
theorem f94.ok (L N : Nat) (hΦ : TellsOk Try.prog ((Φ127 L N))) : EntOk Try.prog 94 (f94.ent L N) := by
  intro args vw site h
  unfold f94.ent
  split
  · rename_i d u ha
    intro y hy hs
    refine call_data (dep := 1000) (E := (E94 L N)) (rs := (.one (.sl i64))) (v' := (.tv (.sl i64) y)) (sound_of hΦ) okP (callI_sound (sound_of hΦ) okP 1 2000) (f := Try.f94) rfl hs ha ?_ site
    refine (f94.b_eq L N some d.1).trans ?_
    refine ((f94.b_nat (fun y => (some (.tv (.sl i64) y) : Option AV)) L N some d.1)).trans ?_
    rw [show f94.b L N some d.1 = some y from hy]
    rfl
  · intro y hy
    cases hy
def Φ94 (L N : Nat) : Tells := (addT (Φ127 L N) 94 (f94.ent L N))
theorem Φ94_ok (L N : Nat) : TellsOk Try.prog (Φ94 L N) := addT_ok (Φ127_ok L N) (f94.ok L N (Φ127_ok L N))
def f51.b' {R : Type} (L N : Nat) (k : LI → Option R) (x0 : Graph) : Option R :=
  (f58 L N (Graph.mk x0.moves)).bind fun y0 =>
  bif (!y0) then
    k ([] : LI)
  else (f87 L N (Graph.mk x0.moves) false).bind fun y1 =>
  (f94 L N y1).bind fun y2 =>
  k y2
def f51.b {R : Type} (L N : Nat) (k : LI → Option R) (x0 : Graph) : Option R :=
  f51.b' L N k x0
def f51 (L N : Nat) (x0 : Graph) : Option (LI) := f51.b L N some x0
def f51.ent (L N : Nat) (args : List AV) (vw : View) (site : Nat) : Ans := match coeD [(.st 2)] vw args with
  | some (d, u) => ⟨LI, f51 L N d.1, fun y => ((.tv (.sl i64) y), u, [])⟩
  | none => Ans.no
noncomputable def E51 (L N : Nat) : Env := { P := Try.prog, ty := tyOf, Φ := (Φ94 L N), inl := inlT, live := lives, liveX := livesX, L := L, dp := none, prom := promT, heal := healT, ren := renT }
theorem f51.b_pre {R : Type} (L N : Nat) (κ : AV → Option R) (x0 : Graph) :
    evBody (E51 L N) (evCallI (E51 L N) 1 2000) 1000 51 Try.f51 [(.tv (.st 2) x0)] [] [] (finC (.one (.sl i64)) κ)
    = f51.b' L N (fun a0 => κ (.tv (.sl i64) a0)) x0 := by kernel_rfl
theorem f51.b_eq {R : Type} (L N : Nat) (κ : AV → Option R) (x0 : Graph) :
    evBody (E51 L N) (evCallI (E51 L N) 1 2000) 1000 51 Try.f51 [(.tv (.st 2) x0)] [] [] (finC (.one (.sl i64)) κ)
    = f51.b L N (fun a0 => κ (.tv (.sl i64) a0)) x0 := by
  rw [f51.b_pre]
  unfold f51.b
  rfl
theorem f51.b'_nat {R R' : Type} (j : R → Option R') (L N : Nat) (k : LI → Option R) (x0 : Graph) :
    f51.b' L N (fun a0 => (k a0).bind j) x0 = (f51.b' L N k x0).bind j := by
  unfold f51.b'
  repeat' (first | (with_reducible refine cond_nat ?_ ?_) | (with_reducible refine bind_nat fun _ => ?_) | rfl)
theorem f51.b_nat {R R' : Type} (j : R → Option R') (L N : Nat) (k : LI → Option R) (x0 : Graph) :
    f51.b L N (fun a0 => (k a0).bind j) x0 = (f51.b L N k x0).bind j := by
  unfold f51.b
  exact f51.b'_nat ..
theorem f51.ok (L N : Nat) (hΦ : TellsOk Try.prog ((Φ94 L N))) : EntOk Try.prog 51 (f51.ent L N) := by
  intro args vw site h
  unfold f51.ent
  split
  · rename_i d u ha
    intro y hy hs
    refine call_data (dep := 1000) (E := (E51 L N)) (rs := (.one (.sl i64))) (v' := (.tv (.sl i64) y)) (sound_of hΦ) okP (callI_sound (sound_of hΦ) okP 1 2000) (f := Try.f51) rfl hs ha ?_ site
    refine (f51.b_eq L N some d.1).trans ?_
    refine ((f51.b_nat (fun y => (some (.tv (.sl i64) y) : Option AV)) L N some d.1)).trans ?_
    rw [show f51.b L N some d.1 = some y from hy]
    rfl
  · intro y hy
    cases hy
def Φ51 (L N : Nat) : Tells := (addT (Φ94 L N) 51 (f51.ent L N))
theorem Φ51_ok (L N : Nat) : TellsOk Try.prog (Φ51 L N) := addT_ok (Φ94_ok L N) (f51.ok L N (Φ94_ok L N))
def f72.b' {R : Type} (L N : Nat) (k : Bool → Option R) (x0 : Int) : Option R :=
  bif (decide (x0 ≥ (-4 : Int))) then
    k (decide (x0 ≤ (4 : Int)))
  else k false
def f72.b {R : Type} (L N : Nat) (k : Bool → Option R) (x0 : Int) : Option R :=
  f72.b' L N k x0
def f72 (L N : Nat) (x0 : Int) : Option (Bool) := f72.b L N some x0
def f72.ent (L N : Nat) (args : List AV) (vw : View) (site : Nat) : Ans := match roD [i64] vw args with
  | some d => ⟨Bool, f72 L N d.1, fun y => ((.tv .bool y), [], [])⟩
  | none => Ans.no
noncomputable def E72 (L N : Nat) : Env := { P := Try.prog, ty := tyOf, Φ := (Φ51 L N), inl := inlT, live := lives, liveX := livesX, L := L, dp := none, prom := promT, heal := healT, ren := renT }
theorem f72.b_pre {R : Type} (L N : Nat) (κ : AV → Option R) (x0 : Int) :
    evBody (E72 L N) (evCallI (E72 L N) 1 2000) 1000 72 Try.f72 [(.tv i64 x0)] [] [] (finC (.one .bool) κ)
    = f72.b' L N (fun a0 => κ (.tv .bool a0)) x0 := by kernel_rfl
theorem f72.b_eq {R : Type} (L N : Nat) (κ : AV → Option R) (x0 : Int) :
    evBody (E72 L N) (evCallI (E72 L N) 1 2000) 1000 72 Try.f72 [(.tv i64 x0)] [] [] (finC (.one .bool) κ)
    = f72.b L N (fun a0 => κ (.tv .bool a0)) x0 := by
  rw [f72.b_pre]
  unfold f72.b
  rfl
theorem f72.b'_nat {R R' : Type} (j : R → Option R') (L N : Nat) (k : Bool → Option R) (x0 : Int) :
    f72.b' L N (fun a0 => (k a0).bind j) x0 = (f72.b' L N k x0).bind j := by
  unfold f72.b'
  repeat' (first | (with_reducible refine cond_nat ?_ ?_) | (with_reducible refine bind_nat fun _ => ?_) | rfl)
theorem f72.b_nat {R R' : Type} (j : R → Option R') (L N : Nat) (k : Bool → Option R) (x0 : Int) :
    f72.b L N (fun a0 => (k a0).bind j) x0 = (f72.b L N k x0).bind j := by
  unfold f72.b
  exact f72.b'_nat ..
theorem f72.ok (L N : Nat) (hΦ : TellsOk Try.prog ((Φ51 L N))) : EntOk Try.prog 72 (f72.ent L N) := by
  intro args vw site h
  unfold f72.ent
  split
  · rename_i d ha
    intro y hy hs
    refine call_ro (dep := 1000) (E := (E72 L N)) (rs := (.one .bool)) (v := (.tv .bool y)) (sound_of hΦ) okP (callI_sound (sound_of hΦ) okP 1 2000) (f := Try.f72) rfl hs ha ?_ rfl site
    refine (f72.b_eq L N some d.1).trans ?_
    refine ((f72.b_nat (fun y => (some (.tv .bool y) : Option AV)) L N some d.1)).trans ?_
    rw [show f72.b L N some d.1 = some y from hy]
    rfl
  · intro y hy
    cases hy
def Φ72 (L N : Nat) : Tells := (addT (Φ51 L N) 72 (f72.ent L N))
theorem Φ72_ok (L N : Nat) : TellsOk Try.prog (Φ72 L N) := addT_ok (Φ51_ok L N) (f72.ok L N (Φ51_ok L N))
def f136.b' {R : Type} (L N : Nat) (k : Bool → Option R) (x0 : Int) : Option R :=
  k (x0 != x0)
def f136.b {R : Type} (L N : Nat) (k : Bool → Option R) (x0 : Int) : Option R :=
  f136.b' L N k x0
def f136 (L N : Nat) (x0 : Int) : Option (Bool) := f136.b L N some x0
def f136.ent (L N : Nat) (args : List AV) (vw : View) (site : Nat) : Ans := match roD [i64] vw args with
  | some d => ⟨Bool, f136 L N d.1, fun y => ((.tv .bool y), [], [])⟩
  | none => Ans.no
noncomputable def E136 (L N : Nat) : Env := { P := Try.prog, ty := tyOf, Φ := (Φ72 L N), inl := inlT, live := lives, liveX := livesX, L := L, dp := none, prom := promT, heal := healT, ren := renT }
theorem f136.b_pre {R : Type} (L N : Nat) (κ : AV → Option R) (x0 : Int) :
    evBody (E136 L N) (evCallI (E136 L N) 1 2000) 1000 136 Try.f136 [(.tv i64 x0)] [] [] (finC (.one .bool) κ)
    = f136.b' L N (fun a0 => κ (.tv .bool a0)) x0 := by kernel_rfl
theorem f136.b_eq {R : Type} (L N : Nat) (κ : AV → Option R) (x0 : Int) :
    evBody (E136 L N) (evCallI (E136 L N) 1 2000) 1000 136 Try.f136 [(.tv i64 x0)] [] [] (finC (.one .bool) κ)
    = f136.b L N (fun a0 => κ (.tv .bool a0)) x0 := by
  rw [f136.b_pre]
  unfold f136.b
  rfl
theorem f136.b'_nat {R R' : Type} (j : R → Option R') (L N : Nat) (k : Bool → Option R) (x0 : Int) :
    f136.b' L N (fun a0 => (k a0).bind j) x0 = (f136.b' L N k x0).bind j := by
  unfold f136.b'
  repeat' (first | (with_reducible refine cond_nat ?_ ?_) | (with_reducible refine bind_nat fun _ => ?_) | rfl)
theorem f136.b_nat {R R' : Type} (j : R → Option R') (L N : Nat) (k : Bool → Option R) (x0 : Int) :
    f136.b L N (fun a0 => (k a0).bind j) x0 = (f136.b L N k x0).bind j := by
  unfold f136.b
  exact f136.b'_nat ..
theorem f136.ok (L N : Nat) (hΦ : TellsOk Try.prog ((Φ72 L N))) : EntOk Try.prog 136 (f136.ent L N) := by
  intro args vw site h
  unfold f136.ent
  split
  · rename_i d ha
    intro y hy hs
    refine call_ro (dep := 1000) (E := (E136 L N)) (rs := (.one .bool)) (v := (.tv .bool y)) (sound_of hΦ) okP (callI_sound (sound_of hΦ) okP 1 2000) (f := Try.f136) rfl hs ha ?_ rfl site
    refine (f136.b_eq L N some d.1).trans ?_
    refine ((f136.b_nat (fun y => (some (.tv .bool y) : Option AV)) L N some d.1)).trans ?_
    rw [show f136.b L N some d.1 = some y from hy]
    rfl
  · intro y hy
    cases hy
def Φ136 (L N : Nat) : Tells := (addT (Φ72 L N) 136 (f136.ent L N))
theorem Φ136_ok (L N : Nat) : TellsOk Try.prog (Φ136 L N) := addT_ok (Φ72_ok L N) (f136.ok L N (Φ72_ok L N))
def f108.b' {R : Type} (L N : Nat) (k : Int → Option R) (x0 : Int) (x1 : Int) : Option R :=
  (f136 L N x0).bind fun y0 =>
  (f136 L N x1).bind fun y1 =>
  bif y0 then
    bif y1 then
      k (0 : Int)
    else k (-1 : Int)
  else bif y1 then
    k (1 : Int)
  else bif (decide (x0 < x1)) then
    k (-1 : Int)
  else bif (decide (x0 > x1)) then
    k (1 : Int)
  else k (0 : Int)
def f108.b {R : Type} (L N : Nat) (k : Int → Option R) (x0 : Int) (x1 : Int) : Option R :=
  f108.b' L N k x0 x1
def f108 (L N : Nat) (x0 : Int) (x1 : Int) : Option (Int) := f108.b L N some x0 x1
def f108.ent (L N : Nat) (args : List AV) (vw : View) (site : Nat) : Ans := match roD [i64, i64] vw args with
  | some d => ⟨Int, f108 L N d.1 d.2.1, fun y => ((.tv i64 y), [], [])⟩
  | none => Ans.no
noncomputable def E108 (L N : Nat) : Env := { P := Try.prog, ty := tyOf, Φ := (Φ136 L N), inl := inlT, live := lives, liveX := livesX, L := L, dp := none, prom := promT, heal := healT, ren := renT }
theorem f108.b_pre {R : Type} (L N : Nat) (κ : AV → Option R) (x0 : Int) (x1 : Int) :
    evBody (E108 L N) (evCallI (E108 L N) 1 2000) 1000 108 Try.f108 [(.tv i64 x0), (.tv i64 x1)] [] [] (finC (.one i64) κ)
    = f108.b' L N (fun a0 => κ (.tv i64 a0)) x0 x1 := by kernel_rfl
theorem f108.b_eq {R : Type} (L N : Nat) (κ : AV → Option R) (x0 : Int) (x1 : Int) :
    evBody (E108 L N) (evCallI (E108 L N) 1 2000) 1000 108 Try.f108 [(.tv i64 x0), (.tv i64 x1)] [] [] (finC (.one i64) κ)
    = f108.b L N (fun a0 => κ (.tv i64 a0)) x0 x1 := by
  rw [f108.b_pre]
  unfold f108.b
  rfl
theorem f108.b'_nat {R R' : Type} (j : R → Option R') (L N : Nat) (k : Int → Option R) (x0 : Int) (x1 : Int) :
    f108.b' L N (fun a0 => (k a0).bind j) x0 x1 = (f108.b' L N k x0 x1).bind j := by
  unfold f108.b'
  repeat' (first | (with_reducible refine cond_nat ?_ ?_) | (with_reducible refine bind_nat fun _ => ?_) | rfl)
theorem f108.b_nat {R R' : Type} (j : R → Option R') (L N : Nat) (k : Int → Option R) (x0 : Int) (x1 : Int) :
    f108.b L N (fun a0 => (k a0).bind j) x0 x1 = (f108.b L N k x0 x1).bind j := by
  unfold f108.b
  exact f108.b'_nat ..
theorem f108.ok (L N : Nat) (hΦ : TellsOk Try.prog ((Φ136 L N))) : EntOk Try.prog 108 (f108.ent L N) := by
  intro args vw site h
  unfold f108.ent
  split
  · rename_i d ha
    intro y hy hs
    refine call_ro (dep := 1000) (E := (E108 L N)) (rs := (.one i64)) (v := (.tv i64 y)) (sound_of hΦ) okP (callI_sound (sound_of hΦ) okP 1 2000) (f := Try.f108) rfl hs ha ?_ rfl site
    refine (f108.b_eq L N some d.1 d.2.1).trans ?_
    refine ((f108.b_nat (fun y => (some (.tv i64 y) : Option AV)) L N some d.1 d.2.1)).trans ?_
    rw [show f108.b L N some d.1 d.2.1 = some y from hy]
    rfl
  · intro y hy
    cases hy
def Φ108 (L N : Nat) : Tells := (addT (Φ136 L N) 108 (f108.ent L N))
theorem Φ108_ok (L N : Nat) : TellsOk Try.prog (Φ108 L N) := addT_ok (Φ136_ok L N) (f108.ok L N (Φ136_ok L N))
def f73.b' {R : Type} (L N : Nat) (k : Int → Option R) (x0 : Move) (x1 : Move) : Option R :=
  (f108 L N x0.act x1.act).bind fun y0 =>
  bif (y0 != (0 : Int)) then
    k y0
  else (f108 L N x0.to x1.to).bind fun y1 =>
  k y1
def f73.b {R : Type} (L N : Nat) (k : Int → Option R) (x0 : Move) (x1 : Move) : Option R :=
  f73.b' L N k x0 x1
def f73 (L N : Nat) (x0 : Move) (x1 : Move) : Option (Int) := f73.b L N some x0 x1
def f73.ent (L N : Nat) (args : List AV) (vw : View) (site : Nat) : Ans := match roD [(.st 0), (.st 0)] vw args with
  | some d => ⟨Int, f73 L N d.1 d.2.1, fun y => ((.tv i64 y), [], [])⟩
  | none => Ans.no
noncomputable def E73 (L N : Nat) : Env := { P := Try.prog, ty := tyOf, Φ := (Φ108 L N), inl := inlT, live := lives, liveX := livesX, L := L, dp := none, prom := promT, heal := healT, ren := renT }
theorem f73.b_pre {R : Type} (L N : Nat) (κ : AV → Option R) (x0 : Move) (x1 : Move) :
    evBody (E73 L N) (evCallI (E73 L N) 1 2000) 1000 73 Try.f73 [(.tv (.st 0) x0), (.tv (.st 0) x1)] [] [] (finC (.one i64) κ)
    = f73.b' L N (fun a0 => κ (.tv i64 a0)) x0 x1 := by kernel_rfl
theorem f73.b_eq {R : Type} (L N : Nat) (κ : AV → Option R) (x0 : Move) (x1 : Move) :
    evBody (E73 L N) (evCallI (E73 L N) 1 2000) 1000 73 Try.f73 [(.tv (.st 0) x0), (.tv (.st 0) x1)] [] [] (finC (.one i64) κ)
    = f73.b L N (fun a0 => κ (.tv i64 a0)) x0 x1 := by
  rw [f73.b_pre]
  unfold f73.b
  rfl
theorem f73.b'_nat {R R' : Type} (j : R → Option R') (L N : Nat) (k : Int → Option R) (x0 : Move) (x1 : Move) :
    f73.b' L N (fun a0 => (k a0).bind j) x0 x1 = (f73.b' L N k x0 x1).bind j := by
  unfold f73.b'
  repeat' (first | (with_reducible refine cond_nat ?_ ?_) | (with_reducible refine bind_nat fun _ => ?_) | rfl)
theorem f73.b_nat {R R' : Type} (j : R → Option R') (L N : Nat) (k : Int → Option R) (x0 : Move) (x1 : Move) :
    f73.b L N (fun a0 => (k a0).bind j) x0 x1 = (f73.b L N k x0 x1).bind j := by
  unfold f73.b
  exact f73.b'_nat ..
theorem f73.ok (L N : Nat) (hΦ : TellsOk Try.prog ((Φ108 L N))) : EntOk Try.prog 73 (f73.ent L N) := by
  intro args vw site h
  unfold f73.ent
  split
  · rename_i d ha
    intro y hy hs
    refine call_ro (dep := 1000) (E := (E73 L N)) (rs := (.one i64)) (v := (.tv i64 y)) (sound_of hΦ) okP (callI_sound (sound_of hΦ) okP 1 2000) (f := Try.f73) rfl hs ha ?_ rfl site
    refine (f73.b_eq L N some d.1 d.2.1).trans ?_
    refine ((f73.b_nat (fun y => (some (.tv i64 y) : Option AV)) L N some d.1 d.2.1)).trans ?_
    rw [show f73.b L N some d.1 d.2.1 = some y from hy]
    rfl
  · intro y hy
    cases hy
def Φ73 (L N : Nat) : Tells := (addT (Φ108 L N) 73 (f73.ent L N))
theorem Φ73_ok (L N : Nat) : TellsOk Try.prog (Φ73 L N) := addT_ok (Φ108_ok L N) (f73.ok L N (Φ108_ok L N))
def f32.s1' {R : Type} (L N : Nat) (k1_e2 : LLM → Int → Int → LLM → Option R) (k1_r : Bool → LLM → Int → Int → LLM → Option R) (rec1 : LM → LLM → Int → Int → LM → Int → Int → LLM → Option R) (s7 : LM) (s8 : LLM) (s9 : Int) (s10 : Int) (s11 : LM) (s12 : Int) (s13 : Int) (s14 : LLM) : Option R :=
  bif (decide (s13 < s12)) then
    bif (decide (0 ≤ s13) && decide (s13 < (s11.length : Int))) then
      (f72 L N ((listAt s11 (Ty.dflt (.st 0)) s13.toNat).act)).bind fun y19 =>
      bif (!y19) then
        k1_r false s8 s9 s10 s14
      else bif (decide ((listAt s11 (Ty.dflt (.st 0)) s13.toNat).to < (0 : Int))) then
        k1_r false s8 s9 s10 s14
      else bif (decide ((listAt s11 (Ty.dflt (.st 0)) s13.toNat).to ≥ (s14.length : Int))) then
        k1_r false s8 s9 s10 s14
      else bif (decide (s13 > (0 : Int))) then
        bif (decide (0 ≤ (wi (s13 - (1 : Int)))) && decide ((wi (s13 - (1 : Int))) < (s7.length : Int))) then
          (f73 L N (listAt s7 (Ty.dflt (.st 0)) (wi (s13 - (1 : Int))).toNat) (Move.mk ((listAt s11 (Ty.dflt (.st 0)) s13.toNat).act) ((listAt s11 (Ty.dflt (.st 0)) s13.toNat).to))).bind fun y20 =>
          bif (decide (y20 ≥ (0 : Int))) then
            k1_r false s8 s9 s10 s14
          else rec1 s7 s8 s9 s10 s11 s12 (wi (s13 + (1 : Int))) s14
        else none
      else rec1 s7 s8 s9 s10 s11 s12 (wi (s13 + (1 : Int))) s14
    else none
  else k1_e2 s8 s9 s10 s14
def f32.s1 {R : Type} (L N : Nat) (k1_e2 : LLM → Int → Int → LLM → Option R) (k1_r : Bool → LLM → Int → Int → LLM → Option R) (rec1 : LM → LLM → Int → Int → LM → Int → Int → LLM → Option R) (s7 : LM) (s8 : LLM) (s9 : Int) (s10 : Int) (s11 : LM) (s12 : Int) (s13 : Int) (s14 : LLM) : Option R :=
  f32.s1' L N k1_e2 k1_r rec1 s7 s8 s9 s10 s11 s12 s13 s14
def f32.l1 {R : Type} (L N : Nat) (k1_e2 : LLM → Int → Int → LLM → Option R) (k1_r : Bool → LLM → Int → Int → LLM → Option R) : Nat → LM → LLM → Int → Int → LM → Int → Int → LLM → Option R
  | 0, _, _, _, _, _, _, _, _ => none
  | n + 1, s7, s8, s9, s10, s11, s12, s13, s14 => f32.s1 L N k1_e2 k1_r (f32.l1 L N k1_e2 k1_r n) s7 s8 s9 s10 s11 s12 s13 s14
def f32.T1 (s7 : LM) (s8 : LLM) (s9 : Int) (s10 : Int) (s11 : LM) (s12 : Int) (s13 : Int) (s14 : LLM) : T := mkT 64 [(1, (.ptr 1001 0)), (4, (.tv (.sl (.st 0)) s7)), (18, (.tv (.sl (.sl (.st 0))) s8)), (19, (.tv i64 s9)), (20, (.tv i64 s10)), (24, (.tv (.sl (.st 0)) s11)), (25, (.tv i64 s12)), (26, (.tv i64 s13))]
def f32.H1 (s7 : LM) (s8 : LLM) (s9 : Int) (s10 : Int) (s11 : LM) (s12 : Int) (s13 : Int) (s14 : LLM) : H := [(1001, (.box [(.tv (.sl (.sl (.st 0))) s14)]))]
def f32.T1_e2 (z15 : LLM) (z16 : Int) (z17 : Int) (z18 : LLM) : T := mkT 64 [(1, (.ptr 1001 0)), (18, (.tv (.sl (.sl (.st 0))) z15)), (19, (.tv i64 z16)), (20, (.tv i64 z17))]
def f32.H1_e2 (z15 : LLM) (z16 : Int) (z17 : Int) (z18 : LLM) : H := [(1001, (.box [(.tv (.sl (.sl (.st 0))) z18)]))]
def f32.T1_r (z30 : Bool) (z31 : LLM) (z32 : Int) (z33 : Int) (z34 : LLM) : T := mkT 64 [(1, (.ptr 1001 0)), (2, (.tv .bool z30)), (18, (.tv (.sl (.sl (.st 0))) z31)), (19, (.tv i64 z32)), (20, (.tv i64 z33))]
def f32.H1_r (z30 : Bool) (z31 : LLM) (z32 : Int) (z33 : Int) (z34 : LLM) : H := [(1001, (.box [(.tv (.sl (.sl (.st 0))) z34)]))]
def f32.p1_e2' {R : Type} (L N : Nat) (k0_e0 : Option R) (k0_r : Bool → Option R) (rec0 : LLM → Int → Int → LLM → Option R) (z15 : LLM) (z16 : Int) (z17 : Int) (z18 : LLM) : Option R :=
  rec0 z15 z16 (wi (z17 + (1 : Int))) z18
def f32.p1_e2 {R : Type} (L N : Nat) (k0_e0 : Option R) (k0_r : Bool → Option R) (rec0 : LLM → Int → Int → LLM → Option R) (z15 : LLM) (z16 : Int) (z17 : Int) (z18 : LLM) : Option R :=
  f32.p1_e2' L N k0_e0 k0_r rec0 z15 z16 z17 z18
def f32.p1_r' {R : Type} (L N : Nat) (k0_e0 : Option R) (k0_r : Bool → Option R) (rec0 : LLM → Int → Int → LLM → Option R) (z30 : Bool) (z31 : LLM) (z32 : Int) (z33 : Int) (z34 : LLM) : Option R :=
  k0_r z30
def f32.p1_r {R : Type} (L N : Nat) (k0_e0 : Option R) (k0_r : Bool → Option R) (rec0 : LLM → Int → Int → LLM → Option R) (z30 : Bool) (z31 : LLM) (z32 : Int) (z33 : Int) (z34 : LLM) : Option R :=
  f32.p1_r' L N k0_e0 k0_r rec0 z30 z31 z32 z33 z34
def f32.s0' {R : Type} (L N : Nat) (k0_e0 : Option R) (k0_r : Bool → Option R) (rec0 : LLM → Int → Int → LLM → Option R) (w1 : LM → LLM → Int → Int → LM → Int → Int → LLM → Option R) (s3 : LLM) (s4 : Int) (s5 : Int) (s6 : LLM) : Option R :=
  bif (decide (s5 < s4)) then
    bif (decide (0 ≤ s5) && decide (s5 < (s3.length : Int))) then
      w1 (listAt s3 [] s5.toNat) s3 s4 s5 (listAt s3 [] s5.toNat) ((listAt s3 [] s5.toNat).length : Int) (0 : Int) s6
    else none
  else k0_e0
def f32.s0 {R : Type} (L N : Nat) (k0_e0 : Option R) (k0_r : Bool → Option R) (rec0 : LLM → Int → Int → LLM → Option R) (s3 : LLM) (s4 : Int) (s5 : Int) (s6 : LLM) : Option R :=
  f32.s0' L N k0_e0 k0_r rec0 (fun s7 s8 s9 s10 s11 s12 s13 s14 => f32.l1 L N (fun z15 z16 z17 z18 => f32.p1_e2 L N k0_e0 k0_r rec0 z15 z16 z17 z18) (fun z30 z31 z32 z33 z34 => f32.p1_r L N k0_e0 k0_r rec0 z30 z31 z32 z33 z34) L s7 s8 s9 s10 s11 s12 s13 s14) s3 s4 s5 s6
def f32.l0 {R : Type} (L N : Nat) (k0_e0 : Option R) (k0_r : Bool → Option R) : Nat → LLM → Int → Int → LLM → Option R
  | 0, _, _, _, _ => none
  | n + 1, s3, s4, s5, s6 => f32.s0 L N k0_e0 k0_r (f32.l0 L N k0_e0 k0_r n) s3 s4 s5 s6
def f32.T0 (s3 : LLM) (s4 : Int) (s5 : Int) (s6 : LLM) : T := mkT 64 [(1, (.ptr 1001 0)), (18, (.tv (.sl (.sl (.st 0))) s3)), (19, (.tv i64 s4)), (20, (.tv i64 s5))]
def f32.H0 (s3 : LLM) (s4 : Int) (s5 : Int) (s6 : LLM) : H := [(1001, (.box [(.tv (.sl (.sl (.st 0))) s6)]))]
def f32.T0_e0 : T := mkT 64 []
def f32.H0_e0 : H := []
def f32.T0_r (z43 : Bool) : T := mkT 64 [(2, (.tv .bool z43))]
def f32.H0_r (z43 : Bool) : H := []
def f32.p0_e0' {R : Type} (L N : Nat) (k : Bool → Option R) : Option R :=
  k true
def f32.p0_e0 {R : Type} (L N : Nat) (k : Bool → Option R) : Option R :=
  f32.p0_e0' L N k
def f32.p0_r' {R : Type} (L N : Nat) (k : Bool → Option R) (z43 : Bool) : Option R :=
  k z43
def f32.p0_r {R : Type} (L N : Nat) (k : Bool → Option R) (z43 : Bool) : Option R :=
  f32.p0_r' L N k z43
def f32.j0' {R : Type} (L N : Nat) (k : Bool → Option R) (w0 : LLM → Int → Int → LLM → Option R) (v2 : LLM) : Option R :=
  w0 v2 (v2.length : Int) (0 : Int) v2
def f32.b' {R : Type} (L N : Nat) (k : Bool → Option R) (w0 : LLM → Int → Int → LLM → Option R) (x0 : Graph) : Option R :=
  bif (decide ((x0.moves.length : Int) < (1 : Int))) then
    k false
  else bif (decide ((x0.moves.length : Int) > (60 : Int))) then
    k false
  else f32.j0' L N k w0 x0.moves
def f32.b {R : Type} (L N : Nat) (k : Bool → Option R) (x0 : Graph) : Option R :=
  f32.b' L N k (fun s3 s4 s5 s6 => f32.l0 L N (f32.p0_e0 L N k) (fun z43 => f32.p0_r L N k z43) L s3 s4 s5 s6) x0
def f32 (L N : Nat) (x0 : Graph) : Option (Bool) := f32.b L N some x0
def f32.ent (L N : Nat) (args : List AV) (vw : View) (site : Nat) : Ans := match roD [(.st 2)] vw args with
  | some d => ⟨Bool, f32 L N d.1, fun y => ((.tv .bool y), [], [])⟩
  | none => Ans.no
noncomputable def E32 (L N : Nat) : Env := { P := Try.prog, ty := tyOf, Φ := (Φ73 L N), inl := inlT, live := lives, liveX := livesX, L := L, dp := none, prom := promT, heal := healT, ren := renT }
noncomputable def f32.c0 : Code := loopAt 0 (codeOf Try.f32)
noncomputable def f32.c1 : Code := loopAt 2 f32.c0
theorem f32.s1_pre {R : Type} (L N : Nat) (κ : Ex → T → H → Option R) (rec : T → H → Option R) (s7 : LM) (s8 : LLM) (s9 : Int) (s10 : Int) (s11 : LM) (s12 : Int) (s13 : Int) (s14 : LLM) :
    evRd (E32 L N) (evCallI (E32 L N) 1 2000) 1000 32 64 2 f32.c1 κ rec (f32.T1 s7 s8 s9 s10 s11 s12 s13 s14) (f32.H1 s7 s8 s9 s10 s11 s12 s13 s14)
    = f32.s1' L N (fun z15 z16 z17 z18 => κ (.exit 2) (f32.T1_e2 z15 z16 z17 z18) (f32.H1_e2 z15 z16 z17 z18)) (fun z30 z31 z32 z33 z34 => κ .ret (f32.T1_r z30 z31 z32 z33 z34) (f32.H1_r z30 z31 z32 z33 z34)) (fun s7 s8 s9 s10 s11 s12 s13 s14 => rec (f32.T1 s7 s8 s9 s10 s11 s12 s13 s14) (f32.H1 s7 s8 s9 s10 s11 s12 s13 s14)) s7 s8 s9 s10 s11 s12 s13 s14 := by kernel_rfl
theorem f32.s1_eq {R : Type} (L N : Nat) (κ : Ex → T → H → Option R) (rec : T → H → Option R) (s7 : LM) (s8 : LLM) (s9 : Int) (s10 : Int) (s11 : LM) (s12 : Int) (s13 : Int) (s14 : LLM) :
    evRd (E32 L N) (evCallI (E32 L N) 1 2000) 1000 32 64 2 f32.c1 κ rec (f32.T1 s7 s8 s9 s10 s11 s12 s13 s14) (f32.H1 s7 s8 s9 s10 s11 s12 s13 s14)
    = f32.s1 L N (fun z15 z16 z17 z18 => κ (.exit 2) (f32.T1_e2 z15 z16 z17 z18) (f32.H1_e2 z15 z16 z17 z18)) (fun z30 z31 z32 z33 z34 => κ .ret (f32.T1_r z30 z31 z32 z33 z34) (f32.H1_r z30 z31 z32 z33 z34)) (fun s7 s8 s9 s10 s11 s12 s13 s14 => rec (f32.T1 s7 s8 s9 s10 s11 s12 s13 s14) (f32.H1 s7 s8 s9 s10 s11 s12 s13 s14)) s7 s8 s9 s10 s11 s12 s13 s14 := by
  rw [f32.s1_pre]
  unfold f32.s1
  rfl
theorem f32.l1_eq {R : Type} (L N : Nat) (κ : Ex → T → H → Option R) : ∀ (n : Nat) (s7 : LM) (s8 : LLM) (s9 : Int) (s10 : Int) (s11 : LM) (s12 : Int) (s13 : Int) (s14 : LLM),
    evLp (E32 L N) (evCallI (E32 L N) 1 2000) 1000 32 64 2 f32.c1 κ n (f32.T1 s7 s8 s9 s10 s11 s12 s13 s14) (f32.H1 s7 s8 s9 s10 s11 s12 s13 s14)
    = f32.l1 L N (fun z15 z16 z17 z18 => κ (.exit 2) (f32.T1_e2 z15 z16 z17 z18) (f32.H1_e2 z15 z16 z17 z18)) (fun z30 z31 z32 z33 z34 => κ .ret (f32.T1_r z30 z31 z32 z33 z34) (f32.H1_r z30 z31 z32 z33 z34)) n s7 s8 s9 s10 s11 s12 s13 s14 := by
  intro n
  induction n with
  | zero => intros; rfl
  | succ n ih =>
    intro s7 s8 s9 s10 s11 s12 s13 s14
    rw [evLp_succ, f32.s1_eq]
    simp only [ih]
    rfl
theorem f32.p1_e2_pre {R : Type} (L N : Nat) (κ : Ex → T → H → Option R) (rec : T → H → Option R) (z15 : LLM) (z16 : Int) (z17 : Int) (z18 : LLM) :
    (contAt (E32 L N) (evCallI (E32 L N) 1 2000) 1000 32 64 2 f32.c0 (stepK (outK (keepT 64 ((E32 L N).liveX 32 0).1) (keepH 1000 ((E32 L N).liveX 32 0).2) κ) fun t h => rec (backK 1000 64 ((E32 L N).live 32 0).1 ((E32 L N).live 32 0).2 ((E32 L N).heal 32 0) ((E32 L N).ren 32 0) t h).1 (backK 1000 64 ((E32 L N).live 32 0).1 ((E32 L N).live 32 0).2 ((E32 L N).heal 32 0) ((E32 L N).ren 32 0) t h).2)) (.exit 2) (f32.T1_e2 z15 z16 z17 z18) (f32.H1_e2 z15 z16 z17 z18)
    = f32.p1_e2' L N (κ (.exit 0) f32.T0_e0 f32.H0_e0) (fun z43 => κ .ret (f32.T0_r z43) (f32.H0_r z43)) (fun s3 s4 s5 s6 => rec (f32.T0 s3 s4 s5 s6) (f32.H0 s3 s4 s5 s6)) z15 z16 z17 z18 := by kernel_rfl
theorem f32.p1_e2_eq {R : Type} (L N : Nat) (κ : Ex → T → H → Option R) (rec : T → H → Option R) (z15 : LLM) (z16 : Int) (z17 : Int) (z18 : LLM) :
    (contAt (E32 L N) (evCallI (E32 L N) 1 2000) 1000 32 64 2 f32.c0 (stepK (outK (keepT 64 ((E32 L N).liveX 32 0).1) (keepH 1000 ((E32 L N).liveX 32 0).2) κ) fun t h => rec (backK 1000 64 ((E32 L N).live 32 0).1 ((E32 L N).live 32 0).2 ((E32 L N).heal 32 0) ((E32 L N).ren 32 0) t h).1 (backK 1000 64 ((E32 L N).live 32 0).1 ((E32 L N).live 32 0).2 ((E32 L N).heal 32 0) ((E32 L N).ren 32 0) t h).2)) (.exit 2) (f32.T1_e2 z15 z16 z17 z18) (f32.H1_e2 z15 z16 z17 z18)
    = f32.p1_e2 L N (κ (.exit 0) f32.T0_e0 f32.H0_e0) (fun z43 => κ .ret (f32.T0_r z43) (f32.H0_r z43)) (fun s3 s4 s5 s6 => rec (f32.T0 s3 s4 s5 s6) (f32.H0 s3 s4 s5 s6)) z15 z16 z17 z18 := by
  rw [f32.p1_e2_pre]
  unfold f32.p1_e2
  rfl
theorem f32.p1_r_pre {R : Type} (L N : Nat) (κ : Ex → T → H → Option R) (rec : T → H → Option R) (z30 : Bool) (z31 : LLM) (z32 : Int) (z33 : Int) (z34 : LLM) :
    (contAt (E32 L N) (evCallI (E32 L N) 1 2000) 1000 32 64 2 f32.c0 (stepK (outK (keepT 64 ((E32 L N).liveX 32 0).1) (keepH 1000 ((E32 L N).liveX 32 0).2) κ) fun t h => rec (backK 1000 64 ((E32 L N).live 32 0).1 ((E32 L N).live 32 0).2 ((E32 L N).heal 32 0) ((E32 L N).ren 32 0) t h).1 (backK 1000 64 ((E32 L N).live 32 0).1 ((E32 L N).live 32 0).2 ((E32 L N).heal 32 0) ((E32 L N).ren 32 0) t h).2)) .ret (f32.T1_r z30 z31 z32 z33 z34) (f32.H1_r z30 z31 z32 z33 z34)
    = f32.p1_r' L N (κ (.exit 0) f32.T0_e0 f32.H0_e0) (fun z43 => κ .ret (f32.T0_r z43) (f32.H0_r z43)) (fun s3 s4 s5 s6 => rec (f32.T0 s3 s4 s5 s6) (f32.H0 s3 s4 s5 s6)) z30 z31 z32 z33 z34 := by kernel_rfl
theorem f32.p1_r_eq {R : Type} (L N : Nat) (κ : Ex → T → H → Option R) (rec : T → H → Option R) (z30 : Bool) (z31 : LLM) (z32 : Int) (z33 : Int) (z34 : LLM) :
    (contAt (E32 L N) (evCallI (E32 L N) 1 2000) 1000 32 64 2 f32.c0 (stepK (outK (keepT 64 ((E32 L N).liveX 32 0).1) (keepH 1000 ((E32 L N).liveX 32 0).2) κ) fun t h => rec (backK 1000 64 ((E32 L N).live 32 0).1 ((E32 L N).live 32 0).2 ((E32 L N).heal 32 0) ((E32 L N).ren 32 0) t h).1 (backK 1000 64 ((E32 L N).live 32 0).1 ((E32 L N).live 32 0).2 ((E32 L N).heal 32 0) ((E32 L N).ren 32 0) t h).2)) .ret (f32.T1_r z30 z31 z32 z33 z34) (f32.H1_r z30 z31 z32 z33 z34)
    = f32.p1_r L N (κ (.exit 0) f32.T0_e0 f32.H0_e0) (fun z43 => κ .ret (f32.T0_r z43) (f32.H0_r z43)) (fun s3 s4 s5 s6 => rec (f32.T0 s3 s4 s5 s6) (f32.H0 s3 s4 s5 s6)) z30 z31 z32 z33 z34 := by
  rw [f32.p1_r_pre]
  unfold f32.p1_r
  rfl
theorem f32.s0_pre {R : Type} (L N : Nat) (κ : Ex → T → H → Option R) (rec : T → H → Option R) (s3 : LLM) (s4 : Int) (s5 : Int) (s6 : LLM) :
    evRd (E32 L N) (evCallI (E32 L N) 1 2000) 1000 32 64 0 f32.c0 κ rec (f32.T0 s3 s4 s5 s6) (f32.H0 s3 s4 s5 s6)
    = f32.s0' L N (κ (.exit 0) f32.T0_e0 f32.H0_e0) (fun z43 => κ .ret (f32.T0_r z43) (f32.H0_r z43)) (fun s3 s4 s5 s6 => rec (f32.T0 s3 s4 s5 s6) (f32.H0 s3 s4 s5 s6)) (fun s7 s8 s9 s10 s11 s12 s13 s14 => evLp (E32 L N) (evCallI (E32 L N) 1 2000) 1000 32 64 2 f32.c1 (contAt (E32 L N) (evCallI (E32 L N) 1 2000) 1000 32 64 2 f32.c0 (stepK (outK (keepT 64 ((E32 L N).liveX 32 0).1) (keepH 1000 ((E32 L N).liveX 32 0).2) κ) fun t h => rec (backK 1000 64 ((E32 L N).live 32 0).1 ((E32 L N).live 32 0).2 ((E32 L N).heal 32 0) ((E32 L N).ren 32 0) t h).1 (backK 1000 64 ((E32 L N).live 32 0).1 ((E32 L N).live 32 0).2 ((E32 L N).heal 32 0) ((E32 L N).ren 32 0) t h).2)) L (f32.T1 s7 s8 s9 s10 s11 s12 s13 s14) (f32.H1 s7 s8 s9 s10 s11 s12 s13 s14)) s3 s4 s5 s6 := by kernel_rfl
theorem f32.s0_eq {R : Type} (L N : Nat) (κ : Ex → T → H → Option R) (rec : T → H → Option R) (s3 : LLM) (s4 : Int) (s5 : Int) (s6 : LLM) :
    evRd (E32 L N) (evCallI (E32 L N) 1 2000) 1000 32 64 0 f32.c0 κ rec (f32.T0 s3 s4 s5 s6) (f32.H0 s3 s4 s5 s6)
    = f32.s0 L N (κ (.exit 0) f32.T0_e0 f32.H0_e0) (fun z43 => κ .ret (f32.T0_r z43) (f32.H0_r z43)) (fun s3 s4 s5 s6 => rec (f32.T0 s3 s4 s5 s6) (f32.H0 s3 s4 s5 s6)) s3 s4 s5 s6 := by
  rw [f32.s0_pre]
  unfold f32.s0
  simp only [f32.l1_eq, f32.p1_e2_eq, f32.p1_r_eq]
theorem f32.l0_eq {R : Type} (L N : Nat) (κ : Ex → T → H → Option R) : ∀ (n : Nat) (s3 : LLM) (s4 : Int) (s5 : Int) (s6 : LLM),
    evLp (E32 L N) (evCallI (E32 L N) 1 2000) 1000 32 64 0 f32.c0 κ n (f32.T0 s3 s4 s5 s6) (f32.H0 s3 s4 s5 s6)
    = f32.l0 L N (κ (.exit 0) f32.T0_e0 f32.H0_e0) (fun z43 => κ .ret (f32.T0_r z43) (f32.H0_r z43)) n s3 s4 s5 s6 := by
  intro n
  induction n with
  | zero => intros; rfl
  | succ n ih =>
    intro s3 s4 s5 s6
    rw [evLp_succ, f32.s0_eq]
    simp only [ih]
    rfl
theorem f32.p0_e0_pre {R : Type} (L N : Nat) (κ : AV → Option R) :
    (contAt (E32 L N) (evCallI (E32 L N) 1 2000) 1000 32 64 0 (codeOf Try.f32) (finK (E32 L N) 1000 Try.f32 (finC (.one .bool) κ))) (.exit 0) f32.T0_e0 f32.H0_e0
    = f32.p0_e0' L N (fun a0 => κ (.tv .bool a0)) := by kernel_rfl
theorem f32.p0_e0_eq {R : Type} (L N : Nat) (κ : AV → Option R) :
    (contAt (E32 L N) (evCallI (E32 L N) 1 2000) 1000 32 64 0 (codeOf Try.f32) (finK (E32 L N) 1000 Try.f32 (finC (.one .bool) κ))) (.exit 0) f32.T0_e0 f32.H0_e0
    = f32.p0_e0 L N (fun a0 => κ (.tv .bool a0)) := by
  rw [f32.p0_e0_pre]
  unfold f32.p0_e0
  rfl
theorem f32.p0_r_pre {R : Type} (L N : Nat) (κ : AV → Option R) (z43 : Bool) :
    (contAt (E32 L N) (evCallI (E32 L N) 1 2000) 1000 32 64 0 (codeOf Try.f32) (finK (E32 L N) 1000 Try.f32 (finC (.one .bool) κ))) .ret (f32.T0_r z43) (f32.H0_r z43)
    = f32.p0_r' L N (fun a0 => κ (.tv .bool a0)) z43 := by kernel_rfl
theorem f32.p0_r_eq {R : Type} (L N : Nat) (κ : AV → Option R) (z43 : Bool) :
    (contAt (E32 L N) (evCallI (E32 L N) 1 2000) 1000 32 64 0 (codeOf Try.f32) (finK (E32 L N) 1000 Try.f32 (finC (.one .bool) κ))) .ret (f32.T0_r z43) (f32.H0_r z43)
    = f32.p0_r L N (fun a0 => κ (.tv .bool a0)) z43 := by
  rw [f32.p0_r_pre]
  unfold f32.p0_r
  rfl
theorem f32.b_pre {R : Type} (L N : Nat) (κ : AV → Option R) (x0 : Graph) :
    evBody (E32 L N) (evCallI (E32 L N) 1 2000) 1000 32 Try.f32 [(.tv (.st 2) x0)] [] [] (finC (.one .bool) κ)
    = f32.b' L N (fun a0 => κ (.tv .bool a0)) (fun s3 s4 s5 s6 => evLp (E32 L N) (evCallI (E32 L N) 1 2000) 1000 32 64 0 f32.c0 (contAt (E32 L N) (evCallI (E32 L N) 1 2000) 1000 32 64 0 (codeOf Try.f32) (finK (E32 L N) 1000 Try.f32 (finC (.one .bool) κ))) L (f32.T0 s3 s4 s5 s6) (f32.H0 s3 s4 s5 s6)) x0 := by kernel_rfl
theorem f32.b_eq {R : Type} (L N : Nat) (κ : AV → Option R) (x0 : Graph) :
    evBody (E32 L N) (evCallI (E32 L N) 1 2000) 1000 32 Try.f32 [(.tv (.st 2) x0)] [] [] (finC (.one .bool) κ)
    = f32.b L N (fun a0 => κ (.tv .bool a0)) x0 := by
  rw [f32.b_pre]
  unfold f32.b
  simp only [f32.l0_eq, f32.p0_e0_eq, f32.p0_r_eq]
theorem f32.s1'_nat {R R' : Type} (j : R → Option R') (L N : Nat) (k1_e2 : LLM → Int → Int → LLM → Option R) (k1_r : Bool → LLM → Int → Int → LLM → Option R) (rec1 : LM → LLM → Int → Int → LM → Int → Int → LLM → Option R) (s7 : LM) (s8 : LLM) (s9 : Int) (s10 : Int) (s11 : LM) (s12 : Int) (s13 : Int) (s14 : LLM) :
    f32.s1' L N (fun a0 a1 a2 a3 => (k1_e2 a0 a1 a2 a3).bind j) (fun a0 a1 a2 a3 a4 => (k1_r a0 a1 a2 a3 a4).bind j) (fun a0 a1 a2 a3 a4 a5 a6 a7 => (rec1 a0 a1 a2 a3 a4 a5 a6 a7).bind j) s7 s8 s9 s10 s11 s12 s13 s14 = (f32.s1' L N k1_e2 k1_r rec1 s7 s8 s9 s10 s11 s12 s13 s14).bind j := by
  unfold f32.s1'
  repeat' (first | (with_reducible refine cond_nat ?_ ?_) | (with_reducible refine bind_nat fun _ => ?_) | rfl)
theorem f32.s1_nat {R R' : Type} (j : R → Option R') (L N : Nat) (k1_e2 : LLM → Int → Int → LLM → Option R) (k1_r : Bool → LLM → Int → Int → LLM → Option R) (rec1 : LM → LLM → Int → Int → LM → Int → Int → LLM → Option R) (s7 : LM) (s8 : LLM) (s9 : Int) (s10 : Int) (s11 : LM) (s12 : Int) (s13 : Int) (s14 : LLM) :
    f32.s1 L N (fun a0 a1 a2 a3 => (k1_e2 a0 a1 a2 a3).bind j) (fun a0 a1 a2 a3 a4 => (k1_r a0 a1 a2 a3 a4).bind j) (fun a0 a1 a2 a3 a4 a5 a6 a7 => (rec1 a0 a1 a2 a3 a4 a5 a6 a7).bind j) s7 s8 s9 s10 s11 s12 s13 s14 = (f32.s1 L N k1_e2 k1_r rec1 s7 s8 s9 s10 s11 s12 s13 s14).bind j := by
  unfold f32.s1
  exact f32.s1'_nat ..
theorem f32.l1_nat {R R' : Type} (j : R → Option R') (L N : Nat) (k1_e2 : LLM → Int → Int → LLM → Option R) (k1_r : Bool → LLM → Int → Int → LLM → Option R) : ∀ (n : Nat) (s7 : LM) (s8 : LLM) (s9 : Int) (s10 : Int) (s11 : LM) (s12 : Int) (s13 : Int) (s14 : LLM),
    f32.l1 L N (fun a0 a1 a2 a3 => (k1_e2 a0 a1 a2 a3).bind j) (fun a0 a1 a2 a3 a4 => (k1_r a0 a1 a2 a3 a4).bind j) n s7 s8 s9 s10 s11 s12 s13 s14 = (f32.l1 L N k1_e2 k1_r n s7 s8 s9 s10 s11 s12 s13 s14).bind j := by
  intro n
  induction n with
  | zero => intros; rfl
  | succ n ih =>
    intro s7 s8 s9 s10 s11 s12 s13 s14
    show f32.s1 L N (fun a0 a1 a2 a3 => (k1_e2 a0 a1 a2 a3).bind j) (fun a0 a1 a2 a3 a4 => (k1_r a0 a1 a2 a3 a4).bind j) (f32.l1 L N (fun a0 a1 a2 a3 => (k1_e2 a0 a1 a2 a3).bind j) (fun a0 a1 a2 a3 a4 => (k1_r a0 a1 a2 a3 a4).bind j) n) s7 s8 s9 s10 s11 s12 s13 s14 = _
    rw [show f32.l1 L N (fun a0 a1 a2 a3 => (k1_e2 a0 a1 a2 a3).bind j) (fun a0 a1 a2 a3 a4 => (k1_r a0 a1 a2 a3 a4).bind j) n = (fun s7 s8 s9 s10 s11 s12 s13 s14 => (f32.l1 L N k1_e2 k1_r n s7 s8 s9 s10 s11 s12 s13 s14).bind j) from funext fun s7 => funext fun s8 => funext fun s9 => funext fun s10 => funext fun s11 => funext fun s12 => funext fun s13 => funext fun s14 => ih s7 s8 s9 s10 s11 s12 s13 s14]
    exact f32.s1_nat ..
theorem f32.p1_e2'_nat {R R' : Type} (j : R → Option R') (L N : Nat) (k0_e0 : Option R) (k0_r : Bool → Option R) (rec0 : LLM → Int → Int → LLM → Option R) (z15 : LLM) (z16 : Int) (z17 : Int) (z18 : LLM) :
    f32.p1_e2' L N (k0_e0.bind j) (fun a0 => (k0_r a0).bind j) (fun a0 a1 a2 a3 => (rec0 a0 a1 a2 a3).bind j) z15 z16 z17 z18 = (f32.p1_e2' L N k0_e0 k0_r rec0 z15 z16 z17 z18).bind j := by
  unfold f32.p1_e2'
  repeat' (first | (with_reducible refine cond_nat ?_ ?_) | (with_reducible refine bind_nat fun _ => ?_) | rfl)
theorem f32.p1_e2_nat {R R' : Type} (j : R → Option R') (L N : Nat) (k0_e0 : Option R) (k0_r : Bool → Option R) (rec0 : LLM → Int → Int → LLM → Option R) (z15 : LLM) (z16 : Int) (z17 : Int) (z18 : LLM) :
    f32.p1_e2 L N (k0_e0.bind j) (fun a0 => (k0_r a0).bind j) (fun a0 a1 a2 a3 => (rec0 a0 a1 a2 a3).bind j) z15 z16 z17 z18 = (f32.p1_e2 L N k0_e0 k0_r rec0 z15 z16 z17 z18).bind j := by
  unfold f32.p1_e2
  exact f32.p1_e2'_nat ..
theorem f32.p1_r'_nat {R R' : Type} (j : R → Option R') (L N : Nat) (k0_e0 : Option R) (k0_r : Bool → Option R) (rec0 : LLM → Int → Int → LLM → Option R) (z30 : Bool) (z31 : LLM) (z32 : Int) (z33 : Int) (z34 : LLM) :
    f32.p1_r' L N (k0_e0.bind j) (fun a0 => (k0_r a0).bind j) (fun a0 a1 a2 a3 => (rec0 a0 a1 a2 a3).bind j) z30 z31 z32 z33 z34 = (f32.p1_r' L N k0_e0 k0_r rec0 z30 z31 z32 z33 z34).bind j := by
  unfold f32.p1_r'
  repeat' (first | (with_reducible refine cond_nat ?_ ?_) | (with_reducible refine bind_nat fun _ => ?_) | rfl)
theorem f32.p1_r_nat {R R' : Type} (j : R → Option R') (L N : Nat) (k0_e0 : Option R) (k0_r : Bool → Option R) (rec0 : LLM → Int → Int → LLM → Option R) (z30 : Bool) (z31 : LLM) (z32 : Int) (z33 : Int) (z34 : LLM) :
    f32.p1_r L N (k0_e0.bind j) (fun a0 => (k0_r a0).bind j) (fun a0 a1 a2 a3 => (rec0 a0 a1 a2 a3).bind j) z30 z31 z32 z33 z34 = (f32.p1_r L N k0_e0 k0_r rec0 z30 z31 z32 z33 z34).bind j := by
  unfold f32.p1_r
  exact f32.p1_r'_nat ..
theorem f32.s0'_nat {R R' : Type} (j : R → Option R') (L N : Nat) (k0_e0 : Option R) (k0_r : Bool → Option R) (rec0 : LLM → Int → Int → LLM → Option R) (w1 : LM → LLM → Int → Int → LM → Int → Int → LLM → Option R) (s3 : LLM) (s4 : Int) (s5 : Int) (s6 : LLM) :
    f32.s0' L N (k0_e0.bind j) (fun a0 => (k0_r a0).bind j) (fun a0 a1 a2 a3 => (rec0 a0 a1 a2 a3).bind j) (fun a0 a1 a2 a3 a4 a5 a6 a7 => (w1 a0 a1 a2 a3 a4 a5 a6 a7).bind j) s3 s4 s5 s6 = (f32.s0' L N k0_e0 k0_r rec0 w1 s3 s4 s5 s6).bind j := by
  unfold f32.s0'
  repeat' (first | (with_reducible refine cond_nat ?_ ?_) | (with_reducible refine bind_nat fun _ => ?_) | rfl)
theorem f32.s0_nat {R R' : Type} (j : R → Option R') (L N : Nat) (k0_e0 : Option R) (k0_r : Bool → Option R) (rec0 : LLM → Int → Int → LLM → Option R) (s3 : LLM) (s4 : Int) (s5 : Int) (s6 : LLM) :
    f32.s0 L N (k0_e0.bind j) (fun a0 => (k0_r a0).bind j) (fun a0 a1 a2 a3 => (rec0 a0 a1 a2 a3).bind j) s3 s4 s5 s6 = (f32.s0 L N k0_e0 k0_r rec0 s3 s4 s5 s6).bind j := by
  unfold f32.s0
  simp only [f32.l1_nat, f32.p1_e2_nat, f32.p1_r_nat]
  exact f32.s0'_nat ..
theorem f32.l0_nat {R R' : Type} (j : R → Option R') (L N : Nat) (k0_e0 : Option R) (k0_r : Bool → Option R) : ∀ (n : Nat) (s3 : LLM) (s4 : Int) (s5 : Int) (s6 : LLM),
    f32.l0 L N (k0_e0.bind j) (fun a0 => (k0_r a0).bind j) n s3 s4 s5 s6 = (f32.l0 L N k0_e0 k0_r n s3 s4 s5 s6).bind j := by
  intro n
  induction n with
  | zero => intros; rfl
  | succ n ih =>
    intro s3 s4 s5 s6
    show f32.s0 L N (k0_e0.bind j) (fun a0 => (k0_r a0).bind j) (f32.l0 L N (k0_e0.bind j) (fun a0 => (k0_r a0).bind j) n) s3 s4 s5 s6 = _
    rw [show f32.l0 L N (k0_e0.bind j) (fun a0 => (k0_r a0).bind j) n = (fun s3 s4 s5 s6 => (f32.l0 L N k0_e0 k0_r n s3 s4 s5 s6).bind j) from funext fun s3 => funext fun s4 => funext fun s5 => funext fun s6 => ih s3 s4 s5 s6]
    exact f32.s0_nat ..
theorem f32.p0_e0'_nat {R R' : Type} (j : R → Option R') (L N : Nat) (k : Bool → Option R) :
    f32.p0_e0' L N (fun a0 => (k a0).bind j) = (f32.p0_e0' L N k).bind j := by
  unfold f32.p0_e0'
  repeat' (first | (with_reducible refine cond_nat ?_ ?_) | (with_reducible refine bind_nat fun _ => ?_) | rfl)
theorem f32.p0_e0_nat {R R' : Type} (j : R → Option R') (L N : Nat) (k : Bool → Option R) :
    f32.p0_e0 L N (fun a0 => (k a0).bind j) = (f32.p0_e0 L N k).bind j := by
  unfold f32.p0_e0
  exact f32.p0_e0'_nat ..
theorem f32.p0_r'_nat {R R' : Type} (j : R → Option R') (L N : Nat) (k : Bool → Option R) (z43 : Bool) :
    f32.p0_r' L N (fun a0 => (k a0).bind j) z43 = (f32.p0_r' L N k z43).bind j := by
  unfold f32.p0_r'
  repeat' (first | (with_reducible refine cond_nat ?_ ?_) | (with_reducible refine bind_nat fun _ => ?_) | rfl)
theorem f32.p0_r_nat {R R' : Type} (j : R → Option R') (L N : Nat) (k : Bool → Option R) (z43 : Bool) :
    f32.p0_r L N (fun a0 => (k a0).bind j) z43 = (f32.p0_r L N k z43).bind j := by
  unfold f32.p0_r
  exact f32.p0_r'_nat ..
theorem f32.j0'_nat {R R' : Type} (j : R → Option R') (L N : Nat) (k : Bool → Option R) (w0 : LLM → Int → Int → LLM → Option R) (v2 : LLM) :
    f32.j0' L N (fun a0 => (k a0).bind j) (fun a0 a1 a2 a3 => (w0 a0 a1 a2 a3).bind j) v2 = (f32.j0' L N k w0 v2).bind j := by
  unfold f32.j0'
  repeat' (first | (with_reducible refine cond_nat ?_ ?_) | (with_reducible refine bind_nat fun _ => ?_) | rfl)
theorem f32.b'_nat {R R' : Type} (j : R → Option R') (L N : Nat) (k : Bool → Option R) (w0 : LLM → Int → Int → LLM → Option R) (x0 : Graph) :
    f32.b' L N (fun a0 => (k a0).bind j) (fun a0 a1 a2 a3 => (w0 a0 a1 a2 a3).bind j) x0 = (f32.b' L N k w0 x0).bind j := by
  unfold f32.b'
  repeat' (first | (with_reducible refine cond_nat ?_ ?_) | (with_reducible refine bind_nat fun _ => ?_) | exact f32.j0'_nat .. | rfl)
theorem f32.b_nat {R R' : Type} (j : R → Option R') (L N : Nat) (k : Bool → Option R) (x0 : Graph) :
    f32.b L N (fun a0 => (k a0).bind j) x0 = (f32.b L N k x0).bind j := by
  unfold f32.b
  simp only [f32.l0_nat, f32.p0_e0_nat, f32.p0_r_nat]
  exact f32.b'_nat ..
theorem f32.ok (L N : Nat) (hΦ : TellsOk Try.prog ((Φ73 L N))) : EntOk Try.prog 32 (f32.ent L N) := by
  intro args vw site h
  unfold f32.ent
  split
  · rename_i d ha
    intro y hy hs
    refine call_ro (dep := 1000) (E := (E32 L N)) (rs := (.one .bool)) (v := (.tv .bool y)) (sound_of hΦ) okP (callI_sound (sound_of hΦ) okP 1 2000) (f := Try.f32) rfl hs ha ?_ rfl site
    refine (f32.b_eq L N some d.1).trans ?_
    refine ((f32.b_nat (fun y => (some (.tv .bool y) : Option AV)) L N some d.1)).trans ?_
    rw [show f32.b L N some d.1 = some y from hy]
    rfl
  · intro y hy
    cases hy
def Φ32 (L N : Nat) : Tells := (addT (Φ73 L N) 32 (f32.ent L N))
theorem Φ32_ok (L N : Nat) : TellsOk Try.prog (Φ32 L N) := addT_ok (Φ73_ok L N) (f32.ok L N (Φ73_ok L N))
def f119.s0' {R : Type} (L N : Nat) (k0_e0 : Option R) (k0_r : Bool → Option R) (rec0 : LI → LI → Int → Int → Option R) (s0 : LI) (s1 : LI) (s2 : Int) (s3 : Int) : Option R :=
  bif (decide (s3 < s2)) then
    bif (decide (0 ≤ s3) && decide (s3 < (s0.length : Int))) then
      bif (decide (0 ≤ s3) && decide (s3 < (s1.length : Int))) then
        bif ((listAt s0 (0 : Int) s3.toNat) != (listAt s1 (0 : Int) s3.toNat)) then
          k0_r false
        else rec0 s0 s1 s2 (wi (s3 + (1 : Int)))
      else none
    else none
  else k0_e0
def f119.s0 {R : Type} (L N : Nat) (k0_e0 : Option R) (k0_r : Bool → Option R) (rec0 : LI → LI → Int → Int → Option R) (s0 : LI) (s1 : LI) (s2 : Int) (s3 : Int) : Option R :=
  f119.s0' L N k0_e0 k0_r rec0 s0 s1 s2 s3
def f119.l0 {R : Type} (L N : Nat) (k0_e0 : Option R) (k0_r : Bool → Option R) : Nat → LI → LI → Int → Int → Option R
  | 0, _, _, _, _ => none
  | n + 1, s0, s1, s2, s3 => f119.s0 L N k0_e0 k0_r (f119.l0 L N k0_e0 k0_r n) s0 s1 s2 s3
def f119.T0 (s0 : LI) (s1 : LI) (s2 : Int) (s3 : Int) : T := mkT 26 [(0, (.tv (.sl i64) s0)), (1, (.tv (.sl i64) s1)), (12, (.tv i64 s2)), (13, (.tv i64 s3))]
def f119.H0 (s0 : LI) (s1 : LI) (s2 : Int) (s3 : Int) : H := []
def f119.T0_e0 : T := mkT 26 []
def f119.H0_e0 : H := []
def f119.T0_r (z4 : Bool) : T := mkT 26 [(4, (.tv .bool z4))]
def f119.H0_r (z4 : Bool) : H := []
def f119.p0_e0' {R : Type} (L N : Nat) (k : Bool → Option R) : Option R :=
  k true
def f119.p0_e0 {R : Type} (L N : Nat) (k : Bool → Option R) : Option R :=
  f119.p0_e0' L N k
def f119.p0_r' {R : Type} (L N : Nat) (k : Bool → Option R) (z4 : Bool) : Option R :=
  k z4
def f119.p0_r {R : Type} (L N : Nat) (k : Bool → Option R) (z4 : Bool) : Option R :=
  f119.p0_r' L N k z4
def f119.b' {R : Type} (L N : Nat) (k : Bool → Option R) (w0 : LI → LI → Int → Int → Option R) (x0 : LI) (x1 : LI) : Option R :=
  bif ((x0.length : Int) != (x1.length : Int)) then
    k false
  else w0 x0 x1 (x0.length : Int) (0 : Int)
def f119.b {R : Type} (L N : Nat) (k : Bool → Option R) (x0 : LI) (x1 : LI) : Option R :=
  f119.b' L N k (fun s0 s1 s2 s3 => f119.l0 L N (f119.p0_e0 L N k) (fun z4 => f119.p0_r L N k z4) L s0 s1 s2 s3) x0 x1
def f119 (L N : Nat) (x0 : LI) (x1 : LI) : Option (Bool) := f119.b L N some x0 x1
def f119.ent (L N : Nat) (args : List AV) (vw : View) (site : Nat) : Ans := match roD [(.sl i64), (.sl i64)] vw args with
  | some d => ⟨Bool, f119 L N d.1 d.2.1, fun y => ((.tv .bool y), [], [])⟩
  | none => Ans.no
noncomputable def E119 (L N : Nat) : Env := { P := Try.prog, ty := tyOf, Φ := (Φ32 L N), inl := inlT, live := lives, liveX := livesX, L := L, dp := none, prom := promT, heal := healT, ren := renT }
noncomputable def f119.c0 : Code := loopAt 0 (codeOf Try.f119)
theorem f119.s0_pre {R : Type} (L N : Nat) (κ : Ex → T → H → Option R) (rec : T → H → Option R) (s0 : LI) (s1 : LI) (s2 : Int) (s3 : Int) :
    evRd (E119 L N) (evCallI (E119 L N) 1 2000) 1000 119 26 0 f119.c0 κ rec (f119.T0 s0 s1 s2 s3) (f119.H0 s0 s1 s2 s3)
    = f119.s0' L N (κ (.exit 0) f119.T0_e0 f119.H0_e0) (fun z4 => κ .ret (f119.T0_r z4) (f119.H0_r z4)) (fun s0 s1 s2 s3 => rec (f119.T0 s0 s1 s2 s3) (f119.H0 s0 s1 s2 s3)) s0 s1 s2 s3 := by kernel_rfl
theorem f119.s0_eq {R : Type} (L N : Nat) (κ : Ex → T → H → Option R) (rec : T → H → Option R) (s0 : LI) (s1 : LI) (s2 : Int) (s3 : Int) :
    evRd (E119 L N) (evCallI (E119 L N) 1 2000) 1000 119 26 0 f119.c0 κ rec (f119.T0 s0 s1 s2 s3) (f119.H0 s0 s1 s2 s3)
    = f119.s0 L N (κ (.exit 0) f119.T0_e0 f119.H0_e0) (fun z4 => κ .ret (f119.T0_r z4) (f119.H0_r z4)) (fun s0 s1 s2 s3 => rec (f119.T0 s0 s1 s2 s3) (f119.H0 s0 s1 s2 s3)) s0 s1 s2 s3 := by
  rw [f119.s0_pre]
  unfold f119.s0
  rfl
theorem f119.l0_eq {R : Type} (L N : Nat) (κ : Ex → T → H → Option R) : ∀ (n : Nat) (s0 : LI) (s1 : LI) (s2 : Int) (s3 : Int),
    evLp (E119 L N) (evCallI (E119 L N) 1 2000) 1000 119 26 0 f119.c0 κ n (f119.T0 s0 s1 s2 s3) (f119.H0 s0 s1 s2 s3)
    = f119.l0 L N (κ (.exit 0) f119.T0_e0 f119.H0_e0) (fun z4 => κ .ret (f119.T0_r z4) (f119.H0_r z4)) n s0 s1 s2 s3 := by
  intro n
  induction n with
  | zero => intros; rfl
  | succ n ih =>
    intro s0 s1 s2 s3
    rw [evLp_succ, f119.s0_eq]
    simp only [ih]
    rfl
theorem f119.p0_e0_pre {R : Type} (L N : Nat) (κ : AV → Option R) :
    (contAt (E119 L N) (evCallI (E119 L N) 1 2000) 1000 119 26 0 (codeOf Try.f119) (finK (E119 L N) 1000 Try.f119 (finC (.one .bool) κ))) (.exit 0) f119.T0_e0 f119.H0_e0
    = f119.p0_e0' L N (fun a0 => κ (.tv .bool a0)) := by kernel_rfl
theorem f119.p0_e0_eq {R : Type} (L N : Nat) (κ : AV → Option R) :
    (contAt (E119 L N) (evCallI (E119 L N) 1 2000) 1000 119 26 0 (codeOf Try.f119) (finK (E119 L N) 1000 Try.f119 (finC (.one .bool) κ))) (.exit 0) f119.T0_e0 f119.H0_e0
    = f119.p0_e0 L N (fun a0 => κ (.tv .bool a0)) := by
  rw [f119.p0_e0_pre]
  unfold f119.p0_e0
  rfl
theorem f119.p0_r_pre {R : Type} (L N : Nat) (κ : AV → Option R) (z4 : Bool) :
    (contAt (E119 L N) (evCallI (E119 L N) 1 2000) 1000 119 26 0 (codeOf Try.f119) (finK (E119 L N) 1000 Try.f119 (finC (.one .bool) κ))) .ret (f119.T0_r z4) (f119.H0_r z4)
    = f119.p0_r' L N (fun a0 => κ (.tv .bool a0)) z4 := by kernel_rfl
theorem f119.p0_r_eq {R : Type} (L N : Nat) (κ : AV → Option R) (z4 : Bool) :
    (contAt (E119 L N) (evCallI (E119 L N) 1 2000) 1000 119 26 0 (codeOf Try.f119) (finK (E119 L N) 1000 Try.f119 (finC (.one .bool) κ))) .ret (f119.T0_r z4) (f119.H0_r z4)
    = f119.p0_r L N (fun a0 => κ (.tv .bool a0)) z4 := by
  rw [f119.p0_r_pre]
  unfold f119.p0_r
  rfl
theorem f119.b_pre {R : Type} (L N : Nat) (κ : AV → Option R) (x0 : LI) (x1 : LI) :
    evBody (E119 L N) (evCallI (E119 L N) 1 2000) 1000 119 Try.f119 [(.tv (.sl i64) x0), (.tv (.sl i64) x1)] [] [] (finC (.one .bool) κ)
    = f119.b' L N (fun a0 => κ (.tv .bool a0)) (fun s0 s1 s2 s3 => evLp (E119 L N) (evCallI (E119 L N) 1 2000) 1000 119 26 0 f119.c0 (contAt (E119 L N) (evCallI (E119 L N) 1 2000) 1000 119 26 0 (codeOf Try.f119) (finK (E119 L N) 1000 Try.f119 (finC (.one .bool) κ))) L (f119.T0 s0 s1 s2 s3) (f119.H0 s0 s1 s2 s3)) x0 x1 := by kernel_rfl
theorem f119.b_eq {R : Type} (L N : Nat) (κ : AV → Option R) (x0 : LI) (x1 : LI) :
    evBody (E119 L N) (evCallI (E119 L N) 1 2000) 1000 119 Try.f119 [(.tv (.sl i64) x0), (.tv (.sl i64) x1)] [] [] (finC (.one .bool) κ)
    = f119.b L N (fun a0 => κ (.tv .bool a0)) x0 x1 := by
  rw [f119.b_pre]
  unfold f119.b
  simp only [f119.l0_eq, f119.p0_e0_eq, f119.p0_r_eq]
theorem f119.s0'_nat {R R' : Type} (j : R → Option R') (L N : Nat) (k0_e0 : Option R) (k0_r : Bool → Option R) (rec0 : LI → LI → Int → Int → Option R) (s0 : LI) (s1 : LI) (s2 : Int) (s3 : Int) :
    f119.s0' L N (k0_e0.bind j) (fun a0 => (k0_r a0).bind j) (fun a0 a1 a2 a3 => (rec0 a0 a1 a2 a3).bind j) s0 s1 s2 s3 = (f119.s0' L N k0_e0 k0_r rec0 s0 s1 s2 s3).bind j := by
  unfold f119.s0'
  repeat' (first | (with_reducible refine cond_nat ?_ ?_) | (with_reducible refine bind_nat fun _ => ?_) | rfl)
theorem f119.s0_nat {R R' : Type} (j : R → Option R') (L N : Nat) (k0_e0 : Option R) (k0_r : Bool → Option R) (rec0 : LI → LI → Int → Int → Option R) (s0 : LI) (s1 : LI) (s2 : Int) (s3 : Int) :
    f119.s0 L N (k0_e0.bind j) (fun a0 => (k0_r a0).bind j) (fun a0 a1 a2 a3 => (rec0 a0 a1 a2 a3).bind j) s0 s1 s2 s3 = (f119.s0 L N k0_e0 k0_r rec0 s0 s1 s2 s3).bind j := by
  unfold f119.s0
  exact f119.s0'_nat ..
theorem f119.l0_nat {R R' : Type} (j : R → Option R') (L N : Nat) (k0_e0 : Option R) (k0_r : Bool → Option R) : ∀ (n : Nat) (s0 : LI) (s1 : LI) (s2 : Int) (s3 : Int),
    f119.l0 L N (k0_e0.bind j) (fun a0 => (k0_r a0).bind j) n s0 s1 s2 s3 = (f119.l0 L N k0_e0 k0_r n s0 s1 s2 s3).bind j := by
  intro n
  induction n with
  | zero => intros; rfl
  | succ n ih =>
    intro s0 s1 s2 s3
    show f119.s0 L N (k0_e0.bind j) (fun a0 => (k0_r a0).bind j) (f119.l0 L N (k0_e0.bind j) (fun a0 => (k0_r a0).bind j) n) s0 s1 s2 s3 = _
    rw [show f119.l0 L N (k0_e0.bind j) (fun a0 => (k0_r a0).bind j) n = (fun s0 s1 s2 s3 => (f119.l0 L N k0_e0 k0_r n s0 s1 s2 s3).bind j) from funext fun s0 => funext fun s1 => funext fun s2 => funext fun s3 => ih s0 s1 s2 s3]
    exact f119.s0_nat ..
theorem f119.p0_e0'_nat {R R' : Type} (j : R → Option R') (L N : Nat) (k : Bool → Option R) :
    f119.p0_e0' L N (fun a0 => (k a0).bind j) = (f119.p0_e0' L N k).bind j := by
  unfold f119.p0_e0'
  repeat' (first | (with_reducible refine cond_nat ?_ ?_) | (with_reducible refine bind_nat fun _ => ?_) | rfl)
theorem f119.p0_e0_nat {R R' : Type} (j : R → Option R') (L N : Nat) (k : Bool → Option R) :
    f119.p0_e0 L N (fun a0 => (k a0).bind j) = (f119.p0_e0 L N k).bind j := by
  unfold f119.p0_e0
  exact f119.p0_e0'_nat ..
theorem f119.p0_r'_nat {R R' : Type} (j : R → Option R') (L N : Nat) (k : Bool → Option R) (z4 : Bool) :
    f119.p0_r' L N (fun a0 => (k a0).bind j) z4 = (f119.p0_r' L N k z4).bind j := by
  unfold f119.p0_r'
  repeat' (first | (with_reducible refine cond_nat ?_ ?_) | (with_reducible refine bind_nat fun _ => ?_) | rfl)
theorem f119.p0_r_nat {R R' : Type} (j : R → Option R') (L N : Nat) (k : Bool → Option R) (z4 : Bool) :
    f119.p0_r L N (fun a0 => (k a0).bind j) z4 = (f119.p0_r L N k z4).bind j := by
  unfold f119.p0_r
  exact f119.p0_r'_nat ..
theorem f119.b'_nat {R R' : Type} (j : R → Option R') (L N : Nat) (k : Bool → Option R) (w0 : LI → LI → Int → Int → Option R) (x0 : LI) (x1 : LI) :
    f119.b' L N (fun a0 => (k a0).bind j) (fun a0 a1 a2 a3 => (w0 a0 a1 a2 a3).bind j) x0 x1 = (f119.b' L N k w0 x0 x1).bind j := by
  unfold f119.b'
  repeat' (first | (with_reducible refine cond_nat ?_ ?_) | (with_reducible refine bind_nat fun _ => ?_) | rfl)
theorem f119.b_nat {R R' : Type} (j : R → Option R') (L N : Nat) (k : Bool → Option R) (x0 : LI) (x1 : LI) :
    f119.b L N (fun a0 => (k a0).bind j) x0 x1 = (f119.b L N k x0 x1).bind j := by
  unfold f119.b
  simp only [f119.l0_nat, f119.p0_e0_nat, f119.p0_r_nat]
  exact f119.b'_nat ..
theorem f119.ok (L N : Nat) (hΦ : TellsOk Try.prog ((Φ32 L N))) : EntOk Try.prog 119 (f119.ent L N) := by
  intro args vw site h
  unfold f119.ent
  split
  · rename_i d ha
    intro y hy hs
    refine call_ro (dep := 1000) (E := (E119 L N)) (rs := (.one .bool)) (v := (.tv .bool y)) (sound_of hΦ) okP (callI_sound (sound_of hΦ) okP 1 2000) (f := Try.f119) rfl hs ha ?_ rfl site
    refine (f119.b_eq L N some d.1 d.2.1).trans ?_
    refine ((f119.b_nat (fun y => (some (.tv .bool y) : Option AV)) L N some d.1 d.2.1)).trans ?_
    rw [show f119.b L N some d.1 d.2.1 = some y from hy]
    rfl
  · intro y hy
    cases hy
def Φ119 (L N : Nat) : Tells := (addT (Φ32 L N) 119 (f119.ent L N))
theorem Φ119_ok (L N : Nat) : TellsOk Try.prog (Φ119 L N) := addT_ok (Φ32_ok L N) (f119.ok L N (Φ32_ok L N))
def f142.s0' {R : Type} (L N : Nat) (k0_e0 : Option R) (k0_r : Bool → Option R) (rec0 : LM → LM → Int → Int → Option R) (s0 : LM) (s1 : LM) (s2 : Int) (s3 : Int) : Option R :=
  bif (decide (s3 < s2)) then
    bif (decide (0 ≤ s3) && decide (s3 < (s0.length : Int))) then
      bif (decide (0 ≤ s3) && decide (s3 < (s1.length : Int))) then
        bif (!(Move.eqb (listAt s0 (Ty.dflt (.st 0)) s3.toNat) (listAt s1 (Ty.dflt (.st 0)) s3.toNat))) then
          k0_r false
        else rec0 s0 s1 s2 (wi (s3 + (1 : Int)))
      else none
    else none
  else k0_e0
def f142.s0 {R : Type} (L N : Nat) (k0_e0 : Option R) (k0_r : Bool → Option R) (rec0 : LM → LM → Int → Int → Option R) (s0 : LM) (s1 : LM) (s2 : Int) (s3 : Int) : Option R :=
  f142.s0' L N k0_e0 k0_r rec0 s0 s1 s2 s3
def f142.l0 {R : Type} (L N : Nat) (k0_e0 : Option R) (k0_r : Bool → Option R) : Nat → LM → LM → Int → Int → Option R
  | 0, _, _, _, _ => none
  | n + 1, s0, s1, s2, s3 => f142.s0 L N k0_e0 k0_r (f142.l0 L N k0_e0 k0_r n) s0 s1 s2 s3
def f142.T0 (s0 : LM) (s1 : LM) (s2 : Int) (s3 : Int) : T := mkT 26 [(0, (.tv (.sl (.st 0)) s0)), (1, (.tv (.sl (.st 0)) s1)), (12, (.tv i64 s2)), (13, (.tv i64 s3))]
def f142.H0 (s0 : LM) (s1 : LM) (s2 : Int) (s3 : Int) : H := []
def f142.T0_e0 : T := mkT 26 []
def f142.H0_e0 : H := []
def f142.T0_r (z4 : Bool) : T := mkT 26 [(4, (.tv .bool z4))]
def f142.H0_r (z4 : Bool) : H := []
def f142.p0_e0' {R : Type} (L N : Nat) (k : Bool → Option R) : Option R :=
  k true
def f142.p0_e0 {R : Type} (L N : Nat) (k : Bool → Option R) : Option R :=
  f142.p0_e0' L N k
def f142.p0_r' {R : Type} (L N : Nat) (k : Bool → Option R) (z4 : Bool) : Option R :=
  k z4
def f142.p0_r {R : Type} (L N : Nat) (k : Bool → Option R) (z4 : Bool) : Option R :=
  f142.p0_r' L N k z4
def f142.b' {R : Type} (L N : Nat) (k : Bool → Option R) (w0 : LM → LM → Int → Int → Option R) (x0 : LM) (x1 : LM) : Option R :=
  bif ((x0.length : Int) != (x1.length : Int)) then
    k false
  else w0 x0 x1 (x0.length : Int) (0 : Int)
def f142.b {R : Type} (L N : Nat) (k : Bool → Option R) (x0 : LM) (x1 : LM) : Option R :=
  f142.b' L N k (fun s0 s1 s2 s3 => f142.l0 L N (f142.p0_e0 L N k) (fun z4 => f142.p0_r L N k z4) L s0 s1 s2 s3) x0 x1
def f142 (L N : Nat) (x0 : LM) (x1 : LM) : Option (Bool) := f142.b L N some x0 x1
def f142.ent (L N : Nat) (args : List AV) (vw : View) (site : Nat) : Ans := match roD [(.sl (.st 0)), (.sl (.st 0))] vw args with
  | some d => ⟨Bool, f142 L N d.1 d.2.1, fun y => ((.tv .bool y), [], [])⟩
  | none => Ans.no
noncomputable def E142 (L N : Nat) : Env := { P := Try.prog, ty := tyOf, Φ := (Φ119 L N), inl := inlT, live := lives, liveX := livesX, L := L, dp := none, prom := promT, heal := healT, ren := renT }
noncomputable def f142.c0 : Code := loopAt 0 (codeOf Try.f142)
theorem f142.s0_pre {R : Type} (L N : Nat) (κ : Ex → T → H → Option R) (rec : T → H → Option R) (s0 : LM) (s1 : LM) (s2 : Int) (s3 : Int) :
    evRd (E142 L N) (evCallI (E142 L N) 1 2000) 1000 142 26 0 f142.c0 κ rec (f142.T0 s0 s1 s2 s3) (f142.H0 s0 s1 s2 s3)
    = f142.s0' L N (κ (.exit 0) f142.T0_e0 f142.H0_e0) (fun z4 => κ .ret (f142.T0_r z4) (f142.H0_r z4)) (fun s0 s1 s2 s3 => rec (f142.T0 s0 s1 s2 s3) (f142.H0 s0 s1 s2 s3)) s0 s1 s2 s3 := by kernel_rfl
theorem f142.s0_eq {R : Type} (L N : Nat) (κ : Ex → T → H → Option R) (rec : T → H → Option R) (s0 : LM) (s1 : LM) (s2 : Int) (s3 : Int) :
    evRd (E142 L N) (evCallI (E142 L N) 1 2000) 1000 142 26 0 f142.c0 κ rec (f142.T0 s0 s1 s2 s3) (f142.H0 s0 s1 s2 s3)
    = f142.s0 L N (κ (.exit 0) f142.T0_e0 f142.H0_e0) (fun z4 => κ .ret (f142.T0_r z4) (f142.H0_r z4)) (fun s0 s1 s2 s3 => rec (f142.T0 s0 s1 s2 s3) (f142.H0 s0 s1 s2 s3)) s0 s1 s2 s3 := by
  rw [f142.s0_pre]
  unfold f142.s0
  rfl
theorem f142.l0_eq {R : Type} (L N : Nat) (κ : Ex → T → H → Option R) : ∀ (n : Nat) (s0 : LM) (s1 : LM) (s2 : Int) (s3 : Int),
    evLp (E142 L N) (evCallI (E142 L N) 1 2000) 1000 142 26 0 f142.c0 κ n (f142.T0 s0 s1 s2 s3) (f142.H0 s0 s1 s2 s3)
    = f142.l0 L N (κ (.exit 0) f142.T0_e0 f142.H0_e0) (fun z4 => κ .ret (f142.T0_r z4) (f142.H0_r z4)) n s0 s1 s2 s3 := by
  intro n
  induction n with
  | zero => intros; rfl
  | succ n ih =>
    intro s0 s1 s2 s3
    rw [evLp_succ, f142.s0_eq]
    simp only [ih]
    rfl
theorem f142.p0_e0_pre {R : Type} (L N : Nat) (κ : AV → Option R) :
    (contAt (E142 L N) (evCallI (E142 L N) 1 2000) 1000 142 26 0 (codeOf Try.f142) (finK (E142 L N) 1000 Try.f142 (finC (.one .bool) κ))) (.exit 0) f142.T0_e0 f142.H0_e0
    = f142.p0_e0' L N (fun a0 => κ (.tv .bool a0)) := by kernel_rfl
theorem f142.p0_e0_eq {R : Type} (L N : Nat) (κ : AV → Option R) :
    (contAt (E142 L N) (evCallI (E142 L N) 1 2000) 1000 142 26 0 (codeOf Try.f142) (finK (E142 L N) 1000 Try.f142 (finC (.one .bool) κ))) (.exit 0) f142.T0_e0 f142.H0_e0
    = f142.p0_e0 L N (fun a0 => κ (.tv .bool a0)) := by
  rw [f142.p0_e0_pre]
  unfold f142.p0_e0
  rfl
theorem f142.p0_r_pre {R : Type} (L N : Nat) (κ : AV → Option R) (z4 : Bool) :
    (contAt (E142 L N) (evCallI (E142 L N) 1 2000) 1000 142 26 0 (codeOf Try.f142) (finK (E142 L N) 1000 Try.f142 (finC (.one .bool) κ))) .ret (f142.T0_r z4) (f142.H0_r z4)
    = f142.p0_r' L N (fun a0 => κ (.tv .bool a0)) z4 := by kernel_rfl
theorem f142.p0_r_eq {R : Type} (L N : Nat) (κ : AV → Option R) (z4 : Bool) :
    (contAt (E142 L N) (evCallI (E142 L N) 1 2000) 1000 142 26 0 (codeOf Try.f142) (finK (E142 L N) 1000 Try.f142 (finC (.one .bool) κ))) .ret (f142.T0_r z4) (f142.H0_r z4)
    = f142.p0_r L N (fun a0 => κ (.tv .bool a0)) z4 := by
  rw [f142.p0_r_pre]
  unfold f142.p0_r
  rfl
theorem f142.b_pre {R : Type} (L N : Nat) (κ : AV → Option R) (x0 : LM) (x1 : LM) :
    evBody (E142 L N) (evCallI (E142 L N) 1 2000) 1000 142 Try.f142 [(.tv (.sl (.st 0)) x0), (.tv (.sl (.st 0)) x1)] [] [] (finC (.one .bool) κ)
    = f142.b' L N (fun a0 => κ (.tv .bool a0)) (fun s0 s1 s2 s3 => evLp (E142 L N) (evCallI (E142 L N) 1 2000) 1000 142 26 0 f142.c0 (contAt (E142 L N) (evCallI (E142 L N) 1 2000) 1000 142 26 0 (codeOf Try.f142) (finK (E142 L N) 1000 Try.f142 (finC (.one .bool) κ))) L (f142.T0 s0 s1 s2 s3) (f142.H0 s0 s1 s2 s3)) x0 x1 := by kernel_rfl
theorem f142.b_eq {R : Type} (L N : Nat) (κ : AV → Option R) (x0 : LM) (x1 : LM) :
    evBody (E142 L N) (evCallI (E142 L N) 1 2000) 1000 142 Try.f142 [(.tv (.sl (.st 0)) x0), (.tv (.sl (.st 0)) x1)] [] [] (finC (.one .bool) κ)
    = f142.b L N (fun a0 => κ (.tv .bool a0)) x0 x1 := by
  rw [f142.b_pre]
  unfold f142.b
  simp only [f142.l0_eq, f142.p0_e0_eq, f142.p0_r_eq]
theorem f142.s0'_nat {R R' : Type} (j : R → Option R') (L N : Nat) (k0_e0 : Option R) (k0_r : Bool → Option R) (rec0 : LM → LM → Int → Int → Option R) (s0 : LM) (s1 : LM) (s2 : Int) (s3 : Int) :
    f142.s0' L N (k0_e0.bind j) (fun a0 => (k0_r a0).bind j) (fun a0 a1 a2 a3 => (rec0 a0 a1 a2 a3).bind j) s0 s1 s2 s3 = (f142.s0' L N k0_e0 k0_r rec0 s0 s1 s2 s3).bind j := by
  unfold f142.s0'
  repeat' (first | (with_reducible refine cond_nat ?_ ?_) | (with_reducible refine bind_nat fun _ => ?_) | rfl)
theorem f142.s0_nat {R R' : Type} (j : R → Option R') (L N : Nat) (k0_e0 : Option R) (k0_r : Bool → Option R) (rec0 : LM → LM → Int → Int → Option R) (s0 : LM) (s1 : LM) (s2 : Int) (s3 : Int) :
    f142.s0 L N (k0_e0.bind j) (fun a0 => (k0_r a0).bind j) (fun a0 a1 a2 a3 => (rec0 a0 a1 a2 a3).bind j) s0 s1 s2 s3 = (f142.s0 L N k0_e0 k0_r rec0 s0 s1 s2 s3).bind j := by
  unfold f142.s0
  exact f142.s0'_nat ..
theorem f142.l0_nat {R R' : Type} (j : R → Option R') (L N : Nat) (k0_e0 : Option R) (k0_r : Bool → Option R) : ∀ (n : Nat) (s0 : LM) (s1 : LM) (s2 : Int) (s3 : Int),
    f142.l0 L N (k0_e0.bind j) (fun a0 => (k0_r a0).bind j) n s0 s1 s2 s3 = (f142.l0 L N k0_e0 k0_r n s0 s1 s2 s3).bind j := by
  intro n
  induction n with
  | zero => intros; rfl
  | succ n ih =>
    intro s0 s1 s2 s3
    show f142.s0 L N (k0_e0.bind j) (fun a0 => (k0_r a0).bind j) (f142.l0 L N (k0_e0.bind j) (fun a0 => (k0_r a0).bind j) n) s0 s1 s2 s3 = _
    rw [show f142.l0 L N (k0_e0.bind j) (fun a0 => (k0_r a0).bind j) n = (fun s0 s1 s2 s3 => (f142.l0 L N k0_e0 k0_r n s0 s1 s2 s3).bind j) from funext fun s0 => funext fun s1 => funext fun s2 => funext fun s3 => ih s0 s1 s2 s3]
    exact f142.s0_nat ..
theorem f142.p0_e0'_nat {R R' : Type} (j : R → Option R') (L N : Nat) (k : Bool → Option R) :
    f142.p0_e0' L N (fun a0 => (k a0).bind j) = (f142.p0_e0' L N k).bind j := by
  unfold f142.p0_e0'
  repeat' (first | (with_reducible refine cond_nat ?_ ?_) | (with_reducible refine bind_nat fun _ => ?_) | rfl)
theorem f142.p0_e0_nat {R R' : Type} (j : R → Option R') (L N : Nat) (k : Bool → Option R) :
    f142.p0_e0 L N (fun a0 => (k a0).bind j) = (f142.p0_e0 L N k).bind j := by
  unfold f142.p0_e0
  exact f142.p0_e0'_nat ..
theorem f142.p0_r'_nat {R R' : Type} (j : R → Option R') (L N : Nat) (k : Bool → Option R) (z4 : Bool) :
    f142.p0_r' L N (fun a0 => (k a0).bind j) z4 = (f142.p0_r' L N k z4).bind j := by
  unfold f142.p0_r'
  repeat' (first | (with_reducible refine cond_nat ?_ ?_) | (with_reducible refine bind_nat fun _ => ?_) | rfl)
theorem f142.p0_r_nat {R R' : Type} (j : R → Option R') (L N : Nat) (k : Bool → Option R) (z4 : Bool) :
    f142.p0_r L N (fun a0 => (k a0).bind j) z4 = (f142.p0_r L N k z4).bind j := by
  unfold f142.p0_r
  exact f142.p0_r'_nat ..
theorem f142.b'_nat {R R' : Type} (j : R → Option R') (L N : Nat) (k : Bool → Option R) (w0 : LM → LM → Int → Int → Option R) (x0 : LM) (x1 : LM) :
    f142.b' L N (fun a0 => (k a0).bind j) (fun a0 a1 a2 a3 => (w0 a0 a1 a2 a3).bind j) x0 x1 = (f142.b' L N k w0 x0 x1).bind j := by
  unfold f142.b'
  repeat' (first | (with_reducible refine cond_nat ?_ ?_) | (with_reducible refine bind_nat fun _ => ?_) | rfl)
theorem f142.b_nat {R R' : Type} (j : R → Option R') (L N : Nat) (k : Bool → Option R) (x0 : LM) (x1 : LM) :
    f142.b L N (fun a0 => (k a0).bind j) x0 x1 = (f142.b L N k x0 x1).bind j := by
  unfold f142.b
  simp only [f142.l0_nat, f142.p0_e0_nat, f142.p0_r_nat]
  exact f142.b'_nat ..
theorem f142.ok (L N : Nat) (hΦ : TellsOk Try.prog ((Φ119 L N))) : EntOk Try.prog 142 (f142.ent L N) := by
  intro args vw site h
  unfold f142.ent
  split
  · rename_i d ha
    intro y hy hs
    refine call_ro (dep := 1000) (E := (E142 L N)) (rs := (.one .bool)) (v := (.tv .bool y)) (sound_of hΦ) okP (callI_sound (sound_of hΦ) okP 1 2000) (f := Try.f142) rfl hs ha ?_ rfl site
    refine (f142.b_eq L N some d.1 d.2.1).trans ?_
    refine ((f142.b_nat (fun y => (some (.tv .bool y) : Option AV)) L N some d.1 d.2.1)).trans ?_
    rw [show f142.b L N some d.1 d.2.1 = some y from hy]
    rfl
  · intro y hy
    cases hy
def Φ142 (L N : Nat) : Tells := (addT (Φ119 L N) 142 (f142.ent L N))
theorem Φ142_ok (L N : Nat) : TellsOk Try.prog (Φ142 L N) := addT_ok (Φ119_ok L N) (f142.ok L N (Φ119_ok L N))
def f145_1.s0' {R : Type} (L N : Nat) (k0_e0 : LM → Option R) (rec0 : LI → LM → Int → Int → LM → Option R) (s0 : LI) (s1 : LM) (s2 : Int) (s3 : Int) (s4 : LM) : Option R :=
  bif (decide (s3 < s2)) then
    bif (decide (0 ≤ s3) && decide (s3 < (s1.length : Int))) then
      bif (decide (0 ≤ (listAt s1 (Ty.dflt (.st 0)) s3.toNat).to) && decide ((listAt s1 (Ty.dflt (.st 0)) s3.toNat).to < (s0.length : Int))) then
        bif (decide (s4.length + ([(Move.mk ((listAt s1 (Ty.dflt (.st 0)) s3.toNat).act) (listAt s0 (0 : Int) ((listAt s1 (Ty.dflt (.st 0)) s3.toNat).to).toNat))] : LM).length ≤ lim)) then
          rec0 s0 s1 s2 (wi (s3 + (1 : Int))) (s4 ++ ([(Move.mk ((listAt s1 (Ty.dflt (.st 0)) s3.toNat).act) (listAt s0 (0 : Int) ((listAt s1 (Ty.dflt (.st 0)) s3.toNat).to).toNat))] : LM))
        else none
      else none
    else none
  else k0_e0 s4
def f145_1.s0 {R : Type} (L N : Nat) (k0_e0 : LM → Option R) (rec0 : LI → LM → Int → Int → LM → Option R) (s0 : LI) (s1 : LM) (s2 : Int) (s3 : Int) (s4 : LM) : Option R :=
  f145_1.s0' L N k0_e0 rec0 s0 s1 s2 s3 s4
def f145_1.l0 {R : Type} (L N : Nat) (k0_e0 : LM → Option R) : Nat → LI → LM → Int → Int → LM → Option R
  | 0, _, _, _, _, _ => none
  | n + 1, s0, s1, s2, s3, s4 => f145_1.s0 L N k0_e0 (f145_1.l0 L N k0_e0 n) s0 s1 s2 s3 s4
def f145_1.T0 (s0 : LI) (s1 : LM) (s2 : Int) (s3 : Int) (s4 : LM) : T := mkT 34 [(0, (.tv (.sl i64) s0)), (6, (.row 1009)), (14, (.tv (.sl (.st 0)) s1)), (15, (.tv i64 s2)), (16, (.tv i64 s3))]
def f145_1.H0 (s0 : LI) (s1 : LM) (s2 : Int) (s3 : Int) (s4 : LM) : H := [(1009, (.row 53 (.st 0) s4))]
def f145_1.T0_e0 (z5 : LM) : T := mkT 34 [(6, (.row 1009))]
def f145_1.H0_e0 (z5 : LM) : H := [(1009, (.row 53 (.st 0) z5))]
def f145_1.p0_e0' {R : Type} (L N : Nat) (k : LM → Option R) (z5 : LM) : Option R :=
  ((fsortM z5)).bind fun y6 =>
  k (tidyM z5)
def f145_1.p0_e0 {R : Type} (L N : Nat) (k : LM → Option R) (z5 : LM) : Option R :=
  f145_1.p0_e0' L N k z5
def f145_1.b' {R : Type} (L N : Nat) (k : LM → Option R) (w0 : LI → LM → Int → Int → LM → Option R) (x0 : LI) (x1 : Int) (x2 : LLM) : Option R :=
  bif (decide (0 ≤ x1) && decide (x1 < (x2.length : Int))) then
    w0 x0 (listAt x2 [] x1.toNat) ((listAt x2 [] x1.toNat).length : Int) (0 : Int) ([] : LM)
  else none
def f145_1.b {R : Type} (L N : Nat) (k : LM → Option R) (x0 : LI) (x1 : Int) (x2 : LLM) : Option R :=
  f145_1.b' L N k (fun s0 s1 s2 s3 s4 => f145_1.l0 L N (fun z5 => f145_1.p0_e0 L N k z5) L s0 s1 s2 s3 s4) x0 x1 x2
def f145_1 (L N : Nat) (x0 : LI) (x1 : Int) (x2 : LLM) : Option (LM) := f145_1.b L N some x0 x1 x2
def f145_1.ent (L N : Nat) (args : List AV) (vw : View) (site : Nat) : Option Ans := match shsC [(.dat (.sl i64)), (.dat i64), (.imp (.sl (.sl (.st 0))) 0)] vw args with
  | some (d, u) => some ⟨LM, f145_1 L N d.1 d.2.1 d.2.2.1, fun y => ((.tv (.sl (.st 0)) y), u, [])⟩
  | none => none
noncomputable def E145_1 (L N : Nat) : Env := { P := Try.prog, ty := tyOf, Φ := (Φ142 L N), inl := inlT, live := lives, liveX := livesX, L := L, dp := none, prom := promT, heal := healT, ren := renT }
noncomputable def f145_1.c0 : Code := loopAt 0 (codeOf Try.f145)
theorem f145_1.s0_pre {R : Type} (L N : Nat) (κ : Ex → T → H → Option R) (rec : T → H → Option R) (s0 : LI) (s1 : LM) (s2 : Int) (s3 : Int) (s4 : LM) :
    evRd (E145_1 L N) (evCallI (E145_1 L N) 1 2000) 1000 145 34 0 f145_1.c0 κ rec (f145_1.T0 s0 s1 s2 s3 s4) (f145_1.H0 s0 s1 s2 s3 s4)
    = f145_1.s0' L N (fun z5 => κ (.exit 0) (f145_1.T0_e0 z5) (f145_1.H0_e0 z5)) (fun s0 s1 s2 s3 s4 => rec (f145_1.T0 s0 s1 s2 s3 s4) (f145_1.H0 s0 s1 s2 s3 s4)) s0 s1 s2 s3 s4 := by kernel_rfl
theorem f145_1.s0_eq {R : Type} (L N : Nat) (κ : Ex → T → H → Option R) (rec : T → H → Option R) (s0 : LI) (s1 : LM) (s2 : Int) (s3 : Int) (s4 : LM) :
    evRd (E145_1 L N) (evCallI (E145_1 L N) 1 2000) 1000 145 34 0 f145_1.c0 κ rec (f145_1.T0 s0 s1 s2 s3 s4) (f145_1.H0 s0 s1 s2 s3 s4)
    = f145_1.s0 L N (fun z5 => κ (.exit 0) (f145_1.T0_e0 z5) (f145_1.H0_e0 z5)) (fun s0 s1 s2 s3 s4 => rec (f145_1.T0 s0 s1 s2 s3 s4) (f145_1.H0 s0 s1 s2 s3 s4)) s0 s1 s2 s3 s4 := by
  rw [f145_1.s0_pre]
  unfold f145_1.s0
  rfl
theorem f145_1.l0_eq {R : Type} (L N : Nat) (κ : Ex → T → H → Option R) : ∀ (n : Nat) (s0 : LI) (s1 : LM) (s2 : Int) (s3 : Int) (s4 : LM),
    evLp (E145_1 L N) (evCallI (E145_1 L N) 1 2000) 1000 145 34 0 f145_1.c0 κ n (f145_1.T0 s0 s1 s2 s3 s4) (f145_1.H0 s0 s1 s2 s3 s4)
    = f145_1.l0 L N (fun z5 => κ (.exit 0) (f145_1.T0_e0 z5) (f145_1.H0_e0 z5)) n s0 s1 s2 s3 s4 := by
  intro n
  induction n with
  | zero => intros; rfl
  | succ n ih =>
    intro s0 s1 s2 s3 s4
    rw [evLp_succ, f145_1.s0_eq]
    simp only [ih]
    rfl
theorem f145_1.p0_e0_pre {R : Type} (L N : Nat) (κ : AV → Option R) (z5 : LM) :
    (contAt (E145_1 L N) (evCallI (E145_1 L N) 1 2000) 1000 145 34 0 (codeOf Try.f145) (finK (E145_1 L N) 1000 Try.f145 (finC (.one (.sl (.st 0))) κ))) (.exit 0) (f145_1.T0_e0 z5) (f145_1.H0_e0 z5)
    = f145_1.p0_e0' L N (fun a0 => κ (.tv (.sl (.st 0)) a0)) z5 := by kernel_rfl
theorem f145_1.p0_e0_eq {R : Type} (L N : Nat) (κ : AV → Option R) (z5 : LM) :
    (contAt (E145_1 L N) (evCallI (E145_1 L N) 1 2000) 1000 145 34 0 (codeOf Try.f145) (finK (E145_1 L N) 1000 Try.f145 (finC (.one (.sl (.st 0))) κ))) (.exit 0) (f145_1.T0_e0 z5) (f145_1.H0_e0 z5)
    = f145_1.p0_e0 L N (fun a0 => κ (.tv (.sl (.st 0)) a0)) z5 := by
  rw [f145_1.p0_e0_pre]
  unfold f145_1.p0_e0
  rfl
theorem f145_1.b_pre {R : Type} (L N : Nat) (κ : AV → Option R) (x0 : LI) (x1 : Int) (x2 : LLM) :
    evBody (E145_1 L N) (evCallI (E145_1 L N) 1 2000) 1000 145 Try.f145 [(.tv (.sl i64) x0), (.tv i64 x1), (.imp (.sl (.sl (.st 0))) x2 0)] [] [] (finC (.one (.sl (.st 0))) κ)
    = f145_1.b' L N (fun a0 => κ (.tv (.sl (.st 0)) a0)) (fun s0 s1 s2 s3 s4 => evLp (E145_1 L N) (evCallI (E145_1 L N) 1 2000) 1000 145 34 0 f145_1.c0 (contAt (E145_1 L N) (evCallI (E145_1 L N) 1 2000) 1000 145 34 0 (codeOf Try.f145) (finK (E145_1 L N) 1000 Try.f145 (finC (.one (.sl (.st 0))) κ))) L (f145_1.T0 s0 s1 s2 s3 s4) (f145_1.H0 s0 s1 s2 s3 s4)) x0 x1 x2 := by kernel_rfl
theorem f145_1.b_eq {R : Type} (L N : Nat) (κ : AV → Option R) (x0 : LI) (x1 : Int) (x2 : LLM) :
    evBody (E145_1 L N) (evCallI (E145_1 L N) 1 2000) 1000 145 Try.f145 [(.tv (.sl i64) x0), (.tv i64 x1), (.imp (.sl (.sl (.st 0))) x2 0)] [] [] (finC (.one (.sl (.st 0))) κ)
    = f145_1.b L N (fun a0 => κ (.tv (.sl (.st 0)) a0)) x0 x1 x2 := by
  rw [f145_1.b_pre]
  unfold f145_1.b
  simp only [f145_1.l0_eq, f145_1.p0_e0_eq]
theorem f145_1.s0'_nat {R R' : Type} (j : R → Option R') (L N : Nat) (k0_e0 : LM → Option R) (rec0 : LI → LM → Int → Int → LM → Option R) (s0 : LI) (s1 : LM) (s2 : Int) (s3 : Int) (s4 : LM) :
    f145_1.s0' L N (fun a0 => (k0_e0 a0).bind j) (fun a0 a1 a2 a3 a4 => (rec0 a0 a1 a2 a3 a4).bind j) s0 s1 s2 s3 s4 = (f145_1.s0' L N k0_e0 rec0 s0 s1 s2 s3 s4).bind j := by
  unfold f145_1.s0'
  repeat' (first | (with_reducible refine cond_nat ?_ ?_) | (with_reducible refine bind_nat fun _ => ?_) | rfl)
theorem f145_1.s0_nat {R R' : Type} (j : R → Option R') (L N : Nat) (k0_e0 : LM → Option R) (rec0 : LI → LM → Int → Int → LM → Option R) (s0 : LI) (s1 : LM) (s2 : Int) (s3 : Int) (s4 : LM) :
    f145_1.s0 L N (fun a0 => (k0_e0 a0).bind j) (fun a0 a1 a2 a3 a4 => (rec0 a0 a1 a2 a3 a4).bind j) s0 s1 s2 s3 s4 = (f145_1.s0 L N k0_e0 rec0 s0 s1 s2 s3 s4).bind j := by
  unfold f145_1.s0
  exact f145_1.s0'_nat ..
theorem f145_1.l0_nat {R R' : Type} (j : R → Option R') (L N : Nat) (k0_e0 : LM → Option R) : ∀ (n : Nat) (s0 : LI) (s1 : LM) (s2 : Int) (s3 : Int) (s4 : LM),
    f145_1.l0 L N (fun a0 => (k0_e0 a0).bind j) n s0 s1 s2 s3 s4 = (f145_1.l0 L N k0_e0 n s0 s1 s2 s3 s4).bind j := by
  intro n
  induction n with
  | zero => intros; rfl
  | succ n ih =>
    intro s0 s1 s2 s3 s4
    show f145_1.s0 L N (fun a0 => (k0_e0 a0).bind j) (f145_1.l0 L N (fun a0 => (k0_e0 a0).bind j) n) s0 s1 s2 s3 s4 = _
    rw [show f145_1.l0 L N (fun a0 => (k0_e0 a0).bind j) n = (fun s0 s1 s2 s3 s4 => (f145_1.l0 L N k0_e0 n s0 s1 s2 s3 s4).bind j) from funext fun s0 => funext fun s1 => funext fun s2 => funext fun s3 => funext fun s4 => ih s0 s1 s2 s3 s4]
    exact f145_1.s0_nat ..
theorem f145_1.p0_e0'_nat {R R' : Type} (j : R → Option R') (L N : Nat) (k : LM → Option R) (z5 : LM) :
    f145_1.p0_e0' L N (fun a0 => (k a0).bind j) z5 = (f145_1.p0_e0' L N k z5).bind j := by
  unfold f145_1.p0_e0'
  repeat' (first | (with_reducible refine cond_nat ?_ ?_) | (with_reducible refine bind_nat fun _ => ?_) | rfl)
theorem f145_1.p0_e0_nat {R R' : Type} (j : R → Option R') (L N : Nat) (k : LM → Option R) (z5 : LM) :
    f145_1.p0_e0 L N (fun a0 => (k a0).bind j) z5 = (f145_1.p0_e0 L N k z5).bind j := by
  unfold f145_1.p0_e0
  exact f145_1.p0_e0'_nat ..
theorem f145_1.b'_nat {R R' : Type} (j : R → Option R') (L N : Nat) (k : LM → Option R) (w0 : LI → LM → Int → Int → LM → Option R) (x0 : LI) (x1 : Int) (x2 : LLM) :
    f145_1.b' L N (fun a0 => (k a0).bind j) (fun a0 a1 a2 a3 a4 => (w0 a0 a1 a2 a3 a4).bind j) x0 x1 x2 = (f145_1.b' L N k w0 x0 x1 x2).bind j := by
  unfold f145_1.b'
  repeat' (first | (with_reducible refine cond_nat ?_ ?_) | (with_reducible refine bind_nat fun _ => ?_) | rfl)
theorem f145_1.b_nat {R R' : Type} (j : R → Option R') (L N : Nat) (k : LM → Option R) (x0 : LI) (x1 : Int) (x2 : LLM) :
    f145_1.b L N (fun a0 => (k a0).bind j) x0 x1 x2 = (f145_1.b L N k x0 x1 x2).bind j := by
  unfold f145_1.b
  simp only [f145_1.l0_nat, f145_1.p0_e0_nat]
  exact f145_1.b'_nat ..
theorem f145_1.ok (L N : Nat) (hΦ : TellsOk Try.prog ((Φ142 L N))) : EntOkO Try.prog 145 (f145_1.ent L N) := by
  intro args vw site h a ha
  unfold f145_1.ent at ha
  split at ha
  · rename_i d u hd
    obtain rfl := Option.some.inj ha
    intro y hy hs
    refine call_dof (dep := 1000) (E := (E145_1 L N)) (rs := (.one (.sl (.st 0)))) (v' := (.tv (.sl (.st 0)) y)) (sound_of hΦ) okP (callI_sound (sound_of hΦ) okP 1 2000) (f := Try.f145) rfl hs hd ?_ site
    refine (f145_1.b_eq L N some d.1 d.2.1 d.2.2.1).trans ?_
    refine (f145_1.b_nat (fun y => (some (.tv (.sl (.st 0)) y) : Option AV)) L N some d.1 d.2.1 d.2.2.1).trans ?_
    rw [show f145_1.b L N some d.1 d.2.1 d.2.2.1 = some y from hy]
    rfl
  · cases ha
def Φ145_1 (L N : Nat) : Tells := (addO (Φ142 L N) 145 (f145_1.ent L N))
theorem Φ145_1_ok (L N : Nat) : TellsOk Try.prog (Φ145_1 L N) := addO_ok (Φ142_ok L N) (f145_1.ok L N (Φ142_ok L N))
def f118_1.b' {R : Type} (L N : Nat) (k : LM → Option R) (x0 : Int) (x1 : LLM) (x2 : LI) : Option R :=
  (f145_1 L N x2 x0 x1).bind fun y0 =>
  k y0
def f118_1.b {R : Type} (L N : Nat) (k : LM → Option R) (x0 : Int) (x1 : LLM) (x2 : LI) : Option R :=
  f118_1.b' L N k x0 x1 x2
def f118_1 (L N : Nat) (x0 : Int) (x1 : LLM) (x2 : LI) : Option (LM) := f118_1.b L N some x0 x1 x2
def f118_1.ent (L N : Nat) (args : List AV) (vw : View) (site : Nat) : Option Ans := match shsC [(.dat i64), (.pfn 145 [(.imp (.sl (.sl (.st 0))) 0)]), (.imp (.sl i64) 0)] vw args with
  | some (d, u) => some ⟨LM, f118_1 L N d.1 d.2.1.1 d.2.2.1, fun y => ((.tv (.sl (.st 0)) y), u, [])⟩
  | none => none
noncomputable def E118_1 (L N : Nat) : Env := { P := Try.prog, ty := tyOf, Φ := (Φ145_1 L N), inl := inlT, live := lives, liveX := livesX, L := L, dp := none, prom := promT, heal := healT, ren := renT }
theorem f118_1.b_pre {R : Type} (L N : Nat) (κ : AV → Option R) (x0 : Int) (x1 : LLM) (x2 : LI) :
    evBody (E118_1 L N) (evCallI (E118_1 L N) 1 2000) 1000 118 Try.f118 [(.tv i64 x0), (.imf 145 [(.imp (.sl (.sl (.st 0))) x1 0)]), (.imp (.sl i64) x2 0)] [] [] (finC (.one (.sl (.st 0))) κ)
    = f118_1.b' L N (fun a0 => κ (.tv (.sl (.st 0)) a0)) x0 x1 x2 := by kernel_rfl
theorem f118_1.b_eq {R : Type} (L N : Nat) (κ : AV → Option R) (x0 : Int) (x1 : LLM) (x2 : LI) :
    evBody (E118_1 L N) (evCallI (E118_1 L N) 1 2000) 1000 118 Try.f118 [(.tv i64 x0), (.imf 145 [(.imp (.sl (.sl (.st 0))) x1 0)]), (.imp (.sl i64) x2 0)] [] [] (finC (.one (.sl (.st 0))) κ)
    = f118_1.b L N (fun a0 => κ (.tv (.sl (.st 0)) a0)) x0 x1 x2 := by
  rw [f118_1.b_pre]
  unfold f118_1.b
  rfl
theorem f118_1.b'_nat {R R' : Type} (j : R → Option R') (L N : Nat) (k : LM → Option R) (x0 : Int) (x1 : LLM) (x2 : LI) :
    f118_1.b' L N (fun a0 => (k a0).bind j) x0 x1 x2 = (f118_1.b' L N k x0 x1 x2).bind j := by
  unfold f118_1.b'
  repeat' (first | (with_reducible refine cond_nat ?_ ?_) | (with_reducible refine bind_nat fun _ => ?_) | rfl)
theorem f118_1.b_nat {R R' : Type} (j : R → Option R') (L N : Nat) (k : LM → Option R) (x0 : Int) (x1 : LLM) (x2 : LI) :
    f118_1.b L N (fun a0 => (k a0).bind j) x0 x1 x2 = (f118_1.b L N k x0 x1 x2).bind j := by
  unfold f118_1.b
  exact f118_1.b'_nat ..
theorem f118_1.ok (L N : Nat) (hΦ : TellsOk Try.prog ((Φ145_1 L N))) : EntOkO Try.prog 118 (f118_1.ent L N) := by
  intro args vw site h a ha
  unfold f118_1.ent at ha
  split at ha
  · rename_i d u hd
    obtain rfl := Option.some.inj ha
    intro y hy hs
    refine call_dof (dep := 1000) (E := (E118_1 L N)) (rs := (.one (.sl (.st 0)))) (v' := (.tv (.sl (.st 0)) y)) (sound_of hΦ) okP (callI_sound (sound_of hΦ) okP 1 2000) (f := Try.f118) rfl hs hd ?_ site
    refine (f118_1.b_eq L N some d.1 d.2.1.1 d.2.2.1).trans ?_
    refine (f118_1.b_nat (fun y => (some (.tv (.sl (.st 0)) y) : Option AV)) L N some d.1 d.2.1.1 d.2.2.1).trans ?_
    rw [show f118_1.b L N some d.1 d.2.1.1 d.2.2.1 = some y from hy]
    rfl
  · cases ha
def Φ118_1 (L N : Nat) : Tells := (addO (Φ145_1 L N) 118 (f118_1.ent L N))
theorem Φ118_1_ok (L N : Nat) : TellsOk Try.prog (Φ118_1 L N) := addO_ok (Φ145_1_ok L N) (f118_1.ok L N (Φ145_1_ok L N))
def f117_1.j0' {R : Type} (L N : Nat) (k1_e2 : LI → LLM → LI → Int → Int → LI → LLM → Option R) (rec1 : LI → LLM → LI → Int → Int → Int → Int → LI → LLM → Option R) (v26 : LI) (v27 : LLM) (v28 : LI) (v29 : Int) (v30 : Int) (v31 : Int) (v32 : Int) (v33 : Bool) (v34 : LI) (v35 : LLM) : Option R :=
  bif v33 then
    bif (decide (0 ≤ v29) && decide (v29 < (v34.length : Int))) then
      k1_e2 v26 v27 v28 v31 v32 (v34.set v29.toNat v30) v35
    else none
  else rec1 v26 v27 v28 v29 (wi (v30 + (1 : Int))) v31 v32 v34 v35
def f117_1.s1' {R : Type} (L N : Nat) (k1_e2 : LI → LLM → LI → Int → Int → LI → LLM → Option R) (rec1 : LI → LLM → LI → Int → Int → Int → Int → LI → LLM → Option R) (s9 : LI) (s10 : LLM) (s11 : LI) (s12 : Int) (s13 : Int) (s14 : Int) (s15 : Int) (s16 : LI) (s17 : LLM) : Option R :=
  bif (decide (s13 < s12)) then
    bif (decide (0 ≤ s13) && decide (s13 < (s9.length : Int))) then
      bif (decide (0 ≤ s12) && decide (s12 < (s9.length : Int))) then
        bif ((listAt s9 (0 : Int) s13.toNat) == (listAt s9 (0 : Int) s12.toNat)) then
          bif (decide (0 ≤ s13) && decide (s13 < (s17.length : Int))) then
            bif (decide (0 ≤ s12) && decide (s12 < (s17.length : Int))) then
              (f142 L N (listAt s17 [] s13.toNat) (listAt s17 [] s12.toNat)).bind fun y25 =>
              f117_1.j0' L N k1_e2 rec1 s9 s10 s11 s12 s13 s14 s15 y25 s16 s17
            else none
          else none
        else f117_1.j0' L N k1_e2 rec1 s9 s10 s11 s12 s13 s14 s15 false s16 s17
      else none
    else none
  else k1_e2 s9 s10 s11 s14 s15 s16 s17
def f117_1.s1 {R : Type} (L N : Nat) (k1_e2 : LI → LLM → LI → Int → Int → LI → LLM → Option R) (rec1 : LI → LLM → LI → Int → Int → Int → Int → LI → LLM → Option R) (s9 : LI) (s10 : LLM) (s11 : LI) (s12 : Int) (s13 : Int) (s14 : Int) (s15 : Int) (s16 : LI) (s17 : LLM) : Option R :=
  f117_1.s1' L N k1_e2 rec1 s9 s10 s11 s12 s13 s14 s15 s16 s17
def f117_1.l1 {R : Type} (L N : Nat) (k1_e2 : LI → LLM → LI → Int → Int → LI → LLM → Option R) : Nat → LI → LLM → LI → Int → Int → Int → Int → LI → LLM → Option R
  | 0, _, _, _, _, _, _, _, _, _ => none
  | n + 1, s9, s10, s11, s12, s13, s14, s15, s16, s17 => f117_1.s1 L N k1_e2 (f117_1.l1 L N k1_e2 n) s9 s10 s11 s12 s13 s14 s15 s16 s17
def f117_1.T1 (s9 : LI) (s10 : LLM) (s11 : LI) (s12 : Int) (s13 : Int) (s14 : Int) (s15 : Int) (s16 : LI) (s17 : LLM) : T := mkT 61 [(0, (.tv (.sl i64) s9)), (1, (.fn 118 [(.imf 145 [(.imp (.sl (.sl (.st 0))) s10 0)]), (.imp (.sl i64) s11 0)])), (5, (.row 1011)), (6, (.row 1014)), (7, (.tv i64 s12)), (8, (.tv i64 s13)), (16, (.tv i64 s14)), (17, (.tv i64 s15))]
def f117_1.H1 (s9 : LI) (s10 : LLM) (s11 : LI) (s12 : Int) (s13 : Int) (s14 : Int) (s15 : Int) (s16 : LI) (s17 : LLM) : H := [(1011, (.row 3 i64 s16)), (1014, (.row 51 (.sl (.st 0)) s17))]
def f117_1.T1_e2 (z18 : LI) (z19 : LLM) (z20 : LI) (z21 : Int) (z22 : Int) (z23 : LI) (z24 : LLM) : T := mkT 61 [(0, (.tv (.sl i64) z18)), (1, (.fn 118 [(.imf 145 [(.imp (.sl (.sl (.st 0))) z19 0)]), (.imp (.sl i64) z20 0)])), (5, (.row 1011)), (6, (.row 1014)), (16, (.tv i64 z21)), (17, (.tv i64 z22))]
def f117_1.H1_e2 (z18 : LI) (z19 : LLM) (z20 : LI) (z21 : Int) (z22 : Int) (z23 : LI) (z24 : LLM) : H := [(1011, (.row 3 i64 z23)), (1014, (.row 51 (.sl (.st 0)) z24))]
def f117_1.p1_e2' {R : Type} (L N : Nat) (k0_e0 : LI → Option R) (rec0 : LI → LLM → LI → Int → Int → LI → LLM → Option R) (z18 : LI) (z19 : LLM) (z20 : LI) (z21 : Int) (z22 : Int) (z23 : LI) (z24 : LLM) : Option R :=
  rec0 z18 z19 z20 z21 (wi (z22 + (1 : Int))) z23 z24
def f117_1.p1_e2 {R : Type} (L N : Nat) (k0_e0 : LI → Option R) (rec0 : LI → LLM → LI → Int → Int → LI → LLM → Option R) (z18 : LI) (z19 : LLM) (z20 : LI) (z21 : Int) (z22 : Int) (z23 : LI) (z24 : LLM) : Option R :=
  f117_1.p1_e2' L N k0_e0 rec0 z18 z19 z20 z21 z22 z23 z24
def f117_1.s0' {R : Type} (L N : Nat) (k0_e0 : LI → Option R) (rec0 : LI → LLM → LI → Int → Int → LI → LLM → Option R) (w1 : LI → LLM → LI → Int → Int → Int → Int → LI → LLM → Option R) (s0 : LI) (s1 : LLM) (s2 : LI) (s3 : Int) (s4 : Int) (s5 : LI) (s6 : LLM) : Option R :=
  bif (decide (s4 < s3)) then
    (f118_1 L N s4 s1 s2).bind fun y8 =>
    bif (decide (0 ≤ s4) && decide (s4 < (s6.length : Int))) then
      bif (decide (0 ≤ s4) && decide (s4 < (s5.length : Int))) then
        w1 s0 s1 s2 s4 (0 : Int) s3 s4 (s5.set s4.toNat s4) (s6.set s4.toNat y8)
      else none
    else none
  else k0_e0 s5
def f117_1.s0 {R : Type} (L N : Nat) (k0_e0 : LI → Option R) (rec0 : LI → LLM → LI → Int → Int → LI → LLM → Option R) (s0 : LI) (s1 : LLM) (s2 : LI) (s3 : Int) (s4 : Int) (s5 : LI) (s6 : LLM) : Option R :=
  f117_1.s0' L N k0_e0 rec0 (fun s9 s10 s11 s12 s13 s14 s15 s16 s17 => f117_1.l1 L N (fun z18 z19 z20 z21 z22 z23 z24 => f117_1.p1_e2 L N k0_e0 rec0 z18 z19 z20 z21 z22 z23 z24) L s9 s10 s11 s12 s13 s14 s15 s16 s17) s0 s1 s2 s3 s4 s5 s6
def f117_1.l0 {R : Type} (L N : Nat) (k0_e0 : LI → Option R) : Nat → LI → LLM → LI → Int → Int → LI → LLM → Option R
  | 0, _, _, _, _, _, _, _ => none
  | n + 1, s0, s1, s2, s3, s4, s5, s6 => f117_1.s0 L N k0_e0 (f117_1.l0 L N k0_e0 n) s0 s1 s2 s3 s4 s5 s6
def f117_1.T0 (s0 : LI) (s1 : LLM) (s2 : LI) (s3 : Int) (s4 : Int) (s5 : LI) (s6 : LLM) : T := mkT 61 [(0, (.tv (.sl i64) s0)), (1, (.fn 118 [(.imf 145 [(.imp (.sl (.sl (.st 0))) s1 0)]), (.imp (.sl i64) s2 0)])), (5, (.row 1011)), (6, (.row 1014)), (16, (.tv i64 s3)), (17, (.tv i64 s4))]
def f117_1.H0 (s0 : LI) (s1 : LLM) (s2 : LI) (s3 : Int) (s4 : Int) (s5 : LI) (s6 : LLM) : H := [(1011, (.row 3 i64 s5)), (1014, (.row 51 (.sl (.st 0)) s6))]
def f117_1.T0_e0 (z7 : LI) : T := mkT 61 [(5, (.row 1011))]
def f117_1.H0_e0 (z7 : LI) : H := [(1011, (.row 3 i64 z7))]
def f117_1.p0_e0' {R : Type} (L N : Nat) (k : LI → Option R) (z7 : LI) : Option R :=
  k z7
def f117_1.p0_e0 {R : Type} (L N : Nat) (k : LI → Option R) (z7 : LI) : Option R :=
  f117_1.p0_e0' L N k z7
def f117_1.b' {R : Type} (L N : Nat) (k : LI → Option R) (w0 : LI → LLM → LI → Int → Int → LI → LLM → Option R) (x0 : LI) (x1 : LLM) (x2 : LI) : Option R :=
  bif (decide (0 ≤ (x0.length : Int)) && decide ((x0.length : Int) ≤ (lim : Int))) then
    bif (decide (0 ≤ (x0.length : Int)) && decide ((x0.length : Int) ≤ (lim : Int))) then
      w0 x0 x1 x2 (x0.length : Int) (0 : Int) (List.replicate (x0.length : Int).toNat (0 : Int)) (List.replicate (x0.length : Int).toNat [])
    else none
  else none
def f117_1.b {R : Type} (L N : Nat) (k : LI → Option R) (x0 : LI) (x1 : LLM) (x2 : LI) : Option R :=
  f117_1.b' L N k (fun s0 s1 s2 s3 s4 s5 s6 => f117_1.l0 L N (fun z7 => f117_1.p0_e0 L N k z7) L s0 s1 s2 s3 s4 s5 s6) x0 x1 x2
def f117_1 (L N : Nat) (x0 : LI) (x1 : LLM) (x2 : LI) : Option (LI) := f117_1.b L N some x0 x1 x2
def f117_1.ent (L N : Nat) (args : List AV) (vw : View) (site : Nat) : Option Ans := match shD [(.dat (.sl i64)), (.fn 118 [(.pfn 145 [(.imp (.sl (.sl (.st 0))) 0)]), (.imp (.sl i64) 0)])] vw args with
  | some d => some ⟨LI, f117_1 L N d.1 d.2.1.1.1 d.2.1.2.1, fun y => (RN.av site .row (), [(site, some (mkO none 3 i64 y))], [])⟩
  | none => none
noncomputable def E117_1 (L N : Nat) : Env := { P := Try.prog, ty := tyOf, Φ := (Φ118_1 L N), inl := inlT, live := lives, liveX := livesX, L := L, dp := none, prom := promT, heal := healT, ren := renT }
noncomputable def f117_1.c0 : Code := loopAt 0 (codeOf Try.f117)
noncomputable def f117_1.c1 : Code := loopAt 2 f117_1.c0
theorem f117_1.s1_pre {R : Type} (L N : Nat) (κ : Ex → T → H → Option R) (rec : T → H → Option R) (s9 : LI) (s10 : LLM) (s11 : LI) (s12 : Int) (s13 : Int) (s14 : Int) (s15 : Int) (s16 : LI) (s17 : LLM) :
    evRd (E117_1 L N) (evCallI (E117_1 L N) 1 2000) 1000 117 61 2 f117_1.c1 κ rec (f117_1.T1 s9 s10 s11 s12 s13 s14 s15 s16 s17) (f117_1.H1 s9 s10 s11 s12 s13 s14 s15 s16 s17)
    = f117_1.s1' L N (fun z18 z19 z20 z21 z22 z23 z24 => κ (.exit 2) (f117_1.T1_e2 z18 z19 z20 z21 z22 z23 z24) (f117_1.H1_e2 z18 z19 z20 z21 z22 z23 z24)) (fun s9 s10 s11 s12 s13 s14 s15 s16 s17 => rec (f117_1.T1 s9 s10 s11 s12 s13 s14 s15 s16 s17) (f117_1.H1 s9 s10 s11 s12 s13 s14 s15 s16 s17)) s9 s10 s11 s12 s13 s14 s15 s16 s17 := by kernel_rfl
theorem f117_1.s1_eq {R : Type} (L N : Nat) (κ : Ex → T → H → Option R) (rec : T → H → Option R) (s9 : LI) (s10 : LLM) (s11 : LI) (s12 : Int) (s13 : Int) (s14 : Int) (s15 : Int) (s16 : LI) (s17 : LLM) :
    evRd (E117_1 L N) (evCallI (E117_1 L N) 1 2000) 1000 117 61 2 f117_1.c1 κ rec (f117_1.T1 s9 s10 s11 s12 s13 s14 s15 s16 s17) (f117_1.H1 s9 s10 s11 s12 s13 s14 s15 s16 s17)
    = f117_1.s1 L N (fun z18 z19 z20 z21 z22 z23 z24 => κ (.exit 2) (f117_1.T1_e2 z18 z19 z20 z21 z22 z23 z24) (f117_1.H1_e2 z18 z19 z20 z21 z22 z23 z24)) (fun s9 s10 s11 s12 s13 s14 s15 s16 s17 => rec (f117_1.T1 s9 s10 s11 s12 s13 s14 s15 s16 s17) (f117_1.H1 s9 s10 s11 s12 s13 s14 s15 s16 s17)) s9 s10 s11 s12 s13 s14 s15 s16 s17 := by
  rw [f117_1.s1_pre]
  unfold f117_1.s1
  rfl
theorem f117_1.l1_eq {R : Type} (L N : Nat) (κ : Ex → T → H → Option R) : ∀ (n : Nat) (s9 : LI) (s10 : LLM) (s11 : LI) (s12 : Int) (s13 : Int) (s14 : Int) (s15 : Int) (s16 : LI) (s17 : LLM),
    evLp (E117_1 L N) (evCallI (E117_1 L N) 1 2000) 1000 117 61 2 f117_1.c1 κ n (f117_1.T1 s9 s10 s11 s12 s13 s14 s15 s16 s17) (f117_1.H1 s9 s10 s11 s12 s13 s14 s15 s16 s17)
    = f117_1.l1 L N (fun z18 z19 z20 z21 z22 z23 z24 => κ (.exit 2) (f117_1.T1_e2 z18 z19 z20 z21 z22 z23 z24) (f117_1.H1_e2 z18 z19 z20 z21 z22 z23 z24)) n s9 s10 s11 s12 s13 s14 s15 s16 s17 := by
  intro n
  induction n with
  | zero => intros; rfl
  | succ n ih =>
    intro s9 s10 s11 s12 s13 s14 s15 s16 s17
    rw [evLp_succ, f117_1.s1_eq]
    simp only [ih]
    rfl
theorem f117_1.p1_e2_pre {R : Type} (L N : Nat) (κ : Ex → T → H → Option R) (rec : T → H → Option R) (z18 : LI) (z19 : LLM) (z20 : LI) (z21 : Int) (z22 : Int) (z23 : LI) (z24 : LLM) :
    (contAt (E117_1 L N) (evCallI (E117_1 L N) 1 2000) 1000 117 61 2 f117_1.c0 (stepK (outK (keepT 61 ((E117_1 L N).liveX 117 0).1) (keepH 1000 ((E117_1 L N).liveX 117 0).2) κ) fun t h => rec (backK 1000 61 ((E117_1 L N).live 117 0).1 ((E117_1 L N).live 117 0).2 ((E117_1 L N).heal 117 0) ((E117_1 L N).ren 117 0) t h).1 (backK 1000 61 ((E117_1 L N).live 117 0).1 ((E117_1 L N).live 117 0).2 ((E117_1 L N).heal 117 0) ((E117_1 L N).ren 117 0) t h).2)) (.exit 2) (f117_1.T1_e2 z18 z19 z20 z21 z22 z23 z24) (f117_1.H1_e2 z18 z19 z20 z21 z22 z23 z24)
    = f117_1.p1_e2' L N (fun z7 => κ (.exit 0) (f117_1.T0_e0 z7) (f117_1.H0_e0 z7)) (fun s0 s1 s2 s3 s4 s5 s6 => rec (f117_1.T0 s0 s1 s2 s3 s4 s5 s6) (f117_1.H0 s0 s1 s2 s3 s4 s5 s6)) z18 z19 z20 z21 z22 z23 z24 := by kernel_rfl
theorem f117_1.p1_e2_eq {R : Type} (L N : Nat) (κ : Ex → T → H → Option R) (rec : T → H → Option R) (z18 : LI) (z19 : LLM) (z20 : LI) (z21 : Int) (z22 : Int) (z23 : LI) (z24 : LLM) :
    (contAt (E117_1 L N) (evCallI (E117_1 L N) 1 2000) 1000 117 61 2 f117_1.c0 (stepK (outK (keepT 61 ((E117_1 L N).liveX 117 0).1) (keepH 1000 ((E117_1 L N).liveX 117 0).2) κ) fun t h => rec (backK 1000 61 ((E117_1 L N).live 117 0).1 ((E117_1 L N).live 117 0).2 ((E117_1 L N).heal 117 0) ((E117_1 L N).ren 117 0) t h).1 (backK 1000 61 ((E117_1 L N).live 117 0).1 ((E117_1 L N).live 117 0).2 ((E117_1 L N).heal 117 0) ((E117_1 L N).ren 117 0) t h).2)) (.exit 2) (f117_1.T1_e2 z18 z19 z20 z21 z22 z23 z24) (f117_1.H1_e2 z18 z19 z20 z21 z22 z23 z24)
    = f117_1.p1_e2 L N (fun z7 => κ (.exit 0) (f117_1.T0_e0 z7) (f117_1.H0_e0 z7)) (fun s0 s1 s2 s3 s4 s5 s6 => rec (f117_1.T0 s0 s1 s2 s3 s4 s5 s6) (f117_1.H0 s0 s1 s2 s3 s4 s5 s6)) z18 z19 z20 z21 z22 z23 z24 := by
  rw [f117_1.p1_e2_pre]
  unfold f117_1.p1_e2
  rfl
theorem f117_1.s0_pre {R : Type} (L N : Nat) (κ : Ex → T → H → Option R) (rec : T → H → Option R) (s0 : LI) (s1 : LLM) (s2 : LI) (s3 : Int) (s4 : Int) (s5 : LI) (s6 : LLM) :
    evRd (E117_1 L N) (evCallI (E117_1 L N) 1 2000) 1000 117 61 0 f117_1.c0 κ rec (f117_1.T0 s0 s1 s2 s3 s4 s5 s6) (f117_1.H0 s0 s1 s2 s3 s4 s5 s6)
    = f117_1.s0' L N (fun z7 => κ (.exit 0) (f117_1.T0_e0 z7) (f117_1.H0_e0 z7)) (fun s0 s1 s2 s3 s4 s5 s6 => rec (f117_1.T0 s0 s1 s2 s3 s4 s5 s6) (f117_1.H0 s0 s1 s2 s3 s4 s5 s6)) (fun s9 s10 s11 s12 s13 s14 s15 s16 s17 => evLp (E117_1 L N) (evCallI (E117_1 L N) 1 2000) 1000 117 61 2 f117_1.c1 (contAt (E117_1 L N) (evCallI (E117_1 L N) 1 2000) 1000 117 61 2 f117_1.c0 (stepK (outK (keepT 61 ((E117_1 L N).liveX 117 0).1) (keepH 1000 ((E117_1 L N).liveX 117 0).2) κ) fun t h => rec (backK 1000 61 ((E117_1 L N).live 117 0).1 ((E117_1 L N).live 117 0).2 ((E117_1 L N).heal 117 0) ((E117_1 L N).ren 117 0) t h).1 (backK 1000 61 ((E117_1 L N).live 117 0).1 ((E117_1 L N).live 117 0).2 ((E117_1 L N).heal 117 0) ((E117_1 L N).ren 117 0) t h).2)) L (f117_1.T1 s9 s10 s11 s12 s13 s14 s15 s16 s17) (f117_1.H1 s9 s10 s11 s12 s13 s14 s15 s16 s17)) s0 s1 s2 s3 s4 s5 s6 := by kernel_rfl
theorem f117_1.s0_eq {R : Type} (L N : Nat) (κ : Ex → T → H → Option R) (rec : T → H → Option R) (s0 : LI) (s1 : LLM) (s2 : LI) (s3 : Int) (s4 : Int) (s5 : LI) (s6 : LLM) :
    evRd (E117_1 L N) (evCallI (E117_1 L N) 1 2000) 1000 117 61 0 f117_1.c0 κ rec (f117_1.T0 s0 s1 s2 s3 s4 s5 s6) (f117_1.H0 s0 s1 s2 s3 s4 s5 s6)
    = f117_1.s0 L N (fun z7 => κ (.exit 0) (f117_1.T0_e0 z7) (f117_1.H0_e0 z7)) (fun s0 s1 s2 s3 s4 s5 s6 => rec (f117_1.T0 s0 s1 s2 s3 s4 s5 s6) (f117_1.H0 s0 s1 s2 s3 s4 s5 s6)) s0 s1 s2 s3 s4 s5 s6 := by
  rw [f117_1.s0_pre]
  unfold f117_1.s0
  simp only [f117_1.l1_eq, f117_1.p1_e2_eq]
theorem f117_1.l0_eq {R : Type} (L N : Nat) (κ : Ex → T → H → Option R) : ∀ (n : Nat) (s0 : LI) (s1 : LLM) (s2 : LI) (s3 : Int) (s4 : Int) (s5 : LI) (s6 : LLM),
    evLp (E117_1 L N) (evCallI (E117_1 L N) 1 2000) 1000 117 61 0 f117_1.c0 κ n (f117_1.T0 s0 s1 s2 s3 s4 s5 s6) (f117_1.H0 s0 s1 s2 s3 s4 s5 s6)
    = f117_1.l0 L N (fun z7 => κ (.exit 0) (f117_1.T0_e0 z7) (f117_1.H0_e0 z7)) n s0 s1 s2 s3 s4 s5 s6 := by
  intro n
  induction n with
  | zero => intros; rfl
  | succ n ih =>
    intro s0 s1 s2 s3 s4 s5 s6
    rw [evLp_succ, f117_1.s0_eq]
    simp only [ih]
    rfl
theorem f117_1.p0_e0_pre {R : Type} (L N : Nat) (κ : RN.Den .row → List Int → Option R) (z7 : LI) :
    (contAt (E117_1 L N) (evCallI (E117_1 L N) 1 2000) 1000 117 61 0 (codeOf Try.f117) (finK (E117_1 L N) 1000 Try.f117 (finN .row none 3 i64 κ))) (.exit 0) (f117_1.T0_e0 z7) (f117_1.H0_e0 z7)
    = f117_1.p0_e0' L N (fun a0 => κ () a0) z7 := by kernel_rfl
theorem f117_1.p0_e0_eq {R : Type} (L N : Nat) (κ : RN.Den .row → List Int → Option R) (z7 : LI) :
    (contAt (E117_1 L N) (evCallI (E117_1 L N) 1 2000) 1000 117 61 0 (codeOf Try.f117) (finK (E117_1 L N) 1000 Try.f117 (finN .row none 3 i64 κ))) (.exit 0) (f117_1.T0_e0 z7) (f117_1.H0_e0 z7)
    = f117_1.p0_e0 L N (fun a0 => κ () a0) z7 := by
  rw [f117_1.p0_e0_pre]
  unfold f117_1.p0_e0
  rfl
theorem f117_1.b_pre {R : Type} (L N : Nat) (κ : RN.Den .row → List Int → Option R) (x0 : LI) (x1 : LLM) (x2 : LI) :
    evBody (E117_1 L N) (evCallI (E117_1 L N) 1 2000) 1000 117 Try.f117 [(.tv (.sl i64) x0), (.fn 118 [(.imf 145 [(.imp (.sl (.sl (.st 0))) x1 0)]), (.imp (.sl i64) x2 0)])] [] [] (finN .row none 3 i64 κ)
    = f117_1.b' L N (fun a0 => κ () a0) (fun s0 s1 s2 s3 s4 s5 s6 => evLp (E117_1 L N) (evCallI (E117_1 L N) 1 2000) 1000 117 61 0 f117_1.c0 (contAt (E117_1 L N) (evCallI (E117_1 L N) 1 2000) 1000 117 61 0 (codeOf Try.f117) (finK (E117_1 L N) 1000 Try.f117 (finN .row none 3 i64 κ))) L (f117_1.T0 s0 s1 s2 s3 s4 s5 s6) (f117_1.H0 s0 s1 s2 s3 s4 s5 s6)) x0 x1 x2 := by kernel_rfl
theorem f117_1.b_eq {R : Type} (L N : Nat) (κ : RN.Den .row → List Int → Option R) (x0 : LI) (x1 : LLM) (x2 : LI) :
    evBody (E117_1 L N) (evCallI (E117_1 L N) 1 2000) 1000 117 Try.f117 [(.tv (.sl i64) x0), (.fn 118 [(.imf 145 [(.imp (.sl (.sl (.st 0))) x1 0)]), (.imp (.sl i64) x2 0)])] [] [] (finN .row none 3 i64 κ)
    = f117_1.b L N (fun a0 => κ () a0) x0 x1 x2 := by
  rw [f117_1.b_pre]
  unfold f117_1.b
  simp only [f117_1.l0_eq, f117_1.p0_e0_eq]
theorem f117_1.j0'_nat {R R' : Type} (j : R → Option R') (L N : Nat) (k1_e2 : LI → LLM → LI → Int → Int → LI → LLM → Option R) (rec1 : LI → LLM → LI → Int → Int → Int → Int → LI → LLM → Option R) (v26 : LI) (v27 : LLM) (v28 : LI) (v29 : Int) (v30 : Int) (v31 : Int) (v32 : Int) (v33 : Bool) (v34 : LI) (v35 : LLM) :
    f117_1.j0' L N (fun a0 a1 a2 a3 a4 a5 a6 => (k1_e2 a0 a1 a2 a3 a4 a5 a6).bind j) (fun a0 a1 a2 a3 a4 a5 a6 a7 a8 => (rec1 a0 a1 a2 a3 a4 a5 a6 a7 a8).bind j) v26 v27 v28 v29 v30 v31 v32 v33 v34 v35 = (f117_1.j0' L N k1_e2 rec1 v26 v27 v28 v29 v30 v31 v32 v33 v34 v35).bind j := by
  unfold f117_1.j0'
  repeat' (first | (with_reducible refine cond_nat ?_ ?_) | (with_reducible refine bind_nat fun _ => ?_) | rfl)
theorem f117_1.s1'_nat {R R' : Type} (j : R → Option R') (L N : Nat) (k1_e2 : LI → LLM → LI → Int → Int → LI → LLM → Option R) (rec1 : LI → LLM → LI → Int → Int → Int → Int → LI → LLM → Option R) (s9 : LI) (s10 : LLM) (s11 : LI) (s12 : Int) (s13 : Int) (s14 : Int) (s15 : Int) (s16 : LI) (s17 : LLM) :
    f117_1.s1' L N (fun a0 a1 a2 a3 a4 a5 a6 => (k1_e2 a0 a1 a2 a3 a4 a5 a6).bind j) (fun a0 a1 a2 a3 a4 a5 a6 a7 a8 => (rec1 a0 a1 a2 a3 a4 a5 a6 a7 a8).bind j) s9 s10 s11 s12 s13 s14 s15 s16 s17 = (f117_1.s1' L N k1_e2 rec1 s9 s10 s11 s12 s13 s14 s15 s16 s17).bind j := by
  unfold f117_1.s1'
  repeat' (first | (with_reducible refine cond_nat ?_ ?_) | (with_reducible refine bind_nat fun _ => ?_) | exact f117_1.j0'_nat .. | rfl)
theorem f117_1.s1_nat {R R' : Type} (j : R → Option R') (L N : Nat) (k1_e2 : LI → LLM → LI → Int → Int → LI → LLM → Option R) (rec1 : LI → LLM → LI → Int → Int → Int → Int → LI → LLM → Option R) (s9 : LI) (s10 : LLM) (s11 : LI) (s12 : Int) (s13 : Int) (s14 : Int) (s15 : Int) (s16 : LI) (s17 : LLM) :
    f117_1.s1 L N (fun a0 a1 a2 a3 a4 a5 a6 => (k1_e2 a0 a1 a2 a3 a4 a5 a6).bind j) (fun a0 a1 a2 a3 a4 a5 a6 a7 a8 => (rec1 a0 a1 a2 a3 a4 a5 a6 a7 a8).bind j) s9 s10 s11 s12 s13 s14 s15 s16 s17 = (f117_1.s1 L N k1_e2 rec1 s9 s10 s11 s12 s13 s14 s15 s16 s17).bind j := by
  unfold f117_1.s1
  exact f117_1.s1'_nat ..
theorem f117_1.l1_nat {R R' : Type} (j : R → Option R') (L N : Nat) (k1_e2 : LI → LLM → LI → Int → Int → LI → LLM → Option R) : ∀ (n : Nat) (s9 : LI) (s10 : LLM) (s11 : LI) (s12 : Int) (s13 : Int) (s14 : Int) (s15 : Int) (s16 : LI) (s17 : LLM),
    f117_1.l1 L N (fun a0 a1 a2 a3 a4 a5 a6 => (k1_e2 a0 a1 a2 a3 a4 a5 a6).bind j) n s9 s10 s11 s12 s13 s14 s15 s16 s17 = (f117_1.l1 L N k1_e2 n s9 s10 s11 s12 s13 s14 s15 s16 s17).bind j := by
  intro n
  induction n with
  | zero => intros; rfl
  | succ n ih =>
    intro s9 s10 s11 s12 s13 s14 s15 s16 s17
    show f117_1.s1 L N (fun a0 a1 a2 a3 a4 a5 a6 => (k1_e2 a0 a1 a2 a3 a4 a5 a6).bind j) (f117_1.l1 L N (fun a0 a1 a2 a3 a4 a5 a6 => (k1_e2 a0 a1 a2 a3 a4 a5 a6).bind j) n) s9 s10 s11 s12 s13 s14 s15 s16 s17 = _
    rw [show f117_1.l1 L N (fun a0 a1 a2 a3 a4 a5 a6 => (k1_e2 a0 a1 a2 a3 a4 a5 a6).bind j) n = (fun s9 s10 s11 s12 s13 s14 s15 s16 s17 => (f117_1.l1 L N k1_e2 n s9 s10 s11 s12 s13 s14 s15 s16 s17).bind j) from funext fun s9 => funext fun s10 => funext fun s11 => funext fun s12 => funext fun s13 => funext fun s14 => funext fun s15 => funext fun s16 => funext fun s17 => ih s9 s10 s11 s12 s13 s14 s15 s16 s17]
    exact f117_1.s1_nat ..
theorem f117_1.p1_e2'_nat {R R' : Type} (j : R → Option R') (L N : Nat) (k0_e0 : LI → Option R) (rec0 : LI → LLM → LI → Int → Int → LI → LLM → Option R) (z18 : LI) (z19 : LLM) (z20 : LI) (z21 : Int) (z22 : Int) (z23 : LI) (z24 : LLM) :
    f117_1.p1_e2' L N (fun a0 => (k0_e0 a0).bind j) (fun a0 a1 a2 a3 a4 a5 a6 => (rec0 a0 a1 a2 a3 a4 a5 a6).bind j) z18 z19 z20 z21 z22 z23 z24 = (f117_1.p1_e2' L N k0_e0 rec0 z18 z19 z20 z21 z22 z23 z24).bind j := by
  unfold f117_1.p1_e2'
  repeat' (first | (with_reducible refine cond_nat ?_ ?_) | (with_reducible refine bind_nat fun _ => ?_) | rfl)
theorem f117_1.p1_e2_nat {R R' : Type} (j : R → Option R') (L N : Nat) (k0_e0 : LI → Option R) (rec0 : LI → LLM → LI → Int → Int → LI → LLM → Option R) (z18 : LI) (z19 : LLM) (z20 : LI) (z21 : Int) (z22 : Int) (z23 : LI) (z24 : LLM) :
    f117_1.p1_e2 L N (fun a0 => (k0_e0 a0).bind j) (fun a0 a1 a2 a3 a4 a5 a6 => (rec0 a0 a1 a2 a3 a4 a5 a6).bind j) z18 z19 z20 z21 z22 z23 z24 = (f117_1.p1_e2 L N k0_e0 rec0 z18 z19 z20 z21 z22 z23 z24).bind j := by
  unfold f117_1.p1_e2
  exact f117_1.p1_e2'_nat ..
theorem f117_1.s0'_nat {R R' : Type} (j : R → Option R') (L N : Nat) (k0_e0 : LI → Option R) (rec0 : LI → LLM → LI → Int → Int → LI → LLM → Option R) (w1 : LI → LLM → LI → Int → Int → Int → Int → LI → LLM → Option R) (s0 : LI) (s1 : LLM) (s2 : LI) (s3 : Int) (s4 : Int) (s5 : LI) (s6 : LLM) :
    f117_1.s0' L N (fun a0 => (k0_e0 a0).bind j) (fun a0 a1 a2 a3 a4 a5 a6 => (rec0 a0 a1 a2 a3 a4 a5 a6).bind j) (fun a0 a1 a2 a3 a4 a5 a6 a7 a8 => (w1 a0 a1 a2 a3 a4 a5 a6 a7 a8).bind j) s0 s1 s2 s3 s4 s5 s6 = (f117_1.s0' L N k0_e0 rec0 w1 s0 s1 s2 s3 s4 s5 s6).bind j := by
  unfold f117_1.s0'
  repeat' (first | (with_reducible refine cond_nat ?_ ?_) | (with_reducible refine bind_nat fun _ => ?_) | rfl)
theorem f117_1.s0_nat {R R' : Type} (j : R → Option R') (L N : Nat) (k0_e0 : LI → Option R) (rec0 : LI → LLM → LI → Int → Int → LI → LLM → Option R) (s0 : LI) (s1 : LLM) (s2 : LI) (s3 : Int) (s4 : Int) (s5 : LI) (s6 : LLM) :
    f117_1.s0 L N (fun a0 => (k0_e0 a0).bind j) (fun a0 a1 a2 a3 a4 a5 a6 => (rec0 a0 a1 a2 a3 a4 a5 a6).bind j) s0 s1 s2 s3 s4 s5 s6 = (f117_1.s0 L N k0_e0 rec0 s0 s1 s2 s3 s4 s5 s6).bind j := by
  unfold f117_1.s0
  simp only [f117_1.l1_nat, f117_1.p1_e2_nat]
  exact f117_1.s0'_nat ..
theorem f117_1.l0_nat {R R' : Type} (j : R → Option R') (L N : Nat) (k0_e0 : LI → Option R) : ∀ (n : Nat) (s0 : LI) (s1 : LLM) (s2 : LI) (s3 : Int) (s4 : Int) (s5 : LI) (s6 : LLM),
    f117_1.l0 L N (fun a0 => (k0_e0 a0).bind j) n s0 s1 s2 s3 s4 s5 s6 = (f117_1.l0 L N k0_e0 n s0 s1 s2 s3 s4 s5 s6).bind j := by
  intro n
  induction n with
  | zero => intros; rfl
  | succ n ih =>
    intro s0 s1 s2 s3 s4 s5 s6
    show f117_1.s0 L N (fun a0 => (k0_e0 a0).bind j) (f117_1.l0 L N (fun a0 => (k0_e0 a0).bind j) n) s0 s1 s2 s3 s4 s5 s6 = _
    rw [show f117_1.l0 L N (fun a0 => (k0_e0 a0).bind j) n = (fun s0 s1 s2 s3 s4 s5 s6 => (f117_1.l0 L N k0_e0 n s0 s1 s2 s3 s4 s5 s6).bind j) from funext fun s0 => funext fun s1 => funext fun s2 => funext fun s3 => funext fun s4 => funext fun s5 => funext fun s6 => ih s0 s1 s2 s3 s4 s5 s6]
    exact f117_1.s0_nat ..
theorem f117_1.p0_e0'_nat {R R' : Type} (j : R → Option R') (L N : Nat) (k : LI → Option R) (z7 : LI) :
    f117_1.p0_e0' L N (fun a0 => (k a0).bind j) z7 = (f117_1.p0_e0' L N k z7).bind j := by
  unfold f117_1.p0_e0'
  repeat' (first | (with_reducible refine cond_nat ?_ ?_) | (with_reducible refine bind_nat fun _ => ?_) | rfl)
theorem f117_1.p0_e0_nat {R R' : Type} (j : R → Option R') (L N : Nat) (k : LI → Option R) (z7 : LI) :
    f117_1.p0_e0 L N (fun a0 => (k a0).bind j) z7 = (f117_1.p0_e0 L N k z7).bind j := by
  unfold f117_1.p0_e0
  exact f117_1.p0_e0'_nat ..
theorem f117_1.b'_nat {R R' : Type} (j : R → Option R') (L N : Nat) (k : LI → Option R) (w0 : LI → LLM → LI → Int → Int → LI → LLM → Option R) (x0 : LI) (x1 : LLM) (x2 : LI) :
    f117_1.b' L N (fun a0 => (k a0).bind j) (fun a0 a1 a2 a3 a4 a5 a6 => (w0 a0 a1 a2 a3 a4 a5 a6).bind j) x0 x1 x2 = (f117_1.b' L N k w0 x0 x1 x2).bind j := by
  unfold f117_1.b'
  repeat' (first | (with_reducible refine cond_nat ?_ ?_) | (with_reducible refine bind_nat fun _ => ?_) | rfl)
theorem f117_1.b_nat {R R' : Type} (j : R → Option R') (L N : Nat) (k : LI → Option R) (x0 : LI) (x1 : LLM) (x2 : LI) :
    f117_1.b L N (fun a0 => (k a0).bind j) x0 x1 x2 = (f117_1.b L N k x0 x1 x2).bind j := by
  unfold f117_1.b
  simp only [f117_1.l0_nat, f117_1.p0_e0_nat]
  exact f117_1.b'_nat ..
theorem f117_1.ok (L N : Nat) (hΦ : TellsOk Try.prog ((Φ118_1 L N))) : EntOkO Try.prog 117 (f117_1.ent L N) := by
  intro args vw site h a ha
  unfold f117_1.ent at ha
  split at ha
  · rename_i d hd
    obtain rfl := Option.some.inj ha
    intro y hy hs
    refine call_ronF (dep := 1000) (E := (E117_1 L N)) (rn := .row) (q := none) (el := 3) (ty := i64) (d1 := ()) (xs := y) (sound_of hΦ) okP (callI_sound (sound_of hΦ) okP 1 2000) (f := Try.f117) rfl hs hd ?_ rfl site
    refine (f117_1.b_eq L N (fun d xs => some (d, xs)) d.1 d.2.1.1.1 d.2.1.2.1).trans ?_
    refine (f117_1.b_nat (fun y => (some ((), y) : Option (RN.Den .row × List Int))) L N some d.1 d.2.1.1.1 d.2.1.2.1).trans ?_
    rw [show f117_1.b L N some d.1 d.2.1.1.1 d.2.1.2.1 = some y from hy]
    rfl
  · cases ha
def Φ117_1 (L N : Nat) : Tells := (addO (Φ118_1 L N) 117 (f117_1.ent L N))
theorem Φ117_1_ok (L N : Nat) : TellsOk Try.prog (Φ117_1 L N) := addO_ok (Φ118_1_ok L N) (f117_1.ok L N (Φ118_1_ok L N))
def f81_1.s0' {R : Type} (L N : Nat) (k0_r : LLI → Option R) (rec0 : LLM → LLI → Option R) (s0 : LLM) (s1 : LLI) : Option R :=
  bif (decide (0 ≤ (wi ((s1.length : Int) - (1 : Int)))) && decide ((wi ((s1.length : Int) - (1 : Int))) < (s1.length : Int))) then
    (f117_1 L N (listAt s1 [] (wi ((s1.length : Int) - (1 : Int))).toNat) s0 (listAt s1 [] (wi ((s1.length : Int) - (1 : Int))).toNat)).bind fun y2 =>
    (f119 L N y2 (listAt s1 [] (wi ((s1.length : Int) - (1 : Int))).toNat)).bind fun y3 =>
    bif y3 then
      k0_r s1
    else bif (decide (s1.length + ([y2] : LLI).length ≤ lim)) then
      rec0 s0 (s1 ++ ([y2] : LLI))
    else none
  else none
def f81_1.s0 {R : Type} (L N : Nat) (k0_r : LLI → Option R) (rec0 : LLM → LLI → Option R) (s0 : LLM) (s1 : LLI) : Option R :=
  f81_1.s0' L N k0_r rec0 s0 s1
def f81_1.l0 {R : Type} (L N : Nat) (k0_r : LLI → Option R) : Nat → LLM → LLI → Option R
  | 0, _, _ => none
  | n + 1, s0, s1 => f81_1.s0 L N k0_r (f81_1.l0 L N k0_r n) s0 s1
def f81_1.T0 (s0 : LLM) (s1 : LLI) : T := mkT 28 [(3, (.ptr 1003 0)), (5, (.row 1010))]
def f81_1.H0 (s0 : LLM) (s1 : LLI) : H := [(1003, (.box [(.fn 145 [(.imp (.sl (.sl (.st 0))) s0 0)])])), (1010, (.row 30 (.sl i64) s1))]
def f81_1.T0_r (z4 : LLI) : T := mkT 28 [(4, (.row 1010))]
def f81_1.H0_r (z4 : LLI) : H := [(1010, (.row 30 (.sl i64) z4))]
def f81_1.p0_r' {R : Type} (L N : Nat) (k : LLI → Option R) (z4 : LLI) : Option R :=
  k z4
def f81_1.p0_r {R : Type} (L N : Nat) (k : LLI → Option R) (z4 : LLI) : Option R :=
  f81_1.p0_r' L N k z4
def f81_1.b' {R : Type} (L N : Nat) (k : LLI → Option R) (w0 : LLM → LLI → Option R) (x0 : Int) (x1 : LLM) : Option R :=
  bif (decide (0 ≤ x0) && decide (x0 ≤ (lim : Int))) then
    w0 x1 ([(List.replicate x0.toNat (0 : Int))] : LLI)
  else none
def f81_1.b {R : Type} (L N : Nat) (k : LLI → Option R) (x0 : Int) (x1 : LLM) : Option R :=
  f81_1.b' L N k (fun s0 s1 => f81_1.l0 L N (fun z4 => f81_1.p0_r L N k z4) L s0 s1) x0 x1
def f81_1 (L N : Nat) (x0 : Int) (x1 : LLM) : Option (LLI) := f81_1.b L N some x0 x1
def f81_1.ent (L N : Nat) (args : List AV) (vw : View) (site : Nat) : Option Ans := match shsC [(.dat i64), (.fn 145 [(.imp (.sl (.sl (.st 0))) 0)])] vw args with
  | some (d, u) => some ⟨LLI, f81_1 L N d.1 d.2.1.1, fun y => ((.tv (.sl (.sl i64)) y), u, [])⟩
  | none => none
noncomputable def E81_1 (L N : Nat) : Env := { P := Try.prog, ty := tyOf, Φ := (Φ117_1 L N), inl := inlT, live := lives, liveX := livesX, L := L, dp := none, prom := promT, heal := healT, ren := renT }
noncomputable def f81_1.c0 : Code := loopAt 0 (codeOf Try.f81)
theorem f81_1.s0_pre {R : Type} (L N : Nat) (κ : Ex → T → H → Option R) (rec : T → H → Option R) (s0 : LLM) (s1 : LLI) :
    evRd (E81_1 L N) (evCallI (E81_1 L N) 1 2000) 1000 81 28 0 f81_1.c0 κ rec (f81_1.T0 s0 s1) (f81_1.H0 s0 s1)
    = f81_1.s0' L N (fun z4 => κ .ret (f81_1.T0_r z4) (f81_1.H0_r z4)) (fun s0 s1 => rec (f81_1.T0 s0 s1) (f81_1.H0 s0 s1)) s0 s1 := by kernel_rfl
theorem f81_1.s0_eq {R : Type} (L N : Nat) (κ : Ex → T → H → Option R) (rec : T → H → Option R) (s0 : LLM) (s1 : LLI) :
    evRd (E81_1 L N) (evCallI (E81_1 L N) 1 2000) 1000 81 28 0 f81_1.c0 κ rec (f81_1.T0 s0 s1) (f81_1.H0 s0 s1)
    = f81_1.s0 L N (fun z4 => κ .ret (f81_1.T0_r z4) (f81_1.H0_r z4)) (fun s0 s1 => rec (f81_1.T0 s0 s1) (f81_1.H0 s0 s1)) s0 s1 := by
  rw [f81_1.s0_pre]
  unfold f81_1.s0
  rfl
theorem f81_1.l0_eq {R : Type} (L N : Nat) (κ : Ex → T → H → Option R) : ∀ (n : Nat) (s0 : LLM) (s1 : LLI),
    evLp (E81_1 L N) (evCallI (E81_1 L N) 1 2000) 1000 81 28 0 f81_1.c0 κ n (f81_1.T0 s0 s1) (f81_1.H0 s0 s1)
    = f81_1.l0 L N (fun z4 => κ .ret (f81_1.T0_r z4) (f81_1.H0_r z4)) n s0 s1 := by
  intro n
  induction n with
  | zero => intros; rfl
  | succ n ih =>
    intro s0 s1
    rw [evLp_succ, f81_1.s0_eq]
    simp only [ih]
    rfl
theorem f81_1.p0_r_pre {R : Type} (L N : Nat) (κ : AV → Option R) (z4 : LLI) :
    (contAt (E81_1 L N) (evCallI (E81_1 L N) 1 2000) 1000 81 28 0 (codeOf Try.f81) (finK (E81_1 L N) 1000 Try.f81 (finC (.one (.sl (.sl i64))) κ))) .ret (f81_1.T0_r z4) (f81_1.H0_r z4)
    = f81_1.p0_r' L N (fun a0 => κ (.tv (.sl (.sl i64)) a0)) z4 := by kernel_rfl
theorem f81_1.p0_r_eq {R : Type} (L N : Nat) (κ : AV → Option R) (z4 : LLI) :
    (contAt (E81_1 L N) (evCallI (E81_1 L N) 1 2000) 1000 81 28 0 (codeOf Try.f81) (finK (E81_1 L N) 1000 Try.f81 (finC (.one (.sl (.sl i64))) κ))) .ret (f81_1.T0_r z4) (f81_1.H0_r z4)
    = f81_1.p0_r L N (fun a0 => κ (.tv (.sl (.sl i64)) a0)) z4 := by
  rw [f81_1.p0_r_pre]
  unfold f81_1.p0_r
  rfl
theorem f81_1.b_pre {R : Type} (L N : Nat) (κ : AV → Option R) (x0 : Int) (x1 : LLM) :
    evBody (E81_1 L N) (evCallI (E81_1 L N) 1 2000) 1000 81 Try.f81 [(.tv i64 x0), (.fn 145 [(.imp (.sl (.sl (.st 0))) x1 0)])] [] [] (finC (.one (.sl (.sl i64))) κ)
    = f81_1.b' L N (fun a0 => κ (.tv (.sl (.sl i64)) a0)) (fun s0 s1 => evLp (E81_1 L N) (evCallI (E81_1 L N) 1 2000) 1000 81 28 0 f81_1.c0 (contAt (E81_1 L N) (evCallI (E81_1 L N) 1 2000) 1000 81 28 0 (codeOf Try.f81) (finK (E81_1 L N) 1000 Try.f81 (finC (.one (.sl (.sl i64))) κ))) L (f81_1.T0 s0 s1) (f81_1.H0 s0 s1)) x0 x1 := by kernel_rfl
theorem f81_1.b_eq {R : Type} (L N : Nat) (κ : AV → Option R) (x0 : Int) (x1 : LLM) :
    evBody (E81_1 L N) (evCallI (E81_1 L N) 1 2000) 1000 81 Try.f81 [(.tv i64 x0), (.fn 145 [(.imp (.sl (.sl (.st 0))) x1 0)])] [] [] (finC (.one (.sl (.sl i64))) κ)
    = f81_1.b L N (fun a0 => κ (.tv (.sl (.sl i64)) a0)) x0 x1 := by
  rw [f81_1.b_pre]
  unfold f81_1.b
  simp only [f81_1.l0_eq, f81_1.p0_r_eq]
theorem f81_1.s0'_nat {R R' : Type} (j : R → Option R') (L N : Nat) (k0_r : LLI → Option R) (rec0 : LLM → LLI → Option R) (s0 : LLM) (s1 : LLI) :
    f81_1.s0' L N (fun a0 => (k0_r a0).bind j) (fun a0 a1 => (rec0 a0 a1).bind j) s0 s1 = (f81_1.s0' L N k0_r rec0 s0 s1).bind j := by
  unfold f81_1.s0'
  repeat' (first | (with_reducible refine cond_nat ?_ ?_) | (with_reducible refine bind_nat fun _ => ?_) | rfl)
theorem f81_1.s0_nat {R R' : Type} (j : R → Option R') (L N : Nat) (k0_r : LLI → Option R) (rec0 : LLM → LLI → Option R) (s0 : LLM) (s1 : LLI) :
    f81_1.s0 L N (fun a0 => (k0_r a0).bind j) (fun a0 a1 => (rec0 a0 a1).bind j) s0 s1 = (f81_1.s0 L N k0_r rec0 s0 s1).bind j := by
  unfold f81_1.s0
  exact f81_1.s0'_nat ..
theorem f81_1.l0_nat {R R' : Type} (j : R → Option R') (L N : Nat) (k0_r : LLI → Option R) : ∀ (n : Nat) (s0 : LLM) (s1 : LLI),
    f81_1.l0 L N (fun a0 => (k0_r a0).bind j) n s0 s1 = (f81_1.l0 L N k0_r n s0 s1).bind j := by
  intro n
  induction n with
  | zero => intros; rfl
  | succ n ih =>
    intro s0 s1
    show f81_1.s0 L N (fun a0 => (k0_r a0).bind j) (f81_1.l0 L N (fun a0 => (k0_r a0).bind j) n) s0 s1 = _
    rw [show f81_1.l0 L N (fun a0 => (k0_r a0).bind j) n = (fun s0 s1 => (f81_1.l0 L N k0_r n s0 s1).bind j) from funext fun s0 => funext fun s1 => ih s0 s1]
    exact f81_1.s0_nat ..
theorem f81_1.p0_r'_nat {R R' : Type} (j : R → Option R') (L N : Nat) (k : LLI → Option R) (z4 : LLI) :
    f81_1.p0_r' L N (fun a0 => (k a0).bind j) z4 = (f81_1.p0_r' L N k z4).bind j := by
  unfold f81_1.p0_r'
  repeat' (first | (with_reducible refine cond_nat ?_ ?_) | (with_reducible refine bind_nat fun _ => ?_) | rfl)
theorem f81_1.p0_r_nat {R R' : Type} (j : R → Option R') (L N : Nat) (k : LLI → Option R) (z4 : LLI) :
    f81_1.p0_r L N (fun a0 => (k a0).bind j) z4 = (f81_1.p0_r L N k z4).bind j := by
  unfold f81_1.p0_r
  exact f81_1.p0_r'_nat ..
theorem f81_1.b'_nat {R R' : Type} (j : R → Option R') (L N : Nat) (k : LLI → Option R) (w0 : LLM → LLI → Option R) (x0 : Int) (x1 : LLM) :
    f81_1.b' L N (fun a0 => (k a0).bind j) (fun a0 a1 => (w0 a0 a1).bind j) x0 x1 = (f81_1.b' L N k w0 x0 x1).bind j := by
  unfold f81_1.b'
  repeat' (first | (with_reducible refine cond_nat ?_ ?_) | (with_reducible refine bind_nat fun _ => ?_) | rfl)
theorem f81_1.b_nat {R R' : Type} (j : R → Option R') (L N : Nat) (k : LLI → Option R) (x0 : Int) (x1 : LLM) :
    f81_1.b L N (fun a0 => (k a0).bind j) x0 x1 = (f81_1.b L N k x0 x1).bind j := by
  unfold f81_1.b
  simp only [f81_1.l0_nat, f81_1.p0_r_nat]
  exact f81_1.b'_nat ..
theorem f81_1.ok (L N : Nat) (hΦ : TellsOk Try.prog ((Φ117_1 L N))) : EntOkO Try.prog 81 (f81_1.ent L N) := by
  intro args vw site h a ha
  unfold f81_1.ent at ha
  split at ha
  · rename_i d u hd
    obtain rfl := Option.some.inj ha
    intro y hy hs
    refine call_dof (dep := 1000) (E := (E81_1 L N)) (rs := (.one (.sl (.sl i64)))) (v' := (.tv (.sl (.sl i64)) y)) (sound_of hΦ) okP (callI_sound (sound_of hΦ) okP 1 2000) (f := Try.f81) rfl hs hd ?_ site
    refine (f81_1.b_eq L N some d.1 d.2.1.1).trans ?_
    refine (f81_1.b_nat (fun y => (some (.tv (.sl (.sl i64)) y) : Option AV)) L N some d.1 d.2.1.1).trans ?_
    rw [show f81_1.b L N some d.1 d.2.1.1 = some y from hy]
    rfl
  · cases ha
def Φ81_1 (L N : Nat) : Tells := (addO (Φ117_1 L N) 81 (f81_1.ent L N))
theorem Φ81_1_ok (L N : Nat) : TellsOk Try.prog (Φ81_1 L N) := addO_ok (Φ117_1_ok L N) (f81_1.ok L N (Φ117_1_ok L N))
def f121.b' {R : Type} (L N : Nat) (k : LLI → Option R) (x0 : Graph) : Option R :=
  (f81_1 L N (x0.moves.length : Int) x0.moves).bind fun y0 =>
  k y0
def f121.b {R : Type} (L N : Nat) (k : LLI → Option R) (x0 : Graph) : Option R :=
  f121.b' L N k x0
def f121 (L N : Nat) (x0 : Graph) : Option (LLI) := f121.b L N some x0
def f121.ent (L N : Nat) (args : List AV) (vw : View) (site : Nat) : Ans := match coeD [(.st 2)] vw args with
  | some (d, u) => ⟨LLI, f121 L N d.1, fun y => ((.tv (.sl (.sl i64)) y), u, [])⟩
  | none => Ans.no
noncomputable def E121 (L N : Nat) : Env := { P := Try.prog, ty := tyOf, Φ := (Φ81_1 L N), inl := inlT, live := lives, liveX := livesX, L := L, dp := none, prom := promT, heal := healT, ren := renT }
theorem f121.b_pre {R : Type} (L N : Nat) (κ : AV → Option R) (x0 : Graph) :
    evBody (E121 L N) (evCallI (E121 L N) 1 2000) 1000 121 Try.f121 [(.tv (.st 2) x0)] [] [] (finC (.one (.sl (.sl i64))) κ)
    = f121.b' L N (fun a0 => κ (.tv (.sl (.sl i64)) a0)) x0 := by kernel_rfl
theorem f121.b_eq {R : Type} (L N : Nat) (κ : AV → Option R) (x0 : Graph) :
    evBody (E121 L N) (evCallI (E121 L N) 1 2000) 1000 121 Try.f121 [(.tv (.st 2) x0)] [] [] (finC (.one (.sl (.sl i64))) κ)
    = f121.b L N (fun a0 => κ (.tv (.sl (.sl i64)) a0)) x0 := by
  rw [f121.b_pre]
  unfold f121.b
  rfl
theorem f121.b'_nat {R R' : Type} (j : R → Option R') (L N : Nat) (k : LLI → Option R) (x0 : Graph) :
    f121.b' L N (fun a0 => (k a0).bind j) x0 = (f121.b' L N k x0).bind j := by
  unfold f121.b'
  repeat' (first | (with_reducible refine cond_nat ?_ ?_) | (with_reducible refine bind_nat fun _ => ?_) | rfl)
theorem f121.b_nat {R R' : Type} (j : R → Option R') (L N : Nat) (k : LLI → Option R) (x0 : Graph) :
    f121.b L N (fun a0 => (k a0).bind j) x0 = (f121.b L N k x0).bind j := by
  unfold f121.b
  exact f121.b'_nat ..
theorem f121.ok (L N : Nat) (hΦ : TellsOk Try.prog ((Φ81_1 L N))) : EntOk Try.prog 121 (f121.ent L N) := by
  intro args vw site h
  unfold f121.ent
  split
  · rename_i d u ha
    intro y hy hs
    refine call_data (dep := 1000) (E := (E121 L N)) (rs := (.one (.sl (.sl i64)))) (v' := (.tv (.sl (.sl i64)) y)) (sound_of hΦ) okP (callI_sound (sound_of hΦ) okP 1 2000) (f := Try.f121) rfl hs ha ?_ site
    refine (f121.b_eq L N some d.1).trans ?_
    refine ((f121.b_nat (fun y => (some (.tv (.sl (.sl i64)) y) : Option AV)) L N some d.1)).trans ?_
    rw [show f121.b L N some d.1 = some y from hy]
    rfl
  · intro y hy
    cases hy
def Φ121 (L N : Nat) : Tells := (addT (Φ81_1 L N) 121 (f121.ent L N))
theorem Φ121_ok (L N : Nat) : TellsOk Try.prog (Φ121 L N) := addT_ok (Φ81_1_ok L N) (f121.ok L N (Φ81_1_ok L N))
def f86.b' {R : Type} (L N : Nat) (k : LI → Option R) (x0 : Graph) : Option R :=
  (f121 L N (Graph.mk x0.moves)).bind fun y0 =>
  bif (decide (0 ≤ (wi ((y0.length : Int) - (1 : Int)))) && decide ((wi ((y0.length : Int) - (1 : Int))) < (y0.length : Int))) then
    ((fclone (listAt y0 [] (wi ((y0.length : Int) - (1 : Int))).toNat))).bind fun y1 =>
    k (listAt y0 [] (wi ((y0.length : Int) - (1 : Int))).toNat)
  else none
def f86.b {R : Type} (L N : Nat) (k : LI → Option R) (x0 : Graph) : Option R :=
  f86.b' L N k x0
def f86 (L N : Nat) (x0 : Graph) : Option (LI) := f86.b L N some x0
def f86.ent (L N : Nat) (args : List AV) (vw : View) (site : Nat) : Ans := match roD [(.st 2)] vw args with
  | some d => ⟨LI, f86 L N d.1, fun y => (RN.av site .row (), [(site, some (mkO none 3 i64 y))], [])⟩
  | none => Ans.no
noncomputable def E86 (L N : Nat) : Env := { P := Try.prog, ty := tyOf, Φ := (Φ121 L N), inl := inlT, live := lives, liveX := livesX, L := L, dp := none, prom := promT, heal := healT, ren := renT }
theorem f86.b_pre {R : Type} (L N : Nat) (κ : RN.Den .row → List Int → Option R) (x0 : Graph) :
    evBody (E86 L N) (evCallI (E86 L N) 1 2000) 1000 86 Try.f86 [(.tv (.st 2) x0)] [] [] (finN .row none 3 i64 κ)
    = f86.b' L N (fun a0 => κ () a0) x0 := by kernel_rfl
theorem f86.b_eq {R : Type} (L N : Nat) (κ : RN.Den .row → List Int → Option R) (x0 : Graph) :
    evBody (E86 L N) (evCallI (E86 L N) 1 2000) 1000 86 Try.f86 [(.tv (.st 2) x0)] [] [] (finN .row none 3 i64 κ)
    = f86.b L N (fun a0 => κ () a0) x0 := by
  rw [f86.b_pre]
  unfold f86.b
  rfl
theorem f86.b'_nat {R R' : Type} (j : R → Option R') (L N : Nat) (k : LI → Option R) (x0 : Graph) :
    f86.b' L N (fun a0 => (k a0).bind j) x0 = (f86.b' L N k x0).bind j := by
  unfold f86.b'
  repeat' (first | (with_reducible refine cond_nat ?_ ?_) | (with_reducible refine bind_nat fun _ => ?_) | rfl)
theorem f86.b_nat {R R' : Type} (j : R → Option R') (L N : Nat) (k : LI → Option R) (x0 : Graph) :
    f86.b L N (fun a0 => (k a0).bind j) x0 = (f86.b L N k x0).bind j := by
  unfold f86.b
  exact f86.b'_nat ..
theorem f86.ok (L N : Nat) (hΦ : TellsOk Try.prog ((Φ121 L N))) : EntOk Try.prog 86 (f86.ent L N) := by
  intro args vw site h
  unfold f86.ent
  split
  · rename_i d ha
    intro y hy hs
    refine call_ron (dep := 1000) (E := (E86 L N)) (ts := [(.st 2)]) (rn := .row) (q := none) (el := 3) (ty := i64) (d1 := ()) (xs := y) (sound_of hΦ) okP (callI_sound (sound_of hΦ) okP 1 2000) (f := Try.f86) rfl hs ha ?_ rfl site
    refine (f86.b_eq L N (fun d xs => some (d, xs)) d.1).trans ?_
    refine ((f86.b_nat (fun y => (some ((), y) : Option (RN.Den .row × List Int))) L N some d.1)).trans ?_
    rw [show f86.b L N some d.1 = some y from hy]
    rfl
  · intro y hy
    cases hy
def Φ86 (L N : Nat) : Tells := (addT (Φ121 L N) 86 (f86.ent L N))
theorem Φ86_ok (L N : Nat) : TellsOk Try.prog (Φ86 L N) := addT_ok (Φ121_ok L N) (f86.ok L N (Φ121_ok L N))
def f112.s0' {R : Type} (L N : Nat) (k0_e0 : LLM → LB → LI → Option R) (rec0 : LI → Int → Int → LLM → LB → LI → Option R) (s0 : LI) (s1 : Int) (s2 : Int) (s3 : LLM) (s4 : LB) (s5 : LI) : Option R :=
  bif (decide (s2 < s1)) then
    bif (decide (0 ≤ s2) && decide (s2 < (s0.length : Int))) then
      bif (decide (0 ≤ (listAt s0 (0 : Int) s2.toNat)) && decide ((listAt s0 (0 : Int) s2.toNat) < (s4.length : Int))) then
        bif (!(listAt s4 false (listAt s0 (0 : Int) s2.toNat).toNat)) then
          bif (decide (0 ≤ (listAt s0 (0 : Int) s2.toNat)) && decide ((listAt s0 (0 : Int) s2.toNat) < (s4.length : Int))) then
            bif (decide (s5.length + ([(listAt s0 (0 : Int) s2.toNat)] : LI).length ≤ lim)) then
              rec0 s0 s1 (wi (s2 + (1 : Int))) s3 (s4.set ((listAt s0 (0 : Int) s2.toNat).toNat) true) (s5 ++ ([(listAt s0 (0 : Int) s2.toNat)] : LI))
            else none
          else none
        else rec0 s0 s1 (wi (s2 + (1 : Int))) s3 s4 s5
      else none
    else none
  else k0_e0 s3 s4 s5
def f112.s0 {R : Type} (L N : Nat) (k0_e0 : LLM → LB → LI → Option R) (rec0 : LI → Int → Int → LLM → LB → LI → Option R) (s0 : LI) (s1 : Int) (s2 : Int) (s3 : LLM) (s4 : LB) (s5 : LI) : Option R :=
  f112.s0' L N k0_e0 rec0 s0 s1 s2 s3 s4 s5
def f112.l0 {R : Type} (L N : Nat) (k0_e0 : LLM → LB → LI → Option R) : Nat → LI → Int → Int → LLM → LB → LI → Option R
  | 0, _, _, _, _, _, _ => none
  | n + 1, s0, s1, s2, s3, s4, s5 => f112.s0 L N k0_e0 (f112.l0 L N k0_e0 n) s0 s1 s2 s3 s4 s5
def f112.T0 (s0 : LI) (s1 : Int) (s2 : Int) (s3 : LLM) (s4 : LB) (s5 : LI) : T := mkT 79 [(2, (.ptr 1002 0)), (5, (.row 1015)), (6, (.row 1016)), (17, (.tv (.sl i64) s0)), (18, (.tv i64 s1)), (19, (.tv i64 s2))]
def f112.H0 (s0 : LI) (s1 : Int) (s2 : Int) (s3 : LLM) (s4 : LB) (s5 : LI) : H := [(1002, (.box [(.tv (.sl (.sl (.st 0))) s3)])), (1015, (.row 4 .bool s4)), (1016, (.row 3 i64 s5))]
def f112.T0_e0 (z6 : LLM) (z7 : LB) (z8 : LI) : T := mkT 79 [(2, (.ptr 1002 0)), (5, (.row 1015)), (6, (.row 1016))]
def f112.H0_e0 (z6 : LLM) (z7 : LB) (z8 : LI) : H := [(1002, (.box [(.tv (.sl (.sl (.st 0))) z6)])), (1015, (.row 4 .bool z7)), (1016, (.row 3 i64 z8))]
def f112.j0' {R : Type} (L N : Nat) (k2_e4 : Int → LLM → LB → LI → Option R) (rec2 : Int → LM → Int → Int → LLM → LB → LI → Option R) (v31 : Int) (v32 : LM) (v33 : Int) (v34 : Int) (v35 : Bool) (v36 : LLM) (v37 : Int) (v38 : Int) (v39 : LB) (v40 : LI) : Option R :=
  bif v35 then
    bif (decide (0 ≤ v38) && decide (v38 < (v39.length : Int))) then
      bif (decide (v40.length + ([v38] : LI).length ≤ lim)) then
        rec2 v31 v32 v33 (wi (v34 + (1 : Int))) v36 (v39.set v38.toNat true) (v40 ++ ([v38] : LI))
      else none
    else none
  else rec2 v31 v32 v33 (wi (v34 + (1 : Int))) v36 v39 v40
def f112.s2' {R : Type} (L N : Nat) (k2_e4 : Int → LLM → LB → LI → Option R) (rec2 : Int → LM → Int → Int → LLM → LB → LI → Option R) (s20 : Int) (s21 : LM) (s22 : Int) (s23 : Int) (s24 : LLM) (s25 : LB) (s26 : LI) : Option R :=
  bif (decide (s23 < s22)) then
    bif (decide (0 ≤ s23) && decide (s23 < (s21.length : Int))) then
      bif ((listAt s21 (Ty.dflt (.st 0)) s23.toNat).act == (0 : Int)) then
        bif (decide (0 ≤ (listAt s21 (Ty.dflt (.st 0)) s23.toNat).to) && decide ((listAt s21 (Ty.dflt (.st 0)) s23.toNat).to < (s25.length : Int))) then
          f112.j0' L N k2_e4 rec2 s20 s21 s22 s23 (!(listAt s25 false ((listAt s21 (Ty.dflt (.st 0)) s23.toNat).to).toNat)) s24 ((listAt s21 (Ty.dflt (.st 0)) s23.toNat).act) ((listAt s21 (Ty.dflt (.st 0)) s23.toNat).to) s25 s26
        else none
      else f112.j0' L N k2_e4 rec2 s20 s21 s22 s23 false s24 ((listAt s21 (Ty.dflt (.st 0)) s23.toNat).act) ((listAt s21 (Ty.dflt (.st 0)) s23.toNat).to) s25 s26
    else none
  else k2_e4 s20 s24 s25 s26
def f112.s2 {R : Type} (L N : Nat) (k2_e4 : Int → LLM → LB → LI → Option R) (rec2 : Int → LM → Int → Int → LLM → LB → LI → Option R) (s20 : Int) (s21 : LM) (s22 : Int) (s23 : Int) (s24 : LLM) (s25 : LB) (s26 : LI) : Option R :=
  f112.s2' L N k2_e4 rec2 s20 s21 s22 s23 s24 s25 s26
def f112.l2 {R : Type} (L N : Nat) (k2_e4 : Int → LLM → LB → LI → Option R) : Nat → Int → LM → Int → Int → LLM → LB → LI → Option R
  | 0, _, _, _, _, _, _, _ => none
  | n + 1, s20, s21, s22, s23, s24, s25, s26 => f112.s2 L N k2_e4 (f112.l2 L N k2_e4 n) s20 s21 s22 s23 s24 s25 s26
def f112.T2 (s20 : Int) (s21 : LM) (s22 : Int) (s23 : Int) (s24 : LLM) (s25 : LB) (s26 : LI) : T := mkT 79 [(2, (.ptr 1002 0)), (5, (.row 1015)), (6, (.row 1016)), (9, (.tv i64 s20)), (49, (.tv (.sl (.st 0)) s21)), (50, (.tv i64 s22)), (51, (.tv i64 s23))]
def f112.H2 (s20 : Int) (s21 : LM) (s22 : Int) (s23 : Int) (s24 : LLM) (s25 : LB) (s26 : LI) : H := [(1002, (.box [(.tv (.sl (.sl (.st 0))) s24)])), (1015, (.row 4 .bool s25)), (1016, (.row 3 i64 s26))]
def f112.T2_e4 (z27 : Int) (z28 : LLM) (z29 : LB) (z30 : LI) : T := mkT 79 [(2, (.ptr 1002 0)), (5, (.row 1015)), (6, (.row 1016)), (9, (.tv i64 z27))]
def f112.H2_e4 (z27 : Int) (z28 : LLM) (z29 : LB) (z30 : LI) : H := [(1002, (.box [(.tv (.sl (.sl (.st 0))) z28)])), (1015, (.row 4 .bool z29)), (1016, (.row 3 i64 z30))]
def f112.p2_e4' {R : Type} (L N : Nat) (k1_e2 : LI → Option R) (rec1 : Int → LLM → LB → LI → Option R) (z27 : Int) (z28 : LLM) (z29 : LB) (z30 : LI) : Option R :=
  rec1 (wi (z27 + (1 : Int))) z28 z29 z30
def f112.p2_e4 {R : Type} (L N : Nat) (k1_e2 : LI → Option R) (rec1 : Int → LLM → LB → LI → Option R) (z27 : Int) (z28 : LLM) (z29 : LB) (z30 : LI) : Option R :=
  f112.p2_e4' L N k1_e2 rec1 z27 z28 z29 z30
def f112.s1' {R : Type} (L N : Nat) (k1_e2 : LI → Option R) (rec1 : Int → LLM → LB → LI → Option R) (w2 : Int → LM → Int → Int → LLM → LB → LI → Option R) (s15 : Int) (s16 : LLM) (s17 : LB) (s18 : LI) : Option R :=
  bif (decide (s15 < (s18.length : Int))) then
    bif (decide (0 ≤ s15) && decide (s15 < (s18.length : Int))) then
      bif (decide (0 ≤ (listAt s18 (0 : Int) s15.toNat)) && decide ((listAt s18 (0 : Int) s15.toNat) < (s16.length : Int))) then
        w2 s15 (listAt s16 [] (listAt s18 (0 : Int) s15.toNat).toNat) ((listAt s16 [] (listAt s18 (0 : Int) s15.toNat).toNat).length : Int) (0 : Int) s16 s17 s18
      else none
    else none
  else k1_e2 s18
def f112.s1 {R : Type} (L N : Nat) (k1_e2 : LI → Option R) (rec1 : Int → LLM → LB → LI → Option R) (s15 : Int) (s16 : LLM) (s17 : LB) (s18 : LI) : Option R :=
  f112.s1' L N k1_e2 rec1 (fun s20 s21 s22 s23 s24 s25 s26 => f112.l2 L N (fun z27 z28 z29 z30 => f112.p2_e4 L N k1_e2 rec1 z27 z28 z29 z30) L s20 s21 s22 s23 s24 s25 s26) s15 s16 s17 s18
def f112.l1 {R : Type} (L N : Nat) (k1_e2 : LI → Option R) : Nat → Int → LLM → LB → LI → Option R
  | 0, _, _, _, _ => none
  | n + 1, s15, s16, s17, s18 => f112.s1 L N k1_e2 (f112.l1 L N k1_e2 n) s15 s16 s17 s18
def f112.T1 (s15 : Int) (s16 : LLM) (s17 : LB) (s18 : LI) : T := mkT 79 [(2, (.ptr 1002 0)), (5, (.row 1015)), (6, (.row 1016)), (9, (.tv i64 s15))]
def f112.H1 (s15 : Int) (s16 : LLM) (s17 : LB) (s18 : LI) : H := [(1002, (.box [(.tv (.sl (.sl (.st 0))) s16)])), (1015, (.row 4 .bool s17)), (1016, (.row 3 i64 s18))]
def f112.T1_e2 (z19 : LI) : T := mkT 79 [(6, (.row 1016))]
def f112.H1_e2 (z19 : LI) : H := [(1016, (.row 3 i64 z19))]
def f112.p1_e2' {R : Type} (L N : Nat) (k : LI → Option R) (z19 : LI) : Option R :=
  ((fsort z19)).bind fun y48 =>
  k (sortI z19)
def f112.p1_e2 {R : Type} (L N : Nat) (k : LI → Option R) (z19 : LI) : Option R :=
  f112.p1_e2' L N k z19
def f112.p0_e0' {R : Type} (L N : Nat) (k : LI → Option R) (w1 : Int → LLM → LB → LI → Option R) (z6 : LLM) (z7 : LB) (z8 : LI) : Option R :=
  w1 (0 : Int) z6 z7 z8
def f112.p0_e0 {R : Type} (L N : Nat) (k : LI → Option R) (z6 : LLM) (z7 : LB) (z8 : LI) : Option R :=
  f112.p0_e0' L N k (fun s15 s16 s17 s18 => f112.l1 L N (fun z19 => f112.p1_e2 L N k z19) L s15 s16 s17 s18) z6 z7 z8
def f112.b' {R : Type} (L N : Nat) (k : LI → Option R) (w0 : LI → Int → Int → LLM → LB → LI → Option R) (x0 : Graph) (x1 : LI) : Option R :=
  bif (decide (0 ≤ (x0.moves.length : Int)) && decide ((x0.moves.length : Int) ≤ (lim : Int))) then
    w0 x1 (x1.length : Int) (0 : Int) x0.moves (List.replicate (x0.moves.length : Int).toNat false) ([] : LI)
  else none
def f112.b {R : Type} (L N : Nat) (k : LI → Option R) (x0 : Graph) (x1 : LI) : Option R :=
  f112.b' L N k (fun s0 s1 s2 s3 s4 s5 => f112.l0 L N (fun z6 z7 z8 => f112.p0_e0 L N k z6 z7 z8) L s0 s1 s2 s3 s4 s5) x0 x1
def f112 (L N : Nat) (x0 : Graph) (x1 : LI) : Option (LI) := f112.b L N some x0 x1
def f112.ent (L N : Nat) (args : List AV) (vw : View) (site : Nat) : Ans := match roD [(.st 2), (.sl i64)] vw args with
  | some d => ⟨LI, f112 L N d.1 d.2.1, fun y => (RN.av site .row (), [(site, some (mkO none 3 i64 y))], [])⟩
  | none => Ans.no
noncomputable def E112 (L N : Nat) : Env := { P := Try.prog, ty := tyOf, Φ := (Φ86 L N), inl := inlT, live := lives, liveX := livesX, L := L, dp := none, prom := promT, heal := healT, ren := renT }
noncomputable def f112.c0 : Code := loopAt 0 (codeOf Try.f112)
theorem f112.s0_pre {R : Type} (L N : Nat) (κ : Ex → T → H → Option R) (rec : T → H → Option R) (s0 : LI) (s1 : Int) (s2 : Int) (s3 : LLM) (s4 : LB) (s5 : LI) :
    evRd (E112 L N) (evCallI (E112 L N) 1 2000) 1000 112 79 0 f112.c0 κ rec (f112.T0 s0 s1 s2 s3 s4 s5) (f112.H0 s0 s1 s2 s3 s4 s5)
    = f112.s0' L N (fun z6 z7 z8 => κ (.exit 0) (f112.T0_e0 z6 z7 z8) (f112.H0_e0 z6 z7 z8)) (fun s0 s1 s2 s3 s4 s5 => rec (f112.T0 s0 s1 s2 s3 s4 s5) (f112.H0 s0 s1 s2 s3 s4 s5)) s0 s1 s2 s3 s4 s5 := by kernel_rfl
theorem f112.s0_eq {R : Type} (L N : Nat) (κ : Ex → T → H → Option R) (rec : T → H → Option R) (s0 : LI) (s1 : Int) (s2 : Int) (s3 : LLM) (s4 : LB) (s5 : LI) :
    evRd (E112 L N) (evCallI (E112 L N) 1 2000) 1000 112 79 0 f112.c0 κ rec (f112.T0 s0 s1 s2 s3 s4 s5) (f112.H0 s0 s1 s2 s3 s4 s5)
    = f112.s0 L N (fun z6 z7 z8 => κ (.exit 0) (f112.T0_e0 z6 z7 z8) (f112.H0_e0 z6 z7 z8)) (fun s0 s1 s2 s3 s4 s5 => rec (f112.T0 s0 s1 s2 s3 s4 s5) (f112.H0 s0 s1 s2 s3 s4 s5)) s0 s1 s2 s3 s4 s5 := by
  rw [f112.s0_pre]
  unfold f112.s0
  rfl
theorem f112.l0_eq {R : Type} (L N : Nat) (κ : Ex → T → H → Option R) : ∀ (n : Nat) (s0 : LI) (s1 : Int) (s2 : Int) (s3 : LLM) (s4 : LB) (s5 : LI),
    evLp (E112 L N) (evCallI (E112 L N) 1 2000) 1000 112 79 0 f112.c0 κ n (f112.T0 s0 s1 s2 s3 s4 s5) (f112.H0 s0 s1 s2 s3 s4 s5)
    = f112.l0 L N (fun z6 z7 z8 => κ (.exit 0) (f112.T0_e0 z6 z7 z8) (f112.H0_e0 z6 z7 z8)) n s0 s1 s2 s3 s4 s5 := by
  intro n
  induction n with
  | zero => intros; rfl
  | succ n ih =>
    intro s0 s1 s2 s3 s4 s5
    rw [evLp_succ, f112.s0_eq]
    simp only [ih]
    rfl
noncomputable def f112.c1 : Code := loopAt 2 (codeOf Try.f112)
noncomputable def f112.c2 : Code := loopAt 4 f112.c1
theorem f112.s2_pre {R : Type} (L N : Nat) (κ : Ex → T → H → Option R) (rec : T → H → Option R) (s20 : Int) (s21 : LM) (s22 : Int) (s23 : Int) (s24 : LLM) (s25 : LB) (s26 : LI) :
    evRd (E112 L N) (evCallI (E112 L N) 1 2000) 1000 112 79 4 f112.c2 κ rec (f112.T2 s20 s21 s22 s23 s24 s25 s26) (f112.H2 s20 s21 s22 s23 s24 s25 s26)
    = f112.s2' L N (fun z27 z28 z29 z30 => κ (.exit 4) (f112.T2_e4 z27 z28 z29 z30) (f112.H2_e4 z27 z28 z29 z30)) (fun s20 s21 s22 s23 s24 s25 s26 => rec (f112.T2 s20 s21 s22 s23 s24 s25 s26) (f112.H2 s20 s21 s22 s23 s24 s25 s26)) s20 s21 s22 s23 s24 s25 s26 := by kernel_rfl
theorem f112.s2_eq {R : Type} (L N : Nat) (κ : Ex → T → H → Option R) (rec : T → H → Option R) (s20 : Int) (s21 : LM) (s22 : Int) (s23 : Int) (s24 : LLM) (s25 : LB) (s26 : LI) :
    evRd (E112 L N) (evCallI (E112 L N) 1 2000) 1000 112 79 4 f112.c2 κ rec (f112.T2 s20 s21 s22 s23 s24 s25 s26) (f112.H2 s20 s21 s22 s23 s24 s25 s26)
    = f112.s2 L N (fun z27 z28 z29 z30 => κ (.exit 4) (f112.T2_e4 z27 z28 z29 z30) (f112.H2_e4 z27 z28 z29 z30)) (fun s20 s21 s22 s23 s24 s25 s26 => rec (f112.T2 s20 s21 s22 s23 s24 s25 s26) (f112.H2 s20 s21 s22 s23 s24 s25 s26)) s20 s21 s22 s23 s24 s25 s26 := by
  rw [f112.s2_pre]
  unfold f112.s2
  rfl
theorem f112.l2_eq {R : Type} (L N : Nat) (κ : Ex → T → H → Option R) : ∀ (n : Nat) (s20 : Int) (s21 : LM) (s22 : Int) (s23 : Int) (s24 : LLM) (s25 : LB) (s26 : LI),
    evLp (E112 L N) (evCallI (E112 L N) 1 2000) 1000 112 79 4 f112.c2 κ n (f112.T2 s20 s21 s22 s23 s24 s25 s26) (f112.H2 s20 s21 s22 s23 s24 s25 s26)
    = f112.l2 L N (fun z27 z28 z29 z30 => κ (.exit 4) (f112.T2_e4 z27 z28 z29 z30) (f112.H2_e4 z27 z28 z29 z30)) n s20 s21 s22 s23 s24 s25 s26 := by
  intro n
  induction n with
  | zero => intros; rfl
  | succ n ih =>
    intro s20 s21 s22 s23 s24 s25 s26
    rw [evLp_succ, f112.s2_eq]
    simp only [ih]
    rfl
theorem f112.p2_e4_pre {R : Type} (L N : Nat) (κ : Ex → T → H → Option R) (rec : T → H → Option R) (z27 : Int) (z28 : LLM) (z29 : LB) (z30 : LI) :
    (contAt (E112 L N) (evCallI (E112 L N) 1 2000) 1000 112 79 4 f112.c1 (stepK (outK (keepT 79 ((E112 L N).liveX 112 2).1) (keepH 1000 ((E112 L N).liveX 112 2).2) κ) fun t h => rec (backK 1000 79 ((E112 L N).live 112 2).1 ((E112 L N).live 112 2).2 ((E112 L N).heal 112 2) ((E112 L N).ren 112 2) t h).1 (backK 1000 79 ((E112 L N).live 112 2).1 ((E112 L N).live 112 2).2 ((E112 L N).heal 112 2) ((E112 L N).ren 112 2) t h).2)) (.exit 4) (f112.T2_e4 z27 z28 z29 z30) (f112.H2_e4 z27 z28 z29 z30)
    = f112.p2_e4' L N (fun z19 => κ (.exit 2) (f112.T1_e2 z19) (f112.H1_e2 z19)) (fun s15 s16 s17 s18 => rec (f112.T1 s15 s16 s17 s18) (f112.H1 s15 s16 s17 s18)) z27 z28 z29 z30 := by kernel_rfl
theorem f112.p2_e4_eq {R : Type} (L N : Nat) (κ : Ex → T → H → Option R) (rec : T → H → Option R) (z27 : Int) (z28 : LLM) (z29 : LB) (z30 : LI) :
    (contAt (E112 L N) (evCallI (E112 L N) 1 2000) 1000 112 79 4 f112.c1 (stepK (outK (keepT 79 ((E112 L N).liveX 112 2).1) (keepH 1000 ((E112 L N).liveX 112 2).2) κ) fun t h => rec (backK 1000 79 ((E112 L N).live 112 2).1 ((E112 L N).live 112 2).2 ((E112 L N).heal 112 2) ((E112 L N).ren 112 2) t h).1 (backK 1000 79 ((E112 L N).live 112 2).1 ((E112 L N).live 112 2).2 ((E112 L N).heal 112 2) ((E112 L N).ren 112 2) t h).2)) (.exit 4) (f112.T2_e4 z27 z28 z29 z30) (f112.H2_e4 z27 z28 z29 z30)
    = f112.p2_e4 L N (fun z19 => κ (.exit 2) (f112.T1_e2 z19) (f112.H1_e2 z19)) (fun s15 s16 s17 s18 => rec (f112.T1 s15 s16 s17 s18) (f112.H1 s15 s16 s17 s18)) z27 z28 z29 z30 := by
  rw [f112.p2_e4_pre]
  unfold f112.p2_e4
  rfl
theorem f112.s1_pre {R : Type} (L N : Nat) (κ : Ex → T → H → Option R) (rec : T → H → Option R) (s15 : Int) (s16 : LLM) (s17 : LB) (s18 : LI) :
    evRd (E112 L N) (evCallI (E112 L N) 1 2000) 1000 112 79 2 f112.c1 κ rec (f112.T1 s15 s16 s17 s18) (f112.H1 s15 s16 s17 s18)
    = f112.s1' L N (fun z19 => κ (.exit 2) (f112.T1_e2 z19) (f112.H1_e2 z19)) (fun s15 s16 s17 s18 => rec (f112.T1 s15 s16 s17 s18) (f112.H1 s15 s16 s17 s18)) (fun s20 s21 s22 s23 s24 s25 s26 => evLp (E112 L N) (evCallI (E112 L N) 1 2000) 1000 112 79 4 f112.c2 (contAt (E112 L N) (evCallI (E112 L N) 1 2000) 1000 112 79 4 f112.c1 (stepK (outK (keepT 79 ((E112 L N).liveX 112 2).1) (keepH 1000 ((E112 L N).liveX 112 2).2) κ) fun t h => rec (backK 1000 79 ((E112 L N).live 112 2).1 ((E112 L N).live 112 2).2 ((E112 L N).heal 112 2) ((E112 L N).ren 112 2) t h).1 (backK 1000 79 ((E112 L N).live 112 2).1 ((E112 L N).live 112 2).2 ((E112 L N).heal 112 2) ((E112 L N).ren 112 2) t h).2)) L (f112.T2 s20 s21 s22 s23 s24 s25 s26) (f112.H2 s20 s21 s22 s23 s24 s25 s26)) s15 s16 s17 s18 := by kernel_rfl
theorem f112.s1_eq {R : Type} (L N : Nat) (κ : Ex → T → H → Option R) (rec : T → H → Option R) (s15 : Int) (s16 : LLM) (s17 : LB) (s18 : LI) :
    evRd (E112 L N) (evCallI (E112 L N) 1 2000) 1000 112 79 2 f112.c1 κ rec (f112.T1 s15 s16 s17 s18) (f112.H1 s15 s16 s17 s18)
    = f112.s1 L N (fun z19 => κ (.exit 2) (f112.T1_e2 z19) (f112.H1_e2 z19)) (fun s15 s16 s17 s18 => rec (f112.T1 s15 s16 s17 s18) (f112.H1 s15 s16 s17 s18)) s15 s16 s17 s18 := by
  rw [f112.s1_pre]
  unfold f112.s1
  simp only [f112.l2_eq, f112.p2_e4_eq]
theorem f112.l1_eq {R : Type} (L N : Nat) (κ : Ex → T → H → Option R) : ∀ (n : Nat) (s15 : Int) (s16 : LLM) (s17 : LB) (s18 : LI),
    evLp (E112 L N) (evCallI (E112 L N) 1 2000) 1000 112 79 2 f112.c1 κ n (f112.T1 s15 s16 s17 s18) (f112.H1 s15 s16 s17 s18)
    = f112.l1 L N (fun z19 => κ (.exit 2) (f112.T1_e2 z19) (f112.H1_e2 z19)) n s15 s16 s17 s18 := by
  intro n
  induction n with
  | zero => intros; rfl
  | succ n ih =>
    intro s15 s16 s17 s18
    rw [evLp_succ, f112.s1_eq]
    simp only [ih]
    rfl
theorem f112.p1_e2_pre {R : Type} (L N : Nat) (κ : RN.Den .row → List Int → Option R) (z19 : LI) :
    (contAt (E112 L N) (evCallI (E112 L N) 1 2000) 1000 112 79 2 (codeOf Try.f112) (finK (E112 L N) 1000 Try.f112 (finN .row none 3 i64 κ))) (.exit 2) (f112.T1_e2 z19) (f112.H1_e2 z19)
    = f112.p1_e2' L N (fun a0 => κ () a0) z19 := by kernel_rfl
theorem f112.p1_e2_eq {R : Type} (L N : Nat) (κ : RN.Den .row → List Int → Option R) (z19 : LI) :
    (contAt (E112 L N) (evCallI (E112 L N) 1 2000) 1000 112 79 2 (codeOf Try.f112) (finK (E112 L N) 1000 Try.f112 (finN .row none 3 i64 κ))) (.exit 2) (f112.T1_e2 z19) (f112.H1_e2 z19)
    = f112.p1_e2 L N (fun a0 => κ () a0) z19 := by
  rw [f112.p1_e2_pre]
  unfold f112.p1_e2
  rfl
theorem f112.p0_e0_pre {R : Type} (L N : Nat) (κ : RN.Den .row → List Int → Option R) (z6 : LLM) (z7 : LB) (z8 : LI) :
    (contAt (E112 L N) (evCallI (E112 L N) 1 2000) 1000 112 79 0 (codeOf Try.f112) (finK (E112 L N) 1000 Try.f112 (finN .row none 3 i64 κ))) (.exit 0) (f112.T0_e0 z6 z7 z8) (f112.H0_e0 z6 z7 z8)
    = f112.p0_e0' L N (fun a0 => κ () a0) (fun s15 s16 s17 s18 => evLp (E112 L N) (evCallI (E112 L N) 1 2000) 1000 112 79 2 f112.c1 (contAt (E112 L N) (evCallI (E112 L N) 1 2000) 1000 112 79 2 (codeOf Try.f112) (finK (E112 L N) 1000 Try.f112 (finN .row none 3 i64 κ))) L (f112.T1 s15 s16 s17 s18) (f112.H1 s15 s16 s17 s18)) z6 z7 z8 := by kernel_rfl
theorem f112.p0_e0_eq {R : Type} (L N : Nat) (κ : RN.Den .row → List Int → Option R) (z6 : LLM) (z7 : LB) (z8 : LI) :
    (contAt (E112 L N) (evCallI (E112 L N) 1 2000) 1000 112 79 0 (codeOf Try.f112) (finK (E112 L N) 1000 Try.f112 (finN .row none 3 i64 κ))) (.exit 0) (f112.T0_e0 z6 z7 z8) (f112.H0_e0 z6 z7 z8)
    = f112.p0_e0 L N (fun a0 => κ () a0) z6 z7 z8 := by
  rw [f112.p0_e0_pre]
  unfold f112.p0_e0
  simp only [f112.l1_eq, f112.p1_e2_eq]
theorem f112.b_pre {R : Type} (L N : Nat) (κ : RN.Den .row → List Int → Option R) (x0 : Graph) (x1 : LI) :
    evBody (E112 L N) (evCallI (E112 L N) 1 2000) 1000 112 Try.f112 [(.tv (.st 2) x0), (.tv (.sl i64) x1)] [] [] (finN .row none 3 i64 κ)
    = f112.b' L N (fun a0 => κ () a0) (fun s0 s1 s2 s3 s4 s5 => evLp (E112 L N) (evCallI (E112 L N) 1 2000) 1000 112 79 0 f112.c0 (contAt (E112 L N) (evCallI (E112 L N) 1 2000) 1000 112 79 0 (codeOf Try.f112) (finK (E112 L N) 1000 Try.f112 (finN .row none 3 i64 κ))) L (f112.T0 s0 s1 s2 s3 s4 s5) (f112.H0 s0 s1 s2 s3 s4 s5)) x0 x1 := by kernel_rfl
theorem f112.b_eq {R : Type} (L N : Nat) (κ : RN.Den .row → List Int → Option R) (x0 : Graph) (x1 : LI) :
    evBody (E112 L N) (evCallI (E112 L N) 1 2000) 1000 112 Try.f112 [(.tv (.st 2) x0), (.tv (.sl i64) x1)] [] [] (finN .row none 3 i64 κ)
    = f112.b L N (fun a0 => κ () a0) x0 x1 := by
  rw [f112.b_pre]
  unfold f112.b
  simp only [f112.l0_eq, f112.p0_e0_eq]
end Go.Proofs.Ytdfjdbpklbehoaa.Ev
