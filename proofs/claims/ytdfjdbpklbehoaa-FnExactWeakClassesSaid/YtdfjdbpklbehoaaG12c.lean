/- The seat's functions as plain functions, continued: made by program (wip/gen/gen.py). -/
import Derived.Test.YtdfjdbpklbehoaaG12b
namespace Go.Proofs.Ytdfjdbpklbehoaa.Ev
open Go
set_option linter.unusedVariables false
set_option maxRecDepth 20000
theorem f112.s0'_nat {R R' : Type} (j : R → Option R') (L N : Nat) (k0_e0 : LLM → LB → LI → Option R) (rec0 : LI → Int → Int → LLM → LB → LI → Option R) (s0 : LI) (s1 : Int) (s2 : Int) (s3 : LLM) (s4 : LB) (s5 : LI) :
    f112.s0' L N (fun a0 a1 a2 => (k0_e0 a0 a1 a2).bind j) (fun a0 a1 a2 a3 a4 a5 => (rec0 a0 a1 a2 a3 a4 a5).bind j) s0 s1 s2 s3 s4 s5 = (f112.s0' L N k0_e0 rec0 s0 s1 s2 s3 s4 s5).bind j := by
  unfold f112.s0'
  repeat' (first | (with_reducible refine cond_nat ?_ ?_) | (with_reducible refine bind_nat fun _ => ?_) | rfl)
theorem f112.s0_nat {R R' : Type} (j : R → Option R') (L N : Nat) (k0_e0 : LLM → LB → LI → Option R) (rec0 : LI → Int → Int → LLM → LB → LI → Option R) (s0 : LI) (s1 : Int) (s2 : Int) (s3 : LLM) (s4 : LB) (s5 : LI) :
    f112.s0 L N (fun a0 a1 a2 => (k0_e0 a0 a1 a2).bind j) (fun a0 a1 a2 a3 a4 a5 => (rec0 a0 a1 a2 a3 a4 a5).bind j) s0 s1 s2 s3 s4 s5 = (f112.s0 L N k0_e0 rec0 s0 s1 s2 s3 s4 s5).bind j := by
  unfold f112.s0
  exact f112.s0'_nat ..
theorem f112.l0_nat {R R' : Type} (j : R → Option R') (L N : Nat) (k0_e0 : LLM → LB → LI → Option R) : ∀ (n : Nat) (s0 : LI) (s1 : Int) (s2 : Int) (s3 : LLM) (s4 : LB) (s5 : LI),
    f112.l0 L N (fun a0 a1 a2 => (k0_e0 a0 a1 a2).bind j) n s0 s1 s2 s3 s4 s5 = (f112.l0 L N k0_e0 n s0 s1 s2 s3 s4 s5).bind j := by
  intro n
  induction n with
  | zero => intros; rfl
  | succ n ih =>
    intro s0 s1 s2 s3 s4 s5
    show f112.s0 L N (fun a0 a1 a2 => (k0_e0 a0 a1 a2).bind j) (f112.l0 L N (fun a0 a1 a2 => (k0_e0 a0 a1 a2).bind j) n) s0 s1 s2 s3 s4 s5 = _
    rw [show f112.l0 L N (fun a0 a1 a2 => (k0_e0 a0 a1 a2).bind j) n = (fun s0 s1 s2 s3 s4 s5 => (f112.l0 L N k0_e0 n s0 s1 s2 s3 s4 s5).bind j) from funext fun s0 => funext fun s1 => funext fun s2 => funext fun s3 => funext fun s4 => funext fun s5 => ih s0 s1 s2 s3 s4 s5]
    exact f112.s0_nat ..
theorem f112.j0'_nat {R R' : Type} (j : R → Option R') (L N : Nat) (k2_e4 : Int → LLM → LB → LI → Option R) (rec2 : Int → LM → Int → Int → LLM → LB → LI → Option R) (v31 : Int) (v32 : LM) (v33 : Int) (v34 : Int) (v35 : Bool) (v36 : LLM) (v37 : Int) (v38 : Int) (v39 : LB) (v40 : LI) :
    f112.j0' L N (fun a0 a1 a2 a3 => (k2_e4 a0 a1 a2 a3).bind j) (fun a0 a1 a2 a3 a4 a5 a6 => (rec2 a0 a1 a2 a3 a4 a5 a6).bind j) v31 v32 v33 v34 v35 v36 v37 v38 v39 v40 = (f112.j0' L N k2_e4 rec2 v31 v32 v33 v34 v35 v36 v37 v38 v39 v40).bind j := by
  unfold f112.j0'
  repeat' (first | (with_reducible refine cond_nat ?_ ?_) | (with_reducible refine bind_nat fun _ => ?_) | rfl)
theorem f112.s2'_nat {R R' : Type} (j : R → Option R') (L N : Nat) (k2_e4 : Int → LLM → LB → LI → Option R) (rec2 : Int → LM → Int → Int → LLM → LB → LI → Option R) (s20 : Int) (s21 : LM) (s22 : Int) (s23 : Int) (s24 : LLM) (s25 : LB) (s26 : LI) :
    f112.s2' L N (fun a0 a1 a2 a3 => (k2_e4 a0 a1 a2 a3).bind j) (fun a0 a1 a2 a3 a4 a5 a6 => (rec2 a0 a1 a2 a3 a4 a5 a6).bind j) s20 s21 s22 s23 s24 s25 s26 = (f112.s2' L N k2_e4 rec2 s20 s21 s22 s23 s24 s25 s26).bind j := by
  unfold f112.s2'
  repeat' (first | (with_reducible refine cond_nat ?_ ?_) | (with_reducible refine bind_nat fun _ => ?_) | exact f112.j0'_nat .. | rfl)
theorem f112.s2_nat {R R' : Type} (j : R → Option R') (L N : Nat) (k2_e4 : Int → LLM → LB → LI → Option R) (rec2 : Int → LM → Int → Int → LLM → LB → LI → Option R) (s20 : Int) (s21 : LM) (s22 : Int) (s23 : Int) (s24 : LLM) (s25 : LB) (s26 : LI) :
    f112.s2 L N (fun a0 a1 a2 a3 => (k2_e4 a0 a1 a2 a3).bind j) (fun a0 a1 a2 a3 a4 a5 a6 => (rec2 a0 a1 a2 a3 a4 a5 a6).bind j) s20 s21 s22 s23 s24 s25 s26 = (f112.s2 L N k2_e4 rec2 s20 s21 s22 s23 s24 s25 s26).bind j := by
  unfold f112.s2
  exact f112.s2'_nat ..
theorem f112.l2_nat {R R' : Type} (j : R → Option R') (L N : Nat) (k2_e4 : Int → LLM → LB → LI → Option R) : ∀ (n : Nat) (s20 : Int) (s21 : LM) (s22 : Int) (s23 : Int) (s24 : LLM) (s25 : LB) (s26 : LI),
    f112.l2 L N (fun a0 a1 a2 a3 => (k2_e4 a0 a1 a2 a3).bind j) n s20 s21 s22 s23 s24 s25 s26 = (f112.l2 L N k2_e4 n s20 s21 s22 s23 s24 s25 s26).bind j := by
  intro n
  induction n with
  | zero => intros; rfl
  | succ n ih =>
    intro s20 s21 s22 s23 s24 s25 s26
    show f112.s2 L N (fun a0 a1 a2 a3 => (k2_e4 a0 a1 a2 a3).bind j) (f112.l2 L N (fun a0 a1 a2 a3 => (k2_e4 a0 a1 a2 a3).bind j) n) s20 s21 s22 s23 s24 s25 s26 = _
    rw [show f112.l2 L N (fun a0 a1 a2 a3 => (k2_e4 a0 a1 a2 a3).bind j) n = (fun s20 s21 s22 s23 s24 s25 s26 => (f112.l2 L N k2_e4 n s20 s21 s22 s23 s24 s25 s26).bind j) from funext fun s20 => funext fun s21 => funext fun s22 => funext fun s23 => funext fun s24 => funext fun s25 => funext fun s26 => ih s20 s21 s22 s23 s24 s25 s26]
    exact f112.s2_nat ..
theorem f112.p2_e4'_nat {R R' : Type} (j : R → Option R') (L N : Nat) (k1_e2 : LI → Option R) (rec1 : Int → LLM → LB → LI → Option R) (z27 : Int) (z28 : LLM) (z29 : LB) (z30 : LI) :
    f112.p2_e4' L N (fun a0 => (k1_e2 a0).bind j) (fun a0 a1 a2 a3 => (rec1 a0 a1 a2 a3).bind j) z27 z28 z29 z30 = (f112.p2_e4' L N k1_e2 rec1 z27 z28 z29 z30).bind j := by
  unfold f112.p2_e4'
  repeat' (first | (with_reducible refine cond_nat ?_ ?_) | (with_reducible refine bind_nat fun _ => ?_) | rfl)
theorem f112.p2_e4_nat {R R' : Type} (j : R → Option R') (L N : Nat) (k1_e2 : LI → Option R) (rec1 : Int → LLM → LB → LI → Option R) (z27 : Int) (z28 : LLM) (z29 : LB) (z30 : LI) :
    f112.p2_e4 L N (fun a0 => (k1_e2 a0).bind j) (fun a0 a1 a2 a3 => (rec1 a0 a1 a2 a3).bind j) z27 z28 z29 z30 = (f112.p2_e4 L N k1_e2 rec1 z27 z28 z29 z30).bind j := by
  unfold f112.p2_e4
  exact f112.p2_e4'_nat ..
theorem f112.s1'_nat {R R' : Type} (j : R → Option R') (L N : Nat) (k1_e2 : LI → Option R) (rec1 : Int → LLM → LB → LI → Option R) (w2 : Int → LM → Int → Int → LLM → LB → LI → Option R) (s15 : Int) (s16 : LLM) (s17 : LB) (s18 : LI) :
    f112.s1' L N (fun a0 => (k1_e2 a0).bind j) (fun a0 a1 a2 a3 => (rec1 a0 a1 a2 a3).bind j) (fun a0 a1 a2 a3 a4 a5 a6 => (w2 a0 a1 a2 a3 a4 a5 a6).bind j) s15 s16 s17 s18 = (f112.s1' L N k1_e2 rec1 w2 s15 s16 s17 s18).bind j := by
  unfold f112.s1'
  repeat' (first | (with_reducible refine cond_nat ?_ ?_) | (with_reducible refine bind_nat fun _ => ?_) | rfl)
theorem f112.s1_nat {R R' : Type} (j : R → Option R') (L N : Nat) (k1_e2 : LI → Option R) (rec1 : Int → LLM → LB → LI → Option R) (s15 : Int) (s16 : LLM) (s17 : LB) (s18 : LI) :
    f112.s1 L N (fun a0 => (k1_e2 a0).bind j) (fun a0 a1 a2 a3 => (rec1 a0 a1 a2 a3).bind j) s15 s16 s17 s18 = (f112.s1 L N k1_e2 rec1 s15 s16 s17 s18).bind j := by
  unfold f112.s1
  simp only [f112.l2_nat, f112.p2_e4_nat]
  exact f112.s1'_nat ..
theorem f112.l1_nat {R R' : Type} (j : R → Option R') (L N : Nat) (k1_e2 : LI → Option R) : ∀ (n : Nat) (s15 : Int) (s16 : LLM) (s17 : LB) (s18 : LI),
    f112.l1 L N (fun a0 => (k1_e2 a0).bind j) n s15 s16 s17 s18 = (f112.l1 L N k1_e2 n s15 s16 s17 s18).bind j := by
  intro n
  induction n with
  | zero => intros; rfl
  | succ n ih =>
    intro s15 s16 s17 s18
    show f112.s1 L N (fun a0 => (k1_e2 a0).bind j) (f112.l1 L N (fun a0 => (k1_e2 a0).bind j) n) s15 s16 s17 s18 = _
    rw [show f112.l1 L N (fun a0 => (k1_e2 a0).bind j) n = (fun s15 s16 s17 s18 => (f112.l1 L N k1_e2 n s15 s16 s17 s18).bind j) from funext fun s15 => funext fun s16 => funext fun s17 => funext fun s18 => ih s15 s16 s17 s18]
    exact f112.s1_nat ..
theorem f112.p1_e2'_nat {R R' : Type} (j : R → Option R') (L N : Nat) (k : LI → Option R) (z19 : LI) :
    f112.p1_e2' L N (fun a0 => (k a0).bind j) z19 = (f112.p1_e2' L N k z19).bind j := by
  unfold f112.p1_e2'
  repeat' (first | (with_reducible refine cond_nat ?_ ?_) | (with_reducible refine bind_nat fun _ => ?_) | rfl)
theorem f112.p1_e2_nat {R R' : Type} (j : R → Option R') (L N : Nat) (k : LI → Option R) (z19 : LI) :
    f112.p1_e2 L N (fun a0 => (k a0).bind j) z19 = (f112.p1_e2 L N k z19).bind j := by
  unfold f112.p1_e2
  exact f112.p1_e2'_nat ..
theorem f112.p0_e0'_nat {R R' : Type} (j : R → Option R') (L N : Nat) (k : LI → Option R) (w1 : Int → LLM → LB → LI → Option R) (z6 : LLM) (z7 : LB) (z8 : LI) :
    f112.p0_e0' L N (fun a0 => (k a0).bind j) (fun a0 a1 a2 a3 => (w1 a0 a1 a2 a3).bind j) z6 z7 z8 = (f112.p0_e0' L N k w1 z6 z7 z8).bind j := by
  unfold f112.p0_e0'
  repeat' (first | (with_reducible refine cond_nat ?_ ?_) | (with_reducible refine bind_nat fun _ => ?_) | rfl)
theorem f112.p0_e0_nat {R R' : Type} (j : R → Option R') (L N : Nat) (k : LI → Option R) (z6 : LLM) (z7 : LB) (z8 : LI) :
    f112.p0_e0 L N (fun a0 => (k a0).bind j) z6 z7 z8 = (f112.p0_e0 L N k z6 z7 z8).bind j := by
  unfold f112.p0_e0
  simp only [f112.l1_nat, f112.p1_e2_nat]
  exact f112.p0_e0'_nat ..
theorem f112.b'_nat {R R' : Type} (j : R → Option R') (L N : Nat) (k : LI → Option R) (w0 : LI → Int → Int → LLM → LB → LI → Option R) (x0 : Graph) (x1 : LI) :
    f112.b' L N (fun a0 => (k a0).bind j) (fun a0 a1 a2 a3 a4 a5 => (w0 a0 a1 a2 a3 a4 a5).bind j) x0 x1 = (f112.b' L N k w0 x0 x1).bind j := by
  unfold f112.b'
  repeat' (first | (with_reducible refine cond_nat ?_ ?_) | (with_reducible refine bind_nat fun _ => ?_) | rfl)
theorem f112.b_nat {R R' : Type} (j : R → Option R') (L N : Nat) (k : LI → Option R) (x0 : Graph) (x1 : LI) :
    f112.b L N (fun a0 => (k a0).bind j) x0 x1 = (f112.b L N k x0 x1).bind j := by
  unfold f112.b
  simp only [f112.l0_nat, f112.p0_e0_nat]
  exact f112.b'_nat ..
theorem f112.ok (L N : Nat) (hΦ : TellsOk Try.prog ((Φ86 L N))) : EntOk Try.prog 112 (f112.ent L N) := by
  intro args vw site h
  unfold f112.ent
  split
  · rename_i d ha
    intro y hy hs
    refine call_ron (dep := 1000) (E := (E112 L N)) (ts := [(.st 2), (.sl i64)]) (rn := .row) (q := none) (el := 3) (ty := i64) (d1 := ()) (xs := y) (sound_of hΦ) okP (callI_sound (sound_of hΦ) okP 1 2000) (f := Try.f112) rfl hs ha ?_ rfl site
    refine (f112.b_eq L N (fun d xs => some (d, xs)) d.1 d.2.1).trans ?_
    refine ((f112.b_nat (fun y => (some ((), y) : Option (RN.Den .row × List Int))) L N some d.1 d.2.1)).trans ?_
    rw [show f112.b L N some d.1 d.2.1 = some y from hy]
    rfl
  · intro y hy
    cases hy
def Φ112 (L N : Nat) : Tells := (addT (Φ86 L N) 112 (f112.ent L N))
theorem Φ112_ok (L N : Nat) : TellsOk Try.prog (Φ112 L N) := addT_ok (Φ86_ok L N) (f112.ok L N (Φ86_ok L N))
def f124.s0' {R : Type} (L N : Nat) (k0_e0 : LLI → Option R) (rec0 : Int → Int → LLM → LLI → Option R) (s0 : Int) (s1 : Int) (s2 : LLM) (s3 : LLI) : Option R :=
  bif (decide (s1 < s0)) then
    (f112 L N (Graph.mk s2) ([s1] : LI)).bind fun y5 =>
    bif (decide (s3.length + ([y5] : LLI).length ≤ lim)) then
      rec0 s0 (wi (s1 + (1 : Int))) s2 (s3 ++ ([y5] : LLI))
    else none
  else k0_e0 s3
def f124.s0 {R : Type} (L N : Nat) (k0_e0 : LLI → Option R) (rec0 : Int → Int → LLM → LLI → Option R) (s0 : Int) (s1 : Int) (s2 : LLM) (s3 : LLI) : Option R :=
  f124.s0' L N k0_e0 rec0 s0 s1 s2 s3
def f124.l0 {R : Type} (L N : Nat) (k0_e0 : LLI → Option R) : Nat → Int → Int → LLM → LLI → Option R
  | 0, _, _, _, _ => none
  | n + 1, s0, s1, s2, s3 => f124.s0 L N k0_e0 (f124.l0 L N k0_e0 n) s0 s1 s2 s3
def f124.T0 (s0 : Int) (s1 : Int) (s2 : LLM) (s3 : LLI) : T := mkT 21 [(1, (.ptr 1001 0)), (3, (.row 1005)), (8, (.tv i64 s0)), (9, (.tv i64 s1))]
def f124.H0 (s0 : Int) (s1 : Int) (s2 : LLM) (s3 : LLI) : H := [(1001, (.box [(.tv (.sl (.sl (.st 0))) s2)])), (1005, (.row 30 (.sl i64) s3))]
def f124.T0_e0 (z4 : LLI) : T := mkT 21 [(3, (.row 1005))]
def f124.H0_e0 (z4 : LLI) : H := [(1005, (.row 30 (.sl i64) z4))]
def f124.p0_e0' {R : Type} (L N : Nat) (k : LLI → Option R) (z4 : LLI) : Option R :=
  k z4
def f124.p0_e0 {R : Type} (L N : Nat) (k : LLI → Option R) (z4 : LLI) : Option R :=
  f124.p0_e0' L N k z4
def f124.b' {R : Type} (L N : Nat) (k : LLI → Option R) (w0 : Int → Int → LLM → LLI → Option R) (x0 : Graph) : Option R :=
  w0 (x0.moves.length : Int) (0 : Int) x0.moves ([] : LLI)
def f124.b {R : Type} (L N : Nat) (k : LLI → Option R) (x0 : Graph) : Option R :=
  f124.b' L N k (fun s0 s1 s2 s3 => f124.l0 L N (fun z4 => f124.p0_e0 L N k z4) L s0 s1 s2 s3) x0
def f124 (L N : Nat) (x0 : Graph) : Option (LLI) := f124.b L N some x0
def f124.ent (L N : Nat) (args : List AV) (vw : View) (site : Nat) : Ans := match coeD [(.st 2)] vw args with
  | some (d, u) => ⟨LLI, f124 L N d.1, fun y => ((.tv (.sl (.sl i64)) y), u, [])⟩
  | none => Ans.no
noncomputable def E124 (L N : Nat) : Env := { P := Try.prog, ty := tyOf, Φ := (Φ112 L N), inl := inlT, live := lives, liveX := livesX, L := L, dp := none, prom := promT, heal := healT, ren := renT }
noncomputable def f124.c0 : Code := loopAt 0 (codeOf Try.f124)
theorem f124.s0_pre {R : Type} (L N : Nat) (κ : Ex → T → H → Option R) (rec : T → H → Option R) (s0 : Int) (s1 : Int) (s2 : LLM) (s3 : LLI) :
    evRd (E124 L N) (evCallI (E124 L N) 1 2000) 1000 124 21 0 f124.c0 κ rec (f124.T0 s0 s1 s2 s3) (f124.H0 s0 s1 s2 s3)
    = f124.s0' L N (fun z4 => κ (.exit 0) (f124.T0_e0 z4) (f124.H0_e0 z4)) (fun s0 s1 s2 s3 => rec (f124.T0 s0 s1 s2 s3) (f124.H0 s0 s1 s2 s3)) s0 s1 s2 s3 := by kernel_rfl
theorem f124.s0_eq {R : Type} (L N : Nat) (κ : Ex → T → H → Option R) (rec : T → H → Option R) (s0 : Int) (s1 : Int) (s2 : LLM) (s3 : LLI) :
    evRd (E124 L N) (evCallI (E124 L N) 1 2000) 1000 124 21 0 f124.c0 κ rec (f124.T0 s0 s1 s2 s3) (f124.H0 s0 s1 s2 s3)
    = f124.s0 L N (fun z4 => κ (.exit 0) (f124.T0_e0 z4) (f124.H0_e0 z4)) (fun s0 s1 s2 s3 => rec (f124.T0 s0 s1 s2 s3) (f124.H0 s0 s1 s2 s3)) s0 s1 s2 s3 := by
  rw [f124.s0_pre]
  unfold f124.s0
  rfl
theorem f124.l0_eq {R : Type} (L N : Nat) (κ : Ex → T → H → Option R) : ∀ (n : Nat) (s0 : Int) (s1 : Int) (s2 : LLM) (s3 : LLI),
    evLp (E124 L N) (evCallI (E124 L N) 1 2000) 1000 124 21 0 f124.c0 κ n (f124.T0 s0 s1 s2 s3) (f124.H0 s0 s1 s2 s3)
    = f124.l0 L N (fun z4 => κ (.exit 0) (f124.T0_e0 z4) (f124.H0_e0 z4)) n s0 s1 s2 s3 := by
  intro n
  induction n with
  | zero => intros; rfl
  | succ n ih =>
    intro s0 s1 s2 s3
    rw [evLp_succ, f124.s0_eq]
    simp only [ih]
    rfl
theorem f124.p0_e0_pre {R : Type} (L N : Nat) (κ : AV → Option R) (z4 : LLI) :
    (contAt (E124 L N) (evCallI (E124 L N) 1 2000) 1000 124 21 0 (codeOf Try.f124) (finK (E124 L N) 1000 Try.f124 (finC (.one (.sl (.sl i64))) κ))) (.exit 0) (f124.T0_e0 z4) (f124.H0_e0 z4)
    = f124.p0_e0' L N (fun a0 => κ (.tv (.sl (.sl i64)) a0)) z4 := by kernel_rfl
theorem f124.p0_e0_eq {R : Type} (L N : Nat) (κ : AV → Option R) (z4 : LLI) :
    (contAt (E124 L N) (evCallI (E124 L N) 1 2000) 1000 124 21 0 (codeOf Try.f124) (finK (E124 L N) 1000 Try.f124 (finC (.one (.sl (.sl i64))) κ))) (.exit 0) (f124.T0_e0 z4) (f124.H0_e0 z4)
    = f124.p0_e0 L N (fun a0 => κ (.tv (.sl (.sl i64)) a0)) z4 := by
  rw [f124.p0_e0_pre]
  unfold f124.p0_e0
  rfl
theorem f124.b_pre {R : Type} (L N : Nat) (κ : AV → Option R) (x0 : Graph) :
    evBody (E124 L N) (evCallI (E124 L N) 1 2000) 1000 124 Try.f124 [(.tv (.st 2) x0)] [] [] (finC (.one (.sl (.sl i64))) κ)
    = f124.b' L N (fun a0 => κ (.tv (.sl (.sl i64)) a0)) (fun s0 s1 s2 s3 => evLp (E124 L N) (evCallI (E124 L N) 1 2000) 1000 124 21 0 f124.c0 (contAt (E124 L N) (evCallI (E124 L N) 1 2000) 1000 124 21 0 (codeOf Try.f124) (finK (E124 L N) 1000 Try.f124 (finC (.one (.sl (.sl i64))) κ))) L (f124.T0 s0 s1 s2 s3) (f124.H0 s0 s1 s2 s3)) x0 := by kernel_rfl
theorem f124.b_eq {R : Type} (L N : Nat) (κ : AV → Option R) (x0 : Graph) :
    evBody (E124 L N) (evCallI (E124 L N) 1 2000) 1000 124 Try.f124 [(.tv (.st 2) x0)] [] [] (finC (.one (.sl (.sl i64))) κ)
    = f124.b L N (fun a0 => κ (.tv (.sl (.sl i64)) a0)) x0 := by
  rw [f124.b_pre]
  unfold f124.b
  simp only [f124.l0_eq, f124.p0_e0_eq]
theorem f124.s0'_nat {R R' : Type} (j : R → Option R') (L N : Nat) (k0_e0 : LLI → Option R) (rec0 : Int → Int → LLM → LLI → Option R) (s0 : Int) (s1 : Int) (s2 : LLM) (s3 : LLI) :
    f124.s0' L N (fun a0 => (k0_e0 a0).bind j) (fun a0 a1 a2 a3 => (rec0 a0 a1 a2 a3).bind j) s0 s1 s2 s3 = (f124.s0' L N k0_e0 rec0 s0 s1 s2 s3).bind j := by
  unfold f124.s0'
  repeat' (first | (with_reducible refine cond_nat ?_ ?_) | (with_reducible refine bind_nat fun _ => ?_) | rfl)
theorem f124.s0_nat {R R' : Type} (j : R → Option R') (L N : Nat) (k0_e0 : LLI → Option R) (rec0 : Int → Int → LLM → LLI → Option R) (s0 : Int) (s1 : Int) (s2 : LLM) (s3 : LLI) :
    f124.s0 L N (fun a0 => (k0_e0 a0).bind j) (fun a0 a1 a2 a3 => (rec0 a0 a1 a2 a3).bind j) s0 s1 s2 s3 = (f124.s0 L N k0_e0 rec0 s0 s1 s2 s3).bind j := by
  unfold f124.s0
  exact f124.s0'_nat ..
theorem f124.l0_nat {R R' : Type} (j : R → Option R') (L N : Nat) (k0_e0 : LLI → Option R) : ∀ (n : Nat) (s0 : Int) (s1 : Int) (s2 : LLM) (s3 : LLI),
    f124.l0 L N (fun a0 => (k0_e0 a0).bind j) n s0 s1 s2 s3 = (f124.l0 L N k0_e0 n s0 s1 s2 s3).bind j := by
  intro n
  induction n with
  | zero => intros; rfl
  | succ n ih =>
    intro s0 s1 s2 s3
    show f124.s0 L N (fun a0 => (k0_e0 a0).bind j) (f124.l0 L N (fun a0 => (k0_e0 a0).bind j) n) s0 s1 s2 s3 = _
    rw [show f124.l0 L N (fun a0 => (k0_e0 a0).bind j) n = (fun s0 s1 s2 s3 => (f124.l0 L N k0_e0 n s0 s1 s2 s3).bind j) from funext fun s0 => funext fun s1 => funext fun s2 => funext fun s3 => ih s0 s1 s2 s3]
    exact f124.s0_nat ..
theorem f124.p0_e0'_nat {R R' : Type} (j : R → Option R') (L N : Nat) (k : LLI → Option R) (z4 : LLI) :
    f124.p0_e0' L N (fun a0 => (k a0).bind j) z4 = (f124.p0_e0' L N k z4).bind j := by
  unfold f124.p0_e0'
  repeat' (first | (with_reducible refine cond_nat ?_ ?_) | (with_reducible refine bind_nat fun _ => ?_) | rfl)
theorem f124.p0_e0_nat {R R' : Type} (j : R → Option R') (L N : Nat) (k : LLI → Option R) (z4 : LLI) :
    f124.p0_e0 L N (fun a0 => (k a0).bind j) z4 = (f124.p0_e0 L N k z4).bind j := by
  unfold f124.p0_e0
  exact f124.p0_e0'_nat ..
theorem f124.b'_nat {R R' : Type} (j : R → Option R') (L N : Nat) (k : LLI → Option R) (w0 : Int → Int → LLM → LLI → Option R) (x0 : Graph) :
    f124.b' L N (fun a0 => (k a0).bind j) (fun a0 a1 a2 a3 => (w0 a0 a1 a2 a3).bind j) x0 = (f124.b' L N k w0 x0).bind j := by
  unfold f124.b'
  repeat' (first | (with_reducible refine cond_nat ?_ ?_) | (with_reducible refine bind_nat fun _ => ?_) | rfl)
theorem f124.b_nat {R R' : Type} (j : R → Option R') (L N : Nat) (k : LLI → Option R) (x0 : Graph) :
    f124.b L N (fun a0 => (k a0).bind j) x0 = (f124.b L N k x0).bind j := by
  unfold f124.b
  simp only [f124.l0_nat, f124.p0_e0_nat]
  exact f124.b'_nat ..
theorem f124.ok (L N : Nat) (hΦ : TellsOk Try.prog ((Φ112 L N))) : EntOk Try.prog 124 (f124.ent L N) := by
  intro args vw site h
  unfold f124.ent
  split
  · rename_i d u ha
    intro y hy hs
    refine call_data (dep := 1000) (E := (E124 L N)) (rs := (.one (.sl (.sl i64)))) (v' := (.tv (.sl (.sl i64)) y)) (sound_of hΦ) okP (callI_sound (sound_of hΦ) okP 1 2000) (f := Try.f124) rfl hs ha ?_ site
    refine (f124.b_eq L N some d.1).trans ?_
    refine ((f124.b_nat (fun y => (some (.tv (.sl (.sl i64)) y) : Option AV)) L N some d.1)).trans ?_
    rw [show f124.b L N some d.1 = some y from hy]
    rfl
  · intro y hy
    cases hy
def Φ124 (L N : Nat) : Tells := (addT (Φ112 L N) 124 (f124.ent L N))
theorem Φ124_ok (L N : Nat) : TellsOk Try.prog (Φ124 L N) := addT_ok (Φ112_ok L N) (f124.ok L N (Φ112_ok L N))
def f88.s3' {R : Type} (L N : Nat) (k3_e6 : LLI → Int → Int → LI → Int → Int → LM → Int → Int → LLM → LM → LLM → LLM → Option R) (rec3 : LLI → Int → Int → LI → Int → Int → LM → Int → Int → LI → Int → Int → LLM → Int → Int → LM → LLM → LLM → Option R) (s49 : LLI) (s50 : Int) (s51 : Int) (s52 : LI) (s53 : Int) (s54 : Int) (s55 : LM) (s56 : Int) (s57 : Int) (s58 : LI) (s59 : Int) (s60 : Int) (s61 : LLM) (s62 : Int) (s63 : Int) (s64 : LM) (s65 : LLM) (s66 : LLM) : Option R :=
  bif (decide (s60 < s59)) then
    bif (decide (0 ≤ s60) && decide (s60 < (s58.length : Int))) then
      bif (decide (s64.length + ([(Move.mk s62 (listAt s58 (0 : Int) s60.toNat))] : LM).length ≤ lim)) then
        rec3 s49 s50 s51 s52 s53 s54 s55 s56 s57 s58 s59 (wi (s60 + (1 : Int))) s61 s62 s63 (s64 ++ ([(Move.mk s62 (listAt s58 (0 : Int) s60.toNat))] : LM)) s65 s66
      else none
    else none
  else k3_e6 s49 s50 s51 s52 s53 s54 s55 s56 s57 s61 s64 s65 s66
def f88.s3 {R : Type} (L N : Nat) (k3_e6 : LLI → Int → Int → LI → Int → Int → LM → Int → Int → LLM → LM → LLM → LLM → Option R) (rec3 : LLI → Int → Int → LI → Int → Int → LM → Int → Int → LI → Int → Int → LLM → Int → Int → LM → LLM → LLM → Option R) (s49 : LLI) (s50 : Int) (s51 : Int) (s52 : LI) (s53 : Int) (s54 : Int) (s55 : LM) (s56 : Int) (s57 : Int) (s58 : LI) (s59 : Int) (s60 : Int) (s61 : LLM) (s62 : Int) (s63 : Int) (s64 : LM) (s65 : LLM) (s66 : LLM) : Option R :=
  f88.s3' L N k3_e6 rec3 s49 s50 s51 s52 s53 s54 s55 s56 s57 s58 s59 s60 s61 s62 s63 s64 s65 s66
def f88.l3 {R : Type} (L N : Nat) (k3_e6 : LLI → Int → Int → LI → Int → Int → LM → Int → Int → LLM → LM → LLM → LLM → Option R) : Nat → LLI → Int → Int → LI → Int → Int → LM → Int → Int → LI → Int → Int → LLM → Int → Int → LM → LLM → LLM → Option R
  | 0, _, _, _, _, _, _, _, _, _, _, _, _, _, _, _, _, _, _ => none
  | n + 1, s49, s50, s51, s52, s53, s54, s55, s56, s57, s58, s59, s60, s61, s62, s63, s64, s65, s66 => f88.s3 L N k3_e6 (f88.l3 L N k3_e6 n) s49 s50 s51 s52 s53 s54 s55 s56 s57 s58 s59 s60 s61 s62 s63 s64 s65 s66
def f88.T3 (s49 : LLI) (s50 : Int) (s51 : Int) (s52 : LI) (s53 : Int) (s54 : Int) (s55 : LM) (s56 : Int) (s57 : Int) (s58 : LI) (s59 : Int) (s60 : Int) (s61 : LLM) (s62 : Int) (s63 : Int) (s64 : LM) (s65 : LLM) (s66 : LLM) : T := mkT 79 [(1, (.ptr 1001 0)), (2, (.ptr 1002 0)), (3, (.tv (.sl (.sl i64)) s49)), (4, (.ptr 1004 0)), (6, (.row 1022)), (10, (.ptr 1010 0)), (18, (.tv i64 s50)), (19, (.tv i64 s51)), (26, (.tv (.sl i64) s52)), (27, (.tv i64 s53)), (28, (.tv i64 s54)), (41, (.tv (.sl (.st 0)) s55)), (42, (.tv i64 s56)), (43, (.tv i64 s57)), (54, (.tv (.sl i64) s58)), (55, (.tv i64 s59)), (56, (.tv i64 s60))]
def f88.H3 (s49 : LLI) (s50 : Int) (s51 : Int) (s52 : LI) (s53 : Int) (s54 : Int) (s55 : LM) (s56 : Int) (s57 : Int) (s58 : LI) (s59 : Int) (s60 : Int) (s61 : LLM) (s62 : Int) (s63 : Int) (s64 : LM) (s65 : LLM) (s66 : LLM) : H := [(1001, (.box [(.tv (.sl (.sl (.st 0))) s61)])), (1002, (.box [(.row 1900)])), (1004, (.box [(.row 1901)])), (1010, (.box [(.tv i64 s62), (.tv i64 s63)])), (1022, (.row 53 (.st 0) s64)), (1900, (.deep 0 (.sl (.st 0)) s65 none)), (1901, (.deep 0 (.sl (.st 0)) s66 none))]
def f88.T3_e6 (z67 : LLI) (z68 : Int) (z69 : Int) (z70 : LI) (z71 : Int) (z72 : Int) (z73 : LM) (z74 : Int) (z75 : Int) (z76 : LLM) (z77 : LM) (z78 : LLM) (z79 : LLM) : T := mkT 79 [(1, (.ptr 1001 0)), (2, (.ptr 1002 0)), (3, (.tv (.sl (.sl i64)) z67)), (4, (.ptr 1004 0)), (6, (.row 1022)), (18, (.tv i64 z68)), (19, (.tv i64 z69)), (26, (.tv (.sl i64) z70)), (27, (.tv i64 z71)), (28, (.tv i64 z72)), (41, (.tv (.sl (.st 0)) z73)), (42, (.tv i64 z74)), (43, (.tv i64 z75))]
def f88.H3_e6 (z67 : LLI) (z68 : Int) (z69 : Int) (z70 : LI) (z71 : Int) (z72 : Int) (z73 : LM) (z74 : Int) (z75 : Int) (z76 : LLM) (z77 : LM) (z78 : LLM) (z79 : LLM) : H := [(1001, (.box [(.tv (.sl (.sl (.st 0))) z76)])), (1002, (.box [(.row 1900)])), (1004, (.box [(.row 1901)])), (1022, (.row 53 (.st 0) z77)), (1900, (.deep 0 (.sl (.st 0)) z78 none)), (1901, (.deep 0 (.sl (.st 0)) z79 none))]
def f88.p3_e6' {R : Type} (L N : Nat) (k2_e4 : LLI → Int → Int → LI → Int → Int → LLM → LM → LLM → LLM → Option R) (rec2 : LLI → Int → Int → LI → Int → Int → LM → Int → Int → LLM → LM → LLM → LLM → Option R) (z67 : LLI) (z68 : Int) (z69 : Int) (z70 : LI) (z71 : Int) (z72 : Int) (z73 : LM) (z74 : Int) (z75 : Int) (z76 : LLM) (z77 : LM) (z78 : LLM) (z79 : LLM) : Option R :=
  rec2 z67 z68 z69 z70 z71 z72 z73 z74 (wi (z75 + (1 : Int))) z76 z77 z78 z79
def f88.p3_e6 {R : Type} (L N : Nat) (k2_e4 : LLI → Int → Int → LI → Int → Int → LLM → LM → LLM → LLM → Option R) (rec2 : LLI → Int → Int → LI → Int → Int → LM → Int → Int → LLM → LM → LLM → LLM → Option R) (z67 : LLI) (z68 : Int) (z69 : Int) (z70 : LI) (z71 : Int) (z72 : Int) (z73 : LM) (z74 : Int) (z75 : Int) (z76 : LLM) (z77 : LM) (z78 : LLM) (z79 : LLM) : Option R :=
  f88.p3_e6' L N k2_e4 rec2 z67 z68 z69 z70 z71 z72 z73 z74 z75 z76 z77 z78 z79
def f88.s2' {R : Type} (L N : Nat) (k2_e4 : LLI → Int → Int → LI → Int → Int → LLM → LM → LLM → LLM → Option R) (rec2 : LLI → Int → Int → LI → Int → Int → LM → Int → Int → LLM → LM → LLM → LLM → Option R) (w3 : LLI → Int → Int → LI → Int → Int → LM → Int → Int → LI → Int → Int → LLM → Int → Int → LM → LLM → LLM → Option R) (s26 : LLI) (s27 : Int) (s28 : Int) (s29 : LI) (s30 : Int) (s31 : Int) (s32 : LM) (s33 : Int) (s34 : Int) (s35 : LLM) (s36 : LM) (s37 : LLM) (s38 : LLM) : Option R :=
  bif (decide (s34 < s33)) then
    bif (decide (0 ≤ s34) && decide (s34 < (s32.length : Int))) then
      bif ((listAt s32 (Ty.dflt (.st 0)) s34.toNat).act != (0 : Int)) then
        bif (decide (0 ≤ (listAt s32 (Ty.dflt (.st 0)) s34.toNat).to) && decide ((listAt s32 (Ty.dflt (.st 0)) s34.toNat).to < (s26.length : Int))) then
          w3 s26 s27 s28 s29 s30 s31 s32 s33 s34 (listAt s26 [] ((listAt s32 (Ty.dflt (.st 0)) s34.toNat).to).toNat) ((listAt s26 [] ((listAt s32 (Ty.dflt (.st 0)) s34.toNat).to).toNat).length : Int) (0 : Int) s35 ((listAt s32 (Ty.dflt (.st 0)) s34.toNat).act) ((listAt s32 (Ty.dflt (.st 0)) s34.toNat).to) s36 s37 s38
        else none
      else rec2 s26 s27 s28 s29 s30 s31 s32 s33 (wi (s34 + (1 : Int))) s35 s36 s37 s38
    else none
  else k2_e4 s26 s27 s28 s29 s30 s31 s35 s36 s37 s38
def f88.s2 {R : Type} (L N : Nat) (k2_e4 : LLI → Int → Int → LI → Int → Int → LLM → LM → LLM → LLM → Option R) (rec2 : LLI → Int → Int → LI → Int → Int → LM → Int → Int → LLM → LM → LLM → LLM → Option R) (s26 : LLI) (s27 : Int) (s28 : Int) (s29 : LI) (s30 : Int) (s31 : Int) (s32 : LM) (s33 : Int) (s34 : Int) (s35 : LLM) (s36 : LM) (s37 : LLM) (s38 : LLM) : Option R :=
  f88.s2' L N k2_e4 rec2 (fun s49 s50 s51 s52 s53 s54 s55 s56 s57 s58 s59 s60 s61 s62 s63 s64 s65 s66 => f88.l3 L N (fun z67 z68 z69 z70 z71 z72 z73 z74 z75 z76 z77 z78 z79 => f88.p3_e6 L N k2_e4 rec2 z67 z68 z69 z70 z71 z72 z73 z74 z75 z76 z77 z78 z79) L s49 s50 s51 s52 s53 s54 s55 s56 s57 s58 s59 s60 s61 s62 s63 s64 s65 s66) s26 s27 s28 s29 s30 s31 s32 s33 s34 s35 s36 s37 s38
def f88.l2 {R : Type} (L N : Nat) (k2_e4 : LLI → Int → Int → LI → Int → Int → LLM → LM → LLM → LLM → Option R) : Nat → LLI → Int → Int → LI → Int → Int → LM → Int → Int → LLM → LM → LLM → LLM → Option R
  | 0, _, _, _, _, _, _, _, _, _, _, _, _, _ => none
  | n + 1, s26, s27, s28, s29, s30, s31, s32, s33, s34, s35, s36, s37, s38 => f88.s2 L N k2_e4 (f88.l2 L N k2_e4 n) s26 s27 s28 s29 s30 s31 s32 s33 s34 s35 s36 s37 s38
def f88.T2 (s26 : LLI) (s27 : Int) (s28 : Int) (s29 : LI) (s30 : Int) (s31 : Int) (s32 : LM) (s33 : Int) (s34 : Int) (s35 : LLM) (s36 : LM) (s37 : LLM) (s38 : LLM) : T := mkT 79 [(1, (.ptr 1001 0)), (2, (.ptr 1002 0)), (3, (.tv (.sl (.sl i64)) s26)), (4, (.ptr 1004 0)), (6, (.row 1022)), (18, (.tv i64 s27)), (19, (.tv i64 s28)), (26, (.tv (.sl i64) s29)), (27, (.tv i64 s30)), (28, (.tv i64 s31)), (41, (.tv (.sl (.st 0)) s32)), (42, (.tv i64 s33)), (43, (.tv i64 s34))]
def f88.H2 (s26 : LLI) (s27 : Int) (s28 : Int) (s29 : LI) (s30 : Int) (s31 : Int) (s32 : LM) (s33 : Int) (s34 : Int) (s35 : LLM) (s36 : LM) (s37 : LLM) (s38 : LLM) : H := [(1001, (.box [(.tv (.sl (.sl (.st 0))) s35)])), (1002, (.box [(.row 1900)])), (1004, (.box [(.row 1901)])), (1022, (.row 53 (.st 0) s36)), (1900, (.deep 0 (.sl (.st 0)) s37 none)), (1901, (.deep 0 (.sl (.st 0)) s38 none))]
def f88.T2_e4 (z39 : LLI) (z40 : Int) (z41 : Int) (z42 : LI) (z43 : Int) (z44 : Int) (z45 : LLM) (z46 : LM) (z47 : LLM) (z48 : LLM) : T := mkT 79 [(1, (.ptr 1001 0)), (2, (.ptr 1002 0)), (3, (.tv (.sl (.sl i64)) z39)), (4, (.ptr 1004 0)), (6, (.row 1022)), (18, (.tv i64 z40)), (19, (.tv i64 z41)), (26, (.tv (.sl i64) z42)), (27, (.tv i64 z43)), (28, (.tv i64 z44))]
def f88.H2_e4 (z39 : LLI) (z40 : Int) (z41 : Int) (z42 : LI) (z43 : Int) (z44 : Int) (z45 : LLM) (z46 : LM) (z47 : LLM) (z48 : LLM) : H := [(1001, (.box [(.tv (.sl (.sl (.st 0))) z45)])), (1002, (.box [(.row 1900)])), (1004, (.box [(.row 1901)])), (1022, (.row 53 (.st 0) z46)), (1900, (.deep 0 (.sl (.st 0)) z47 none)), (1901, (.deep 0 (.sl (.st 0)) z48 none))]
def f88.p2_e4' {R : Type} (L N : Nat) (k1_e2 : LLI → Int → Int → LLM → LM → LLM → LLM → Option R) (rec1 : LLI → Int → Int → LI → Int → Int → LLM → LM → LLM → LLM → Option R) (z39 : LLI) (z40 : Int) (z41 : Int) (z42 : LI) (z43 : Int) (z44 : Int) (z45 : LLM) (z46 : LM) (z47 : LLM) (z48 : LLM) : Option R :=
  rec1 z39 z40 z41 z42 z43 (wi (z44 + (1 : Int))) z45 z46 z47 z48
def f88.p2_e4 {R : Type} (L N : Nat) (k1_e2 : LLI → Int → Int → LLM → LM → LLM → LLM → Option R) (rec1 : LLI → Int → Int → LI → Int → Int → LLM → LM → LLM → LLM → Option R) (z39 : LLI) (z40 : Int) (z41 : Int) (z42 : LI) (z43 : Int) (z44 : Int) (z45 : LLM) (z46 : LM) (z47 : LLM) (z48 : LLM) : Option R :=
  f88.p2_e4' L N k1_e2 rec1 z39 z40 z41 z42 z43 z44 z45 z46 z47 z48
def f88.s1' {R : Type} (L N : Nat) (k1_e2 : LLI → Int → Int → LLM → LM → LLM → LLM → Option R) (rec1 : LLI → Int → Int → LI → Int → Int → LLM → LM → LLM → LLM → Option R) (w2 : LLI → Int → Int → LI → Int → Int → LM → Int → Int → LLM → LM → LLM → LLM → Option R) (s9 : LLI) (s10 : Int) (s11 : Int) (s12 : LI) (s13 : Int) (s14 : Int) (s15 : LLM) (s16 : LM) (s17 : LLM) (s18 : LLM) : Option R :=
  bif (decide (s14 < s13)) then
    bif (decide (0 ≤ s14) && decide (s14 < (s12.length : Int))) then
      bif (decide (s16.length + ([(Move.mk (0 : Int) (listAt s12 (0 : Int) s14.toNat))] : LM).length ≤ lim)) then
        bif (decide (0 ≤ (listAt s12 (0 : Int) s14.toNat)) && decide ((listAt s12 (0 : Int) s14.toNat) < (s15.length : Int))) then
          w2 s9 s10 s11 s12 s13 s14 (listAt s15 [] (listAt s12 (0 : Int) s14.toNat).toNat) ((listAt s15 [] (listAt s12 (0 : Int) s14.toNat).toNat).length : Int) (0 : Int) s15 (s16 ++ ([(Move.mk (0 : Int) (listAt s12 (0 : Int) s14.toNat))] : LM)) s17 s18
        else none
      else none
    else none
  else k1_e2 s9 s10 s11 s15 s16 s17 s18
def f88.s1 {R : Type} (L N : Nat) (k1_e2 : LLI → Int → Int → LLM → LM → LLM → LLM → Option R) (rec1 : LLI → Int → Int → LI → Int → Int → LLM → LM → LLM → LLM → Option R) (s9 : LLI) (s10 : Int) (s11 : Int) (s12 : LI) (s13 : Int) (s14 : Int) (s15 : LLM) (s16 : LM) (s17 : LLM) (s18 : LLM) : Option R :=
  f88.s1' L N k1_e2 rec1 (fun s26 s27 s28 s29 s30 s31 s32 s33 s34 s35 s36 s37 s38 => f88.l2 L N (fun z39 z40 z41 z42 z43 z44 z45 z46 z47 z48 => f88.p2_e4 L N k1_e2 rec1 z39 z40 z41 z42 z43 z44 z45 z46 z47 z48) L s26 s27 s28 s29 s30 s31 s32 s33 s34 s35 s36 s37 s38) s9 s10 s11 s12 s13 s14 s15 s16 s17 s18
def f88.l1 {R : Type} (L N : Nat) (k1_e2 : LLI → Int → Int → LLM → LM → LLM → LLM → Option R) : Nat → LLI → Int → Int → LI → Int → Int → LLM → LM → LLM → LLM → Option R
  | 0, _, _, _, _, _, _, _, _, _, _ => none
  | n + 1, s9, s10, s11, s12, s13, s14, s15, s16, s17, s18 => f88.s1 L N k1_e2 (f88.l1 L N k1_e2 n) s9 s10 s11 s12 s13 s14 s15 s16 s17 s18
def f88.T1 (s9 : LLI) (s10 : Int) (s11 : Int) (s12 : LI) (s13 : Int) (s14 : Int) (s15 : LLM) (s16 : LM) (s17 : LLM) (s18 : LLM) : T := mkT 79 [(1, (.ptr 1001 0)), (2, (.ptr 1002 0)), (3, (.tv (.sl (.sl i64)) s9)), (4, (.ptr 1004 0)), (6, (.row 1022)), (18, (.tv i64 s10)), (19, (.tv i64 s11)), (26, (.tv (.sl i64) s12)), (27, (.tv i64 s13)), (28, (.tv i64 s14))]
def f88.H1 (s9 : LLI) (s10 : Int) (s11 : Int) (s12 : LI) (s13 : Int) (s14 : Int) (s15 : LLM) (s16 : LM) (s17 : LLM) (s18 : LLM) : H := [(1001, (.box [(.tv (.sl (.sl (.st 0))) s15)])), (1002, (.box [(.row 1900)])), (1004, (.box [(.row 1901)])), (1022, (.row 53 (.st 0) s16)), (1900, (.deep 0 (.sl (.st 0)) s17 none)), (1901, (.deep 0 (.sl (.st 0)) s18 none))]
def f88.T1_e2 (z19 : LLI) (z20 : Int) (z21 : Int) (z22 : LLM) (z23 : LM) (z24 : LLM) (z25 : LLM) : T := mkT 79 [(1, (.ptr 1001 0)), (2, (.ptr 1002 0)), (3, (.tv (.sl (.sl i64)) z19)), (4, (.ptr 1004 0)), (6, (.row 1022)), (18, (.tv i64 z20)), (19, (.tv i64 z21))]
def f88.H1_e2 (z19 : LLI) (z20 : Int) (z21 : Int) (z22 : LLM) (z23 : LM) (z24 : LLM) (z25 : LLM) : H := [(1001, (.box [(.tv (.sl (.sl (.st 0))) z22)])), (1002, (.box [(.row 1900)])), (1004, (.box [(.row 1901)])), (1022, (.row 53 (.st 0) z23)), (1900, (.deep 0 (.sl (.st 0)) z24 none)), (1901, (.deep 0 (.sl (.st 0)) z25 none))]
def f88.p1_e2' {R : Type} (L N : Nat) (k0_e0 : LLM → LLM → Option R) (rec0 : LLI → Int → Int → LLM → LLM → LLM → Option R) (z19 : LLI) (z20 : Int) (z21 : Int) (z22 : LLM) (z23 : LM) (z24 : LLM) (z25 : LLM) : Option R :=
  ((fsortM z23)).bind fun y93 =>
  bif (decide (z25.length + ([(tidyM z23)] : LLM).length ≤ lim)) then
    rec0 z19 z20 (wi (z21 + (1 : Int))) z22 z24 (z25 ++ ([(tidyM z23)] : LLM))
  else none
def f88.p1_e2 {R : Type} (L N : Nat) (k0_e0 : LLM → LLM → Option R) (rec0 : LLI → Int → Int → LLM → LLM → LLM → Option R) (z19 : LLI) (z20 : Int) (z21 : Int) (z22 : LLM) (z23 : LM) (z24 : LLM) (z25 : LLM) : Option R :=
  f88.p1_e2' L N k0_e0 rec0 z19 z20 z21 z22 z23 z24 z25
def f88.s0' {R : Type} (L N : Nat) (k0_e0 : LLM → LLM → Option R) (rec0 : LLI → Int → Int → LLM → LLM → LLM → Option R) (w1 : LLI → Int → Int → LI → Int → Int → LLM → LM → LLM → LLM → Option R) (s1 : LLI) (s2 : Int) (s3 : Int) (s4 : LLM) (s5 : LLM) (s6 : LLM) : Option R :=
  bif (decide (s3 < s2)) then
    bif (decide (0 ≤ s3) && decide (s3 < (s1.length : Int))) then
      w1 s1 s2 s3 (listAt s1 [] s3.toNat) ((listAt s1 [] s3.toNat).length : Int) (0 : Int) s4 ([] : LM) s5 s6
    else none
  else k0_e0 s5 s6
def f88.s0 {R : Type} (L N : Nat) (k0_e0 : LLM → LLM → Option R) (rec0 : LLI → Int → Int → LLM → LLM → LLM → Option R) (s1 : LLI) (s2 : Int) (s3 : Int) (s4 : LLM) (s5 : LLM) (s6 : LLM) : Option R :=
  f88.s0' L N k0_e0 rec0 (fun s9 s10 s11 s12 s13 s14 s15 s16 s17 s18 => f88.l1 L N (fun z19 z20 z21 z22 z23 z24 z25 => f88.p1_e2 L N k0_e0 rec0 z19 z20 z21 z22 z23 z24 z25) L s9 s10 s11 s12 s13 s14 s15 s16 s17 s18) s1 s2 s3 s4 s5 s6
def f88.l0 {R : Type} (L N : Nat) (k0_e0 : LLM → LLM → Option R) : Nat → LLI → Int → Int → LLM → LLM → LLM → Option R
  | 0, _, _, _, _, _, _ => none
  | n + 1, s1, s2, s3, s4, s5, s6 => f88.s0 L N k0_e0 (f88.l0 L N k0_e0 n) s1 s2 s3 s4 s5 s6
def f88.T0 (s1 : LLI) (s2 : Int) (s3 : Int) (s4 : LLM) (s5 : LLM) (s6 : LLM) : T := mkT 79 [(1, (.ptr 1001 0)), (2, (.ptr 1002 0)), (3, (.tv (.sl (.sl i64)) s1)), (4, (.ptr 1004 0)), (18, (.tv i64 s2)), (19, (.tv i64 s3))]
def f88.H0 (s1 : LLI) (s2 : Int) (s3 : Int) (s4 : LLM) (s5 : LLM) (s6 : LLM) : H := [(1001, (.box [(.tv (.sl (.sl (.st 0))) s4)])), (1002, (.box [(.row 1900)])), (1004, (.box [(.row 1901)])), (1900, (.deep 0 (.sl (.st 0)) s5 none)), (1901, (.deep 0 (.sl (.st 0)) s6 none))]
def f88.T0_e0 (z7 : LLM) (z8 : LLM) : T := mkT 79 [(2, (.ptr 1002 0)), (4, (.ptr 1004 0))]
def f88.H0_e0 (z7 : LLM) (z8 : LLM) : H := [(1002, (.box [(.row 1900)])), (1004, (.box [(.row 1901)])), (1900, (.deep 0 (.sl (.st 0)) z7 none)), (1901, (.deep 0 (.sl (.st 0)) z8 none))]
def f88.p0_e0' {R : Type} (L N : Nat) (k : LLM → Option R) (z7 : LLM) (z8 : LLM) : Option R :=
  k z8
def f88.p0_e0 {R : Type} (L N : Nat) (k : LLM → Option R) (z7 : LLM) (z8 : LLM) : Option R :=
  f88.p0_e0' L N k z7 z8
def f88.b' {R : Type} (L N : Nat) (k : LLM → Option R) (w0 : LLI → Int → Int → LLM → LLM → LLM → Option R) (x0 : Graph) : Option R :=
  (f124 L N (Graph.mk x0.moves)).bind fun y0 =>
  w0 y0 (x0.moves.length : Int) (0 : Int) x0.moves ([] : LLM) ([] : LLM)
def f88.b {R : Type} (L N : Nat) (k : LLM → Option R) (x0 : Graph) : Option R :=
  f88.b' L N k (fun s1 s2 s3 s4 s5 s6 => f88.l0 L N (fun z7 z8 => f88.p0_e0 L N k z7 z8) L s1 s2 s3 s4 s5 s6) x0
def f88 (L N : Nat) (x0 : Graph) : Option (LLM) := f88.b L N some x0
def f88.ent (L N : Nat) (args : List AV) (vw : View) (site : Nat) : Ans := match roD [(.st 2)] vw args with
  | some d => ⟨LLM, f88 L N d.1, fun y => (RN.av site (.agg []) (()), [(site, some (mkO (some 0) 51 (.sl (.st 0)) y))], [])⟩
  | none => Ans.no
noncomputable def E88 (L N : Nat) : Env := { P := Try.prog, ty := tyOf, Φ := (Φ124 L N), inl := inlT, live := lives, liveX := livesX, L := L, dp := (some 0), prom := promT, heal := healT, ren := renT }
noncomputable def f88.c0 : Code := loopAt 0 (codeOf Try.f88)
noncomputable def f88.c1 : Code := loopAt 2 f88.c0
noncomputable def f88.c2 : Code := loopAt 4 f88.c1
noncomputable def f88.c3 : Code := loopAt 6 f88.c2
theorem f88.s3_pre {R : Type} (L N : Nat) (κ : Ex → T → H → Option R) (rec : T → H → Option R) (s49 : LLI) (s50 : Int) (s51 : Int) (s52 : LI) (s53 : Int) (s54 : Int) (s55 : LM) (s56 : Int) (s57 : Int) (s58 : LI) (s59 : Int) (s60 : Int) (s61 : LLM) (s62 : Int) (s63 : Int) (s64 : LM) (s65 : LLM) (s66 : LLM) :
    evRd (E88 L N) (evCallI (E88 L N) 1 2000) 1000 88 79 6 f88.c3 κ rec (f88.T3 s49 s50 s51 s52 s53 s54 s55 s56 s57 s58 s59 s60 s61 s62 s63 s64 s65 s66) (f88.H3 s49 s50 s51 s52 s53 s54 s55 s56 s57 s58 s59 s60 s61 s62 s63 s64 s65 s66)
    = f88.s3' L N (fun z67 z68 z69 z70 z71 z72 z73 z74 z75 z76 z77 z78 z79 => κ (.exit 6) (f88.T3_e6 z67 z68 z69 z70 z71 z72 z73 z74 z75 z76 z77 z78 z79) (f88.H3_e6 z67 z68 z69 z70 z71 z72 z73 z74 z75 z76 z77 z78 z79)) (fun s49 s50 s51 s52 s53 s54 s55 s56 s57 s58 s59 s60 s61 s62 s63 s64 s65 s66 => rec (f88.T3 s49 s50 s51 s52 s53 s54 s55 s56 s57 s58 s59 s60 s61 s62 s63 s64 s65 s66) (f88.H3 s49 s50 s51 s52 s53 s54 s55 s56 s57 s58 s59 s60 s61 s62 s63 s64 s65 s66)) s49 s50 s51 s52 s53 s54 s55 s56 s57 s58 s59 s60 s61 s62 s63 s64 s65 s66 := by kernel_rfl
theorem f88.s3_eq {R : Type} (L N : Nat) (κ : Ex → T → H → Option R) (rec : T → H → Option R) (s49 : LLI) (s50 : Int) (s51 : Int) (s52 : LI) (s53 : Int) (s54 : Int) (s55 : LM) (s56 : Int) (s57 : Int) (s58 : LI) (s59 : Int) (s60 : Int) (s61 : LLM) (s62 : Int) (s63 : Int) (s64 : LM) (s65 : LLM) (s66 : LLM) :
    evRd (E88 L N) (evCallI (E88 L N) 1 2000) 1000 88 79 6 f88.c3 κ rec (f88.T3 s49 s50 s51 s52 s53 s54 s55 s56 s57 s58 s59 s60 s61 s62 s63 s64 s65 s66) (f88.H3 s49 s50 s51 s52 s53 s54 s55 s56 s57 s58 s59 s60 s61 s62 s63 s64 s65 s66)
    = f88.s3 L N (fun z67 z68 z69 z70 z71 z72 z73 z74 z75 z76 z77 z78 z79 => κ (.exit 6) (f88.T3_e6 z67 z68 z69 z70 z71 z72 z73 z74 z75 z76 z77 z78 z79) (f88.H3_e6 z67 z68 z69 z70 z71 z72 z73 z74 z75 z76 z77 z78 z79)) (fun s49 s50 s51 s52 s53 s54 s55 s56 s57 s58 s59 s60 s61 s62 s63 s64 s65 s66 => rec (f88.T3 s49 s50 s51 s52 s53 s54 s55 s56 s57 s58 s59 s60 s61 s62 s63 s64 s65 s66) (f88.H3 s49 s50 s51 s52 s53 s54 s55 s56 s57 s58 s59 s60 s61 s62 s63 s64 s65 s66)) s49 s50 s51 s52 s53 s54 s55 s56 s57 s58 s59 s60 s61 s62 s63 s64 s65 s66 := by
  rw [f88.s3_pre]
  unfold f88.s3
  rfl
theorem f88.l3_eq {R : Type} (L N : Nat) (κ : Ex → T → H → Option R) : ∀ (n : Nat) (s49 : LLI) (s50 : Int) (s51 : Int) (s52 : LI) (s53 : Int) (s54 : Int) (s55 : LM) (s56 : Int) (s57 : Int) (s58 : LI) (s59 : Int) (s60 : Int) (s61 : LLM) (s62 : Int) (s63 : Int) (s64 : LM) (s65 : LLM) (s66 : LLM),
    evLp (E88 L N) (evCallI (E88 L N) 1 2000) 1000 88 79 6 f88.c3 κ n (f88.T3 s49 s50 s51 s52 s53 s54 s55 s56 s57 s58 s59 s60 s61 s62 s63 s64 s65 s66) (f88.H3 s49 s50 s51 s52 s53 s54 s55 s56 s57 s58 s59 s60 s61 s62 s63 s64 s65 s66)
    = f88.l3 L N (fun z67 z68 z69 z70 z71 z72 z73 z74 z75 z76 z77 z78 z79 => κ (.exit 6) (f88.T3_e6 z67 z68 z69 z70 z71 z72 z73 z74 z75 z76 z77 z78 z79) (f88.H3_e6 z67 z68 z69 z70 z71 z72 z73 z74 z75 z76 z77 z78 z79)) n s49 s50 s51 s52 s53 s54 s55 s56 s57 s58 s59 s60 s61 s62 s63 s64 s65 s66 := by
  intro n
  induction n with
  | zero => intros; rfl
  | succ n ih =>
    intro s49 s50 s51 s52 s53 s54 s55 s56 s57 s58 s59 s60 s61 s62 s63 s64 s65 s66
    rw [evLp_succ, f88.s3_eq]
    simp only [ih]
    rfl
theorem f88.p3_e6_pre {R : Type} (L N : Nat) (κ : Ex → T → H → Option R) (rec : T → H → Option R) (z67 : LLI) (z68 : Int) (z69 : Int) (z70 : LI) (z71 : Int) (z72 : Int) (z73 : LM) (z74 : Int) (z75 : Int) (z76 : LLM) (z77 : LM) (z78 : LLM) (z79 : LLM) :
    (contAt (E88 L N) (evCallI (E88 L N) 1 2000) 1000 88 79 6 f88.c2 (stepK (outK (keepT 79 ((E88 L N).liveX 88 4).1) (keepH 1000 ((E88 L N).liveX 88 4).2) κ) fun t h => rec (backK 1000 79 ((E88 L N).live 88 4).1 ((E88 L N).live 88 4).2 ((E88 L N).heal 88 4) ((E88 L N).ren 88 4) t h).1 (backK 1000 79 ((E88 L N).live 88 4).1 ((E88 L N).live 88 4).2 ((E88 L N).heal 88 4) ((E88 L N).ren 88 4) t h).2)) (.exit 6) (f88.T3_e6 z67 z68 z69 z70 z71 z72 z73 z74 z75 z76 z77 z78 z79) (f88.H3_e6 z67 z68 z69 z70 z71 z72 z73 z74 z75 z76 z77 z78 z79)
    = f88.p3_e6' L N (fun z39 z40 z41 z42 z43 z44 z45 z46 z47 z48 => κ (.exit 4) (f88.T2_e4 z39 z40 z41 z42 z43 z44 z45 z46 z47 z48) (f88.H2_e4 z39 z40 z41 z42 z43 z44 z45 z46 z47 z48)) (fun s26 s27 s28 s29 s30 s31 s32 s33 s34 s35 s36 s37 s38 => rec (f88.T2 s26 s27 s28 s29 s30 s31 s32 s33 s34 s35 s36 s37 s38) (f88.H2 s26 s27 s28 s29 s30 s31 s32 s33 s34 s35 s36 s37 s38)) z67 z68 z69 z70 z71 z72 z73 z74 z75 z76 z77 z78 z79 := by kernel_rfl
theorem f88.p3_e6_eq {R : Type} (L N : Nat) (κ : Ex → T → H → Option R) (rec : T → H → Option R) (z67 : LLI) (z68 : Int) (z69 : Int) (z70 : LI) (z71 : Int) (z72 : Int) (z73 : LM) (z74 : Int) (z75 : Int) (z76 : LLM) (z77 : LM) (z78 : LLM) (z79 : LLM) :
    (contAt (E88 L N) (evCallI (E88 L N) 1 2000) 1000 88 79 6 f88.c2 (stepK (outK (keepT 79 ((E88 L N).liveX 88 4).1) (keepH 1000 ((E88 L N).liveX 88 4).2) κ) fun t h => rec (backK 1000 79 ((E88 L N).live 88 4).1 ((E88 L N).live 88 4).2 ((E88 L N).heal 88 4) ((E88 L N).ren 88 4) t h).1 (backK 1000 79 ((E88 L N).live 88 4).1 ((E88 L N).live 88 4).2 ((E88 L N).heal 88 4) ((E88 L N).ren 88 4) t h).2)) (.exit 6) (f88.T3_e6 z67 z68 z69 z70 z71 z72 z73 z74 z75 z76 z77 z78 z79) (f88.H3_e6 z67 z68 z69 z70 z71 z72 z73 z74 z75 z76 z77 z78 z79)
    = f88.p3_e6 L N (fun z39 z40 z41 z42 z43 z44 z45 z46 z47 z48 => κ (.exit 4) (f88.T2_e4 z39 z40 z41 z42 z43 z44 z45 z46 z47 z48) (f88.H2_e4 z39 z40 z41 z42 z43 z44 z45 z46 z47 z48)) (fun s26 s27 s28 s29 s30 s31 s32 s33 s34 s35 s36 s37 s38 => rec (f88.T2 s26 s27 s28 s29 s30 s31 s32 s33 s34 s35 s36 s37 s38) (f88.H2 s26 s27 s28 s29 s30 s31 s32 s33 s34 s35 s36 s37 s38)) z67 z68 z69 z70 z71 z72 z73 z74 z75 z76 z77 z78 z79 := by
  rw [f88.p3_e6_pre]
  unfold f88.p3_e6
  rfl
theorem f88.s2_pre {R : Type} (L N : Nat) (κ : Ex → T → H → Option R) (rec : T → H → Option R) (s26 : LLI) (s27 : Int) (s28 : Int) (s29 : LI) (s30 : Int) (s31 : Int) (s32 : LM) (s33 : Int) (s34 : Int) (s35 : LLM) (s36 : LM) (s37 : LLM) (s38 : LLM) :
    evRd (E88 L N) (evCallI (E88 L N) 1 2000) 1000 88 79 4 f88.c2 κ rec (f88.T2 s26 s27 s28 s29 s30 s31 s32 s33 s34 s35 s36 s37 s38) (f88.H2 s26 s27 s28 s29 s30 s31 s32 s33 s34 s35 s36 s37 s38)
    = f88.s2' L N (fun z39 z40 z41 z42 z43 z44 z45 z46 z47 z48 => κ (.exit 4) (f88.T2_e4 z39 z40 z41 z42 z43 z44 z45 z46 z47 z48) (f88.H2_e4 z39 z40 z41 z42 z43 z44 z45 z46 z47 z48)) (fun s26 s27 s28 s29 s30 s31 s32 s33 s34 s35 s36 s37 s38 => rec (f88.T2 s26 s27 s28 s29 s30 s31 s32 s33 s34 s35 s36 s37 s38) (f88.H2 s26 s27 s28 s29 s30 s31 s32 s33 s34 s35 s36 s37 s38)) (fun s49 s50 s51 s52 s53 s54 s55 s56 s57 s58 s59 s60 s61 s62 s63 s64 s65 s66 => evLp (E88 L N) (evCallI (E88 L N) 1 2000) 1000 88 79 6 f88.c3 (contAt (E88 L N) (evCallI (E88 L N) 1 2000) 1000 88 79 6 f88.c2 (stepK (outK (keepT 79 ((E88 L N).liveX 88 4).1) (keepH 1000 ((E88 L N).liveX 88 4).2) κ) fun t h => rec (backK 1000 79 ((E88 L N).live 88 4).1 ((E88 L N).live 88 4).2 ((E88 L N).heal 88 4) ((E88 L N).ren 88 4) t h).1 (backK 1000 79 ((E88 L N).live 88 4).1 ((E88 L N).live 88 4).2 ((E88 L N).heal 88 4) ((E88 L N).ren 88 4) t h).2)) L (f88.T3 s49 s50 s51 s52 s53 s54 s55 s56 s57 s58 s59 s60 s61 s62 s63 s64 s65 s66) (f88.H3 s49 s50 s51 s52 s53 s54 s55 s56 s57 s58 s59 s60 s61 s62 s63 s64 s65 s66)) s26 s27 s28 s29 s30 s31 s32 s33 s34 s35 s36 s37 s38 := by kernel_rfl
theorem f88.s2_eq {R : Type} (L N : Nat) (κ : Ex → T → H → Option R) (rec : T → H → Option R) (s26 : LLI) (s27 : Int) (s28 : Int) (s29 : LI) (s30 : Int) (s31 : Int) (s32 : LM) (s33 : Int) (s34 : Int) (s35 : LLM) (s36 : LM) (s37 : LLM) (s38 : LLM) :
    evRd (E88 L N) (evCallI (E88 L N) 1 2000) 1000 88 79 4 f88.c2 κ rec (f88.T2 s26 s27 s28 s29 s30 s31 s32 s33 s34 s35 s36 s37 s38) (f88.H2 s26 s27 s28 s29 s30 s31 s32 s33 s34 s35 s36 s37 s38)
    = f88.s2 L N (fun z39 z40 z41 z42 z43 z44 z45 z46 z47 z48 => κ (.exit 4) (f88.T2_e4 z39 z40 z41 z42 z43 z44 z45 z46 z47 z48) (f88.H2_e4 z39 z40 z41 z42 z43 z44 z45 z46 z47 z48)) (fun s26 s27 s28 s29 s30 s31 s32 s33 s34 s35 s36 s37 s38 => rec (f88.T2 s26 s27 s28 s29 s30 s31 s32 s33 s34 s35 s36 s37 s38) (f88.H2 s26 s27 s28 s29 s30 s31 s32 s33 s34 s35 s36 s37 s38)) s26 s27 s28 s29 s30 s31 s32 s33 s34 s35 s36 s37 s38 := by
  rw [f88.s2_pre]
  unfold f88.s2
  simp only [f88.l3_eq, f88.p3_e6_eq]
theorem f88.l2_eq {R : Type} (L N : Nat) (κ : Ex → T → H → Option R) : ∀ (n : Nat) (s26 : LLI) (s27 : Int) (s28 : Int) (s29 : LI) (s30 : Int) (s31 : Int) (s32 : LM) (s33 : Int) (s34 : Int) (s35 : LLM) (s36 : LM) (s37 : LLM) (s38 : LLM),
    evLp (E88 L N) (evCallI (E88 L N) 1 2000) 1000 88 79 4 f88.c2 κ n (f88.T2 s26 s27 s28 s29 s30 s31 s32 s33 s34 s35 s36 s37 s38) (f88.H2 s26 s27 s28 s29 s30 s31 s32 s33 s34 s35 s36 s37 s38)
    = f88.l2 L N (fun z39 z40 z41 z42 z43 z44 z45 z46 z47 z48 => κ (.exit 4) (f88.T2_e4 z39 z40 z41 z42 z43 z44 z45 z46 z47 z48) (f88.H2_e4 z39 z40 z41 z42 z43 z44 z45 z46 z47 z48)) n s26 s27 s28 s29 s30 s31 s32 s33 s34 s35 s36 s37 s38 := by
  intro n
  induction n with
  | zero => intros; rfl
  | succ n ih =>
    intro s26 s27 s28 s29 s30 s31 s32 s33 s34 s35 s36 s37 s38
    rw [evLp_succ, f88.s2_eq]
    simp only [ih]
    rfl
theorem f88.p2_e4_pre {R : Type} (L N : Nat) (κ : Ex → T → H → Option R) (rec : T → H → Option R) (z39 : LLI) (z40 : Int) (z41 : Int) (z42 : LI) (z43 : Int) (z44 : Int) (z45 : LLM) (z46 : LM) (z47 : LLM) (z48 : LLM) :
    (contAt (E88 L N) (evCallI (E88 L N) 1 2000) 1000 88 79 4 f88.c1 (stepK (outK (keepT 79 ((E88 L N).liveX 88 2).1) (keepH 1000 ((E88 L N).liveX 88 2).2) κ) fun t h => rec (backK 1000 79 ((E88 L N).live 88 2).1 ((E88 L N).live 88 2).2 ((E88 L N).heal 88 2) ((E88 L N).ren 88 2) t h).1 (backK 1000 79 ((E88 L N).live 88 2).1 ((E88 L N).live 88 2).2 ((E88 L N).heal 88 2) ((E88 L N).ren 88 2) t h).2)) (.exit 4) (f88.T2_e4 z39 z40 z41 z42 z43 z44 z45 z46 z47 z48) (f88.H2_e4 z39 z40 z41 z42 z43 z44 z45 z46 z47 z48)
    = f88.p2_e4' L N (fun z19 z20 z21 z22 z23 z24 z25 => κ (.exit 2) (f88.T1_e2 z19 z20 z21 z22 z23 z24 z25) (f88.H1_e2 z19 z20 z21 z22 z23 z24 z25)) (fun s9 s10 s11 s12 s13 s14 s15 s16 s17 s18 => rec (f88.T1 s9 s10 s11 s12 s13 s14 s15 s16 s17 s18) (f88.H1 s9 s10 s11 s12 s13 s14 s15 s16 s17 s18)) z39 z40 z41 z42 z43 z44 z45 z46 z47 z48 := by kernel_rfl
theorem f88.p2_e4_eq {R : Type} (L N : Nat) (κ : Ex → T → H → Option R) (rec : T → H → Option R) (z39 : LLI) (z40 : Int) (z41 : Int) (z42 : LI) (z43 : Int) (z44 : Int) (z45 : LLM) (z46 : LM) (z47 : LLM) (z48 : LLM) :
    (contAt (E88 L N) (evCallI (E88 L N) 1 2000) 1000 88 79 4 f88.c1 (stepK (outK (keepT 79 ((E88 L N).liveX 88 2).1) (keepH 1000 ((E88 L N).liveX 88 2).2) κ) fun t h => rec (backK 1000 79 ((E88 L N).live 88 2).1 ((E88 L N).live 88 2).2 ((E88 L N).heal 88 2) ((E88 L N).ren 88 2) t h).1 (backK 1000 79 ((E88 L N).live 88 2).1 ((E88 L N).live 88 2).2 ((E88 L N).heal 88 2) ((E88 L N).ren 88 2) t h).2)) (.exit 4) (f88.T2_e4 z39 z40 z41 z42 z43 z44 z45 z46 z47 z48) (f88.H2_e4 z39 z40 z41 z42 z43 z44 z45 z46 z47 z48)
    = f88.p2_e4 L N (fun z19 z20 z21 z22 z23 z24 z25 => κ (.exit 2) (f88.T1_e2 z19 z20 z21 z22 z23 z24 z25) (f88.H1_e2 z19 z20 z21 z22 z23 z24 z25)) (fun s9 s10 s11 s12 s13 s14 s15 s16 s17 s18 => rec (f88.T1 s9 s10 s11 s12 s13 s14 s15 s16 s17 s18) (f88.H1 s9 s10 s11 s12 s13 s14 s15 s16 s17 s18)) z39 z40 z41 z42 z43 z44 z45 z46 z47 z48 := by
  rw [f88.p2_e4_pre]
  unfold f88.p2_e4
  rfl
theorem f88.s1_pre {R : Type} (L N : Nat) (κ : Ex → T → H → Option R) (rec : T → H → Option R) (s9 : LLI) (s10 : Int) (s11 : Int) (s12 : LI) (s13 : Int) (s14 : Int) (s15 : LLM) (s16 : LM) (s17 : LLM) (s18 : LLM) :
    evRd (E88 L N) (evCallI (E88 L N) 1 2000) 1000 88 79 2 f88.c1 κ rec (f88.T1 s9 s10 s11 s12 s13 s14 s15 s16 s17 s18) (f88.H1 s9 s10 s11 s12 s13 s14 s15 s16 s17 s18)
    = f88.s1' L N (fun z19 z20 z21 z22 z23 z24 z25 => κ (.exit 2) (f88.T1_e2 z19 z20 z21 z22 z23 z24 z25) (f88.H1_e2 z19 z20 z21 z22 z23 z24 z25)) (fun s9 s10 s11 s12 s13 s14 s15 s16 s17 s18 => rec (f88.T1 s9 s10 s11 s12 s13 s14 s15 s16 s17 s18) (f88.H1 s9 s10 s11 s12 s13 s14 s15 s16 s17 s18)) (fun s26 s27 s28 s29 s30 s31 s32 s33 s34 s35 s36 s37 s38 => evLp (E88 L N) (evCallI (E88 L N) 1 2000) 1000 88 79 4 f88.c2 (contAt (E88 L N) (evCallI (E88 L N) 1 2000) 1000 88 79 4 f88.c1 (stepK (outK (keepT 79 ((E88 L N).liveX 88 2).1) (keepH 1000 ((E88 L N).liveX 88 2).2) κ) fun t h => rec (backK 1000 79 ((E88 L N).live 88 2).1 ((E88 L N).live 88 2).2 ((E88 L N).heal 88 2) ((E88 L N).ren 88 2) t h).1 (backK 1000 79 ((E88 L N).live 88 2).1 ((E88 L N).live 88 2).2 ((E88 L N).heal 88 2) ((E88 L N).ren 88 2) t h).2)) L (f88.T2 s26 s27 s28 s29 s30 s31 s32 s33 s34 s35 s36 s37 s38) (f88.H2 s26 s27 s28 s29 s30 s31 s32 s33 s34 s35 s36 s37 s38)) s9 s10 s11 s12 s13 s14 s15 s16 s17 s18 := by kernel_rfl
theorem f88.s1_eq {R : Type} (L N : Nat) (κ : Ex → T → H → Option R) (rec : T → H → Option R) (s9 : LLI) (s10 : Int) (s11 : Int) (s12 : LI) (s13 : Int) (s14 : Int) (s15 : LLM) (s16 : LM) (s17 : LLM) (s18 : LLM) :
    evRd (E88 L N) (evCallI (E88 L N) 1 2000) 1000 88 79 2 f88.c1 κ rec (f88.T1 s9 s10 s11 s12 s13 s14 s15 s16 s17 s18) (f88.H1 s9 s10 s11 s12 s13 s14 s15 s16 s17 s18)
    = f88.s1 L N (fun z19 z20 z21 z22 z23 z24 z25 => κ (.exit 2) (f88.T1_e2 z19 z20 z21 z22 z23 z24 z25) (f88.H1_e2 z19 z20 z21 z22 z23 z24 z25)) (fun s9 s10 s11 s12 s13 s14 s15 s16 s17 s18 => rec (f88.T1 s9 s10 s11 s12 s13 s14 s15 s16 s17 s18) (f88.H1 s9 s10 s11 s12 s13 s14 s15 s16 s17 s18)) s9 s10 s11 s12 s13 s14 s15 s16 s17 s18 := by
  rw [f88.s1_pre]
  unfold f88.s1
  simp only [f88.l2_eq, f88.p2_e4_eq]
theorem f88.l1_eq {R : Type} (L N : Nat) (κ : Ex → T → H → Option R) : ∀ (n : Nat) (s9 : LLI) (s10 : Int) (s11 : Int) (s12 : LI) (s13 : Int) (s14 : Int) (s15 : LLM) (s16 : LM) (s17 : LLM) (s18 : LLM),
    evLp (E88 L N) (evCallI (E88 L N) 1 2000) 1000 88 79 2 f88.c1 κ n (f88.T1 s9 s10 s11 s12 s13 s14 s15 s16 s17 s18) (f88.H1 s9 s10 s11 s12 s13 s14 s15 s16 s17 s18)
    = f88.l1 L N (fun z19 z20 z21 z22 z23 z24 z25 => κ (.exit 2) (f88.T1_e2 z19 z20 z21 z22 z23 z24 z25) (f88.H1_e2 z19 z20 z21 z22 z23 z24 z25)) n s9 s10 s11 s12 s13 s14 s15 s16 s17 s18 := by
  intro n
  induction n with
  | zero => intros; rfl
  | succ n ih =>
    intro s9 s10 s11 s12 s13 s14 s15 s16 s17 s18
    rw [evLp_succ, f88.s1_eq]
    simp only [ih]
    rfl
theorem f88.p1_e2_pre {R : Type} (L N : Nat) (κ : Ex → T → H → Option R) (rec : T → H → Option R) (z19 : LLI) (z20 : Int) (z21 : Int) (z22 : LLM) (z23 : LM) (z24 : LLM) (z25 : LLM) :
    (contAt (E88 L N) (evCallI (E88 L N) 1 2000) 1000 88 79 2 f88.c0 (stepK (outK (keepT 79 ((E88 L N).liveX 88 0).1) (keepH 1000 ((E88 L N).liveX 88 0).2) κ) fun t h => rec (backK 1000 79 ((E88 L N).live 88 0).1 ((E88 L N).live 88 0).2 ((E88 L N).heal 88 0) ((E88 L N).ren 88 0) t h).1 (backK 1000 79 ((E88 L N).live 88 0).1 ((E88 L N).live 88 0).2 ((E88 L N).heal 88 0) ((E88 L N).ren 88 0) t h).2)) (.exit 2) (f88.T1_e2 z19 z20 z21 z22 z23 z24 z25) (f88.H1_e2 z19 z20 z21 z22 z23 z24 z25)
    = f88.p1_e2' L N (fun z7 z8 => κ (.exit 0) (f88.T0_e0 z7 z8) (f88.H0_e0 z7 z8)) (fun s1 s2 s3 s4 s5 s6 => rec (f88.T0 s1 s2 s3 s4 s5 s6) (f88.H0 s1 s2 s3 s4 s5 s6)) z19 z20 z21 z22 z23 z24 z25 := by kernel_rfl
theorem f88.p1_e2_eq {R : Type} (L N : Nat) (κ : Ex → T → H → Option R) (rec : T → H → Option R) (z19 : LLI) (z20 : Int) (z21 : Int) (z22 : LLM) (z23 : LM) (z24 : LLM) (z25 : LLM) :
    (contAt (E88 L N) (evCallI (E88 L N) 1 2000) 1000 88 79 2 f88.c0 (stepK (outK (keepT 79 ((E88 L N).liveX 88 0).1) (keepH 1000 ((E88 L N).liveX 88 0).2) κ) fun t h => rec (backK 1000 79 ((E88 L N).live 88 0).1 ((E88 L N).live 88 0).2 ((E88 L N).heal 88 0) ((E88 L N).ren 88 0) t h).1 (backK 1000 79 ((E88 L N).live 88 0).1 ((E88 L N).live 88 0).2 ((E88 L N).heal 88 0) ((E88 L N).ren 88 0) t h).2)) (.exit 2) (f88.T1_e2 z19 z20 z21 z22 z23 z24 z25) (f88.H1_e2 z19 z20 z21 z22 z23 z24 z25)
    = f88.p1_e2 L N (fun z7 z8 => κ (.exit 0) (f88.T0_e0 z7 z8) (f88.H0_e0 z7 z8)) (fun s1 s2 s3 s4 s5 s6 => rec (f88.T0 s1 s2 s3 s4 s5 s6) (f88.H0 s1 s2 s3 s4 s5 s6)) z19 z20 z21 z22 z23 z24 z25 := by
  rw [f88.p1_e2_pre]
  unfold f88.p1_e2
  rfl
theorem f88.s0_pre {R : Type} (L N : Nat) (κ : Ex → T → H → Option R) (rec : T → H → Option R) (s1 : LLI) (s2 : Int) (s3 : Int) (s4 : LLM) (s5 : LLM) (s6 : LLM) :
    evRd (E88 L N) (evCallI (E88 L N) 1 2000) 1000 88 79 0 f88.c0 κ rec (f88.T0 s1 s2 s3 s4 s5 s6) (f88.H0 s1 s2 s3 s4 s5 s6)
    = f88.s0' L N (fun z7 z8 => κ (.exit 0) (f88.T0_e0 z7 z8) (f88.H0_e0 z7 z8)) (fun s1 s2 s3 s4 s5 s6 => rec (f88.T0 s1 s2 s3 s4 s5 s6) (f88.H0 s1 s2 s3 s4 s5 s6)) (fun s9 s10 s11 s12 s13 s14 s15 s16 s17 s18 => evLp (E88 L N) (evCallI (E88 L N) 1 2000) 1000 88 79 2 f88.c1 (contAt (E88 L N) (evCallI (E88 L N) 1 2000) 1000 88 79 2 f88.c0 (stepK (outK (keepT 79 ((E88 L N).liveX 88 0).1) (keepH 1000 ((E88 L N).liveX 88 0).2) κ) fun t h => rec (backK 1000 79 ((E88 L N).live 88 0).1 ((E88 L N).live 88 0).2 ((E88 L N).heal 88 0) ((E88 L N).ren 88 0) t h).1 (backK 1000 79 ((E88 L N).live 88 0).1 ((E88 L N).live 88 0).2 ((E88 L N).heal 88 0) ((E88 L N).ren 88 0) t h).2)) L (f88.T1 s9 s10 s11 s12 s13 s14 s15 s16 s17 s18) (f88.H1 s9 s10 s11 s12 s13 s14 s15 s16 s17 s18)) s1 s2 s3 s4 s5 s6 := by kernel_rfl
theorem f88.s0_eq {R : Type} (L N : Nat) (κ : Ex → T → H → Option R) (rec : T → H → Option R) (s1 : LLI) (s2 : Int) (s3 : Int) (s4 : LLM) (s5 : LLM) (s6 : LLM) :
    evRd (E88 L N) (evCallI (E88 L N) 1 2000) 1000 88 79 0 f88.c0 κ rec (f88.T0 s1 s2 s3 s4 s5 s6) (f88.H0 s1 s2 s3 s4 s5 s6)
    = f88.s0 L N (fun z7 z8 => κ (.exit 0) (f88.T0_e0 z7 z8) (f88.H0_e0 z7 z8)) (fun s1 s2 s3 s4 s5 s6 => rec (f88.T0 s1 s2 s3 s4 s5 s6) (f88.H0 s1 s2 s3 s4 s5 s6)) s1 s2 s3 s4 s5 s6 := by
  rw [f88.s0_pre]
  unfold f88.s0
  simp only [f88.l1_eq, f88.p1_e2_eq]
theorem f88.l0_eq {R : Type} (L N : Nat) (κ : Ex → T → H → Option R) : ∀ (n : Nat) (s1 : LLI) (s2 : Int) (s3 : Int) (s4 : LLM) (s5 : LLM) (s6 : LLM),
    evLp (E88 L N) (evCallI (E88 L N) 1 2000) 1000 88 79 0 f88.c0 κ n (f88.T0 s1 s2 s3 s4 s5 s6) (f88.H0 s1 s2 s3 s4 s5 s6)
    = f88.l0 L N (fun z7 z8 => κ (.exit 0) (f88.T0_e0 z7 z8) (f88.H0_e0 z7 z8)) n s1 s2 s3 s4 s5 s6 := by
  intro n
  induction n with
  | zero => intros; rfl
  | succ n ih =>
    intro s1 s2 s3 s4 s5 s6
    rw [evLp_succ, f88.s0_eq]
    simp only [ih]
    rfl
theorem f88.p0_e0_pre {R : Type} (L N : Nat) (κ : RN.Den (.agg []) → List LM → Option R) (z7 : LLM) (z8 : LLM) :
    (contAt (E88 L N) (evCallI (E88 L N) 1 2000) 1000 88 79 0 (codeOf Try.f88) (finK (E88 L N) 1000 Try.f88 (finN (.agg []) (some 0) 51 (.sl (.st 0)) κ))) (.exit 0) (f88.T0_e0 z7 z8) (f88.H0_e0 z7 z8)
    = f88.p0_e0' L N (fun a0 => κ (()) a0) z7 z8 := by kernel_rfl
theorem f88.p0_e0_eq {R : Type} (L N : Nat) (κ : RN.Den (.agg []) → List LM → Option R) (z7 : LLM) (z8 : LLM) :
    (contAt (E88 L N) (evCallI (E88 L N) 1 2000) 1000 88 79 0 (codeOf Try.f88) (finK (E88 L N) 1000 Try.f88 (finN (.agg []) (some 0) 51 (.sl (.st 0)) κ))) (.exit 0) (f88.T0_e0 z7 z8) (f88.H0_e0 z7 z8)
    = f88.p0_e0 L N (fun a0 => κ (()) a0) z7 z8 := by
  rw [f88.p0_e0_pre]
  unfold f88.p0_e0
  rfl
theorem f88.b_pre {R : Type} (L N : Nat) (κ : RN.Den (.agg []) → List LM → Option R) (x0 : Graph) :
    evBody (E88 L N) (evCallI (E88 L N) 1 2000) 1000 88 Try.f88 [(.tv (.st 2) x0)] [] [] (finN (.agg []) (some 0) 51 (.sl (.st 0)) κ)
    = f88.b' L N (fun a0 => κ (()) a0) (fun s1 s2 s3 s4 s5 s6 => evLp (E88 L N) (evCallI (E88 L N) 1 2000) 1000 88 79 0 f88.c0 (contAt (E88 L N) (evCallI (E88 L N) 1 2000) 1000 88 79 0 (codeOf Try.f88) (finK (E88 L N) 1000 Try.f88 (finN (.agg []) (some 0) 51 (.sl (.st 0)) κ))) L (f88.T0 s1 s2 s3 s4 s5 s6) (f88.H0 s1 s2 s3 s4 s5 s6)) x0 := by kernel_rfl
theorem f88.b_eq {R : Type} (L N : Nat) (κ : RN.Den (.agg []) → List LM → Option R) (x0 : Graph) :
    evBody (E88 L N) (evCallI (E88 L N) 1 2000) 1000 88 Try.f88 [(.tv (.st 2) x0)] [] [] (finN (.agg []) (some 0) 51 (.sl (.st 0)) κ)
    = f88.b L N (fun a0 => κ (()) a0) x0 := by
  rw [f88.b_pre]
  unfold f88.b
  simp only [f88.l0_eq, f88.p0_e0_eq]
theorem f88.s3'_nat {R R' : Type} (j : R → Option R') (L N : Nat) (k3_e6 : LLI → Int → Int → LI → Int → Int → LM → Int → Int → LLM → LM → LLM → LLM → Option R) (rec3 : LLI → Int → Int → LI → Int → Int → LM → Int → Int → LI → Int → Int → LLM → Int → Int → LM → LLM → LLM → Option R) (s49 : LLI) (s50 : Int) (s51 : Int) (s52 : LI) (s53 : Int) (s54 : Int) (s55 : LM) (s56 : Int) (s57 : Int) (s58 : LI) (s59 : Int) (s60 : Int) (s61 : LLM) (s62 : Int) (s63 : Int) (s64 : LM) (s65 : LLM) (s66 : LLM) :
    f88.s3' L N (fun a0 a1 a2 a3 a4 a5 a6 a7 a8 a9 a10 a11 a12 => (k3_e6 a0 a1 a2 a3 a4 a5 a6 a7 a8 a9 a10 a11 a12).bind j) (fun a0 a1 a2 a3 a4 a5 a6 a7 a8 a9 a10 a11 a12 a13 a14 a15 a16 a17 => (rec3 a0 a1 a2 a3 a4 a5 a6 a7 a8 a9 a10 a11 a12 a13 a14 a15 a16 a17).bind j) s49 s50 s51 s52 s53 s54 s55 s56 s57 s58 s59 s60 s61 s62 s63 s64 s65 s66 = (f88.s3' L N k3_e6 rec3 s49 s50 s51 s52 s53 s54 s55 s56 s57 s58 s59 s60 s61 s62 s63 s64 s65 s66).bind j := by
  unfold f88.s3'
  repeat' (first | (with_reducible refine cond_nat ?_ ?_) | (with_reducible refine bind_nat fun _ => ?_) | rfl)
theorem f88.s3_nat {R R' : Type} (j : R → Option R') (L N : Nat) (k3_e6 : LLI → Int → Int → LI → Int → Int → LM → Int → Int → LLM → LM → LLM → LLM → Option R) (rec3 : LLI → Int → Int → LI → Int → Int → LM → Int → Int → LI → Int → Int → LLM → Int → Int → LM → LLM → LLM → Option R) (s49 : LLI) (s50 : Int) (s51 : Int) (s52 : LI) (s53 : Int) (s54 : Int) (s55 : LM) (s56 : Int) (s57 : Int) (s58 : LI) (s59 : Int) (s60 : Int) (s61 : LLM) (s62 : Int) (s63 : Int) (s64 : LM) (s65 : LLM) (s66 : LLM) :
    f88.s3 L N (fun a0 a1 a2 a3 a4 a5 a6 a7 a8 a9 a10 a11 a12 => (k3_e6 a0 a1 a2 a3 a4 a5 a6 a7 a8 a9 a10 a11 a12).bind j) (fun a0 a1 a2 a3 a4 a5 a6 a7 a8 a9 a10 a11 a12 a13 a14 a15 a16 a17 => (rec3 a0 a1 a2 a3 a4 a5 a6 a7 a8 a9 a10 a11 a12 a13 a14 a15 a16 a17).bind j) s49 s50 s51 s52 s53 s54 s55 s56 s57 s58 s59 s60 s61 s62 s63 s64 s65 s66 = (f88.s3 L N k3_e6 rec3 s49 s50 s51 s52 s53 s54 s55 s56 s57 s58 s59 s60 s61 s62 s63 s64 s65 s66).bind j := by
  unfold f88.s3
  exact f88.s3'_nat ..
theorem f88.l3_nat {R R' : Type} (j : R → Option R') (L N : Nat) (k3_e6 : LLI → Int → Int → LI → Int → Int → LM → Int → Int → LLM → LM → LLM → LLM → Option R) : ∀ (n : Nat) (s49 : LLI) (s50 : Int) (s51 : Int) (s52 : LI) (s53 : Int) (s54 : Int) (s55 : LM) (s56 : Int) (s57 : Int) (s58 : LI) (s59 : Int) (s60 : Int) (s61 : LLM) (s62 : Int) (s63 : Int) (s64 : LM) (s65 : LLM) (s66 : LLM),
    f88.l3 L N (fun a0 a1 a2 a3 a4 a5 a6 a7 a8 a9 a10 a11 a12 => (k3_e6 a0 a1 a2 a3 a4 a5 a6 a7 a8 a9 a10 a11 a12).bind j) n s49 s50 s51 s52 s53 s54 s55 s56 s57 s58 s59 s60 s61 s62 s63 s64 s65 s66 = (f88.l3 L N k3_e6 n s49 s50 s51 s52 s53 s54 s55 s56 s57 s58 s59 s60 s61 s62 s63 s64 s65 s66).bind j := by
  intro n
  induction n with
  | zero => intros; rfl
  | succ n ih =>
    intro s49 s50 s51 s52 s53 s54 s55 s56 s57 s58 s59 s60 s61 s62 s63 s64 s65 s66
    show f88.s3 L N (fun a0 a1 a2 a3 a4 a5 a6 a7 a8 a9 a10 a11 a12 => (k3_e6 a0 a1 a2 a3 a4 a5 a6 a7 a8 a9 a10 a11 a12).bind j) (f88.l3 L N (fun a0 a1 a2 a3 a4 a5 a6 a7 a8 a9 a10 a11 a12 => (k3_e6 a0 a1 a2 a3 a4 a5 a6 a7 a8 a9 a10 a11 a12).bind j) n) s49 s50 s51 s52 s53 s54 s55 s56 s57 s58 s59 s60 s61 s62 s63 s64 s65 s66 = _
    rw [show f88.l3 L N (fun a0 a1 a2 a3 a4 a5 a6 a7 a8 a9 a10 a11 a12 => (k3_e6 a0 a1 a2 a3 a4 a5 a6 a7 a8 a9 a10 a11 a12).bind j) n = (fun s49 s50 s51 s52 s53 s54 s55 s56 s57 s58 s59 s60 s61 s62 s63 s64 s65 s66 => (f88.l3 L N k3_e6 n s49 s50 s51 s52 s53 s54 s55 s56 s57 s58 s59 s60 s61 s62 s63 s64 s65 s66).bind j) from funext fun s49 => funext fun s50 => funext fun s51 => funext fun s52 => funext fun s53 => funext fun s54 => funext fun s55 => funext fun s56 => funext fun s57 => funext fun s58 => funext fun s59 => funext fun s60 => funext fun s61 => funext fun s62 => funext fun s63 => funext fun s64 => funext fun s65 => funext fun s66 => ih s49 s50 s51 s52 s53 s54 s55 s56 s57 s58 s59 s60 s61 s62 s63 s64 s65 s66]
    exact f88.s3_nat ..
theorem f88.p3_e6'_nat {R R' : Type} (j : R → Option R') (L N : Nat) (k2_e4 : LLI → Int → Int → LI → Int → Int → LLM → LM → LLM → LLM → Option R) (rec2 : LLI → Int → Int → LI → Int → Int → LM → Int → Int → LLM → LM → LLM → LLM → Option R) (z67 : LLI) (z68 : Int) (z69 : Int) (z70 : LI) (z71 : Int) (z72 : Int) (z73 : LM) (z74 : Int) (z75 : Int) (z76 : LLM) (z77 : LM) (z78 : LLM) (z79 : LLM) :
    f88.p3_e6' L N (fun a0 a1 a2 a3 a4 a5 a6 a7 a8 a9 => (k2_e4 a0 a1 a2 a3 a4 a5 a6 a7 a8 a9).bind j) (fun a0 a1 a2 a3 a4 a5 a6 a7 a8 a9 a10 a11 a12 => (rec2 a0 a1 a2 a3 a4 a5 a6 a7 a8 a9 a10 a11 a12).bind j) z67 z68 z69 z70 z71 z72 z73 z74 z75 z76 z77 z78 z79 = (f88.p3_e6' L N k2_e4 rec2 z67 z68 z69 z70 z71 z72 z73 z74 z75 z76 z77 z78 z79).bind j := by
  unfold f88.p3_e6'
  repeat' (first | (with_reducible refine cond_nat ?_ ?_) | (with_reducible refine bind_nat fun _ => ?_) | rfl)
theorem f88.p3_e6_nat {R R' : Type} (j : R → Option R') (L N : Nat) (k2_e4 : LLI → Int → Int → LI → Int → Int → LLM → LM → LLM → LLM → Option R) (rec2 : LLI → Int → Int → LI → Int → Int → LM → Int → Int → LLM → LM → LLM → LLM → Option R) (z67 : LLI) (z68 : Int) (z69 : Int) (z70 : LI) (z71 : Int) (z72 : Int) (z73 : LM) (z74 : Int) (z75 : Int) (z76 : LLM) (z77 : LM) (z78 : LLM) (z79 : LLM) :
    f88.p3_e6 L N (fun a0 a1 a2 a3 a4 a5 a6 a7 a8 a9 => (k2_e4 a0 a1 a2 a3 a4 a5 a6 a7 a8 a9).bind j) (fun a0 a1 a2 a3 a4 a5 a6 a7 a8 a9 a10 a11 a12 => (rec2 a0 a1 a2 a3 a4 a5 a6 a7 a8 a9 a10 a11 a12).bind j) z67 z68 z69 z70 z71 z72 z73 z74 z75 z76 z77 z78 z79 = (f88.p3_e6 L N k2_e4 rec2 z67 z68 z69 z70 z71 z72 z73 z74 z75 z76 z77 z78 z79).bind j := by
  unfold f88.p3_e6
  exact f88.p3_e6'_nat ..
theorem f88.s2'_nat {R R' : Type} (j : R → Option R') (L N : Nat) (k2_e4 : LLI → Int → Int → LI → Int → Int → LLM → LM → LLM → LLM → Option R) (rec2 : LLI → Int → Int → LI → Int → Int → LM → Int → Int → LLM → LM → LLM → LLM → Option R) (w3 : LLI → Int → Int → LI → Int → Int → LM → Int → Int → LI → Int → Int → LLM → Int → Int → LM → LLM → LLM → Option R) (s26 : LLI) (s27 : Int) (s28 : Int) (s29 : LI) (s30 : Int) (s31 : Int) (s32 : LM) (s33 : Int) (s34 : Int) (s35 : LLM) (s36 : LM) (s37 : LLM) (s38 : LLM) :
    f88.s2' L N (fun a0 a1 a2 a3 a4 a5 a6 a7 a8 a9 => (k2_e4 a0 a1 a2 a3 a4 a5 a6 a7 a8 a9).bind j) (fun a0 a1 a2 a3 a4 a5 a6 a7 a8 a9 a10 a11 a12 => (rec2 a0 a1 a2 a3 a4 a5 a6 a7 a8 a9 a10 a11 a12).bind j) (fun a0 a1 a2 a3 a4 a5 a6 a7 a8 a9 a10 a11 a12 a13 a14 a15 a16 a17 => (w3 a0 a1 a2 a3 a4 a5 a6 a7 a8 a9 a10 a11 a12 a13 a14 a15 a16 a17).bind j) s26 s27 s28 s29 s30 s31 s32 s33 s34 s35 s36 s37 s38 = (f88.s2' L N k2_e4 rec2 w3 s26 s27 s28 s29 s30 s31 s32 s33 s34 s35 s36 s37 s38).bind j := by
  unfold f88.s2'
  repeat' (first | (with_reducible refine cond_nat ?_ ?_) | (with_reducible refine bind_nat fun _ => ?_) | rfl)
theorem f88.s2_nat {R R' : Type} (j : R → Option R') (L N : Nat) (k2_e4 : LLI → Int → Int → LI → Int → Int → LLM → LM → LLM → LLM → Option R) (rec2 : LLI → Int → Int → LI → Int → Int → LM → Int → Int → LLM → LM → LLM → LLM → Option R) (s26 : LLI) (s27 : Int) (s28 : Int) (s29 : LI) (s30 : Int) (s31 : Int) (s32 : LM) (s33 : Int) (s34 : Int) (s35 : LLM) (s36 : LM) (s37 : LLM) (s38 : LLM) :
    f88.s2 L N (fun a0 a1 a2 a3 a4 a5 a6 a7 a8 a9 => (k2_e4 a0 a1 a2 a3 a4 a5 a6 a7 a8 a9).bind j) (fun a0 a1 a2 a3 a4 a5 a6 a7 a8 a9 a10 a11 a12 => (rec2 a0 a1 a2 a3 a4 a5 a6 a7 a8 a9 a10 a11 a12).bind j) s26 s27 s28 s29 s30 s31 s32 s33 s34 s35 s36 s37 s38 = (f88.s2 L N k2_e4 rec2 s26 s27 s28 s29 s30 s31 s32 s33 s34 s35 s36 s37 s38).bind j := by
  unfold f88.s2
  simp only [f88.l3_nat, f88.p3_e6_nat]
  exact f88.s2'_nat ..
theorem f88.l2_nat {R R' : Type} (j : R → Option R') (L N : Nat) (k2_e4 : LLI → Int → Int → LI → Int → Int → LLM → LM → LLM → LLM → Option R) : ∀ (n : Nat) (s26 : LLI) (s27 : Int) (s28 : Int) (s29 : LI) (s30 : Int) (s31 : Int) (s32 : LM) (s33 : Int) (s34 : Int) (s35 : LLM) (s36 : LM) (s37 : LLM) (s38 : LLM),
    f88.l2 L N (fun a0 a1 a2 a3 a4 a5 a6 a7 a8 a9 => (k2_e4 a0 a1 a2 a3 a4 a5 a6 a7 a8 a9).bind j) n s26 s27 s28 s29 s30 s31 s32 s33 s34 s35 s36 s37 s38 = (f88.l2 L N k2_e4 n s26 s27 s28 s29 s30 s31 s32 s33 s34 s35 s36 s37 s38).bind j := by
  intro n
  induction n with
  | zero => intros; rfl
  | succ n ih =>
    intro s26 s27 s28 s29 s30 s31 s32 s33 s34 s35 s36 s37 s38
    show f88.s2 L N (fun a0 a1 a2 a3 a4 a5 a6 a7 a8 a9 => (k2_e4 a0 a1 a2 a3 a4 a5 a6 a7 a8 a9).bind j) (f88.l2 L N (fun a0 a1 a2 a3 a4 a5 a6 a7 a8 a9 => (k2_e4 a0 a1 a2 a3 a4 a5 a6 a7 a8 a9).bind j) n) s26 s27 s28 s29 s30 s31 s32 s33 s34 s35 s36 s37 s38 = _
    rw [show f88.l2 L N (fun a0 a1 a2 a3 a4 a5 a6 a7 a8 a9 => (k2_e4 a0 a1 a2 a3 a4 a5 a6 a7 a8 a9).bind j) n = (fun s26 s27 s28 s29 s30 s31 s32 s33 s34 s35 s36 s37 s38 => (f88.l2 L N k2_e4 n s26 s27 s28 s29 s30 s31 s32 s33 s34 s35 s36 s37 s38).bind j) from funext fun s26 => funext fun s27 => funext fun s28 => funext fun s29 => funext fun s30 => funext fun s31 => funext fun s32 => funext fun s33 => funext fun s34 => funext fun s35 => funext fun s36 => funext fun s37 => funext fun s38 => ih s26 s27 s28 s29 s30 s31 s32 s33 s34 s35 s36 s37 s38]
    exact f88.s2_nat ..
theorem f88.p2_e4'_nat {R R' : Type} (j : R → Option R') (L N : Nat) (k1_e2 : LLI → Int → Int → LLM → LM → LLM → LLM → Option R) (rec1 : LLI → Int → Int → LI → Int → Int → LLM → LM → LLM → LLM → Option R) (z39 : LLI) (z40 : Int) (z41 : Int) (z42 : LI) (z43 : Int) (z44 : Int) (z45 : LLM) (z46 : LM) (z47 : LLM) (z48 : LLM) :
    f88.p2_e4' L N (fun a0 a1 a2 a3 a4 a5 a6 => (k1_e2 a0 a1 a2 a3 a4 a5 a6).bind j) (fun a0 a1 a2 a3 a4 a5 a6 a7 a8 a9 => (rec1 a0 a1 a2 a3 a4 a5 a6 a7 a8 a9).bind j) z39 z40 z41 z42 z43 z44 z45 z46 z47 z48 = (f88.p2_e4' L N k1_e2 rec1 z39 z40 z41 z42 z43 z44 z45 z46 z47 z48).bind j := by
  unfold f88.p2_e4'
  repeat' (first | (with_reducible refine cond_nat ?_ ?_) | (with_reducible refine bind_nat fun _ => ?_) | rfl)
theorem f88.p2_e4_nat {R R' : Type} (j : R → Option R') (L N : Nat) (k1_e2 : LLI → Int → Int → LLM → LM → LLM → LLM → Option R) (rec1 : LLI → Int → Int → LI → Int → Int → LLM → LM → LLM → LLM → Option R) (z39 : LLI) (z40 : Int) (z41 : Int) (z42 : LI) (z43 : Int) (z44 : Int) (z45 : LLM) (z46 : LM) (z47 : LLM) (z48 : LLM) :
    f88.p2_e4 L N (fun a0 a1 a2 a3 a4 a5 a6 => (k1_e2 a0 a1 a2 a3 a4 a5 a6).bind j) (fun a0 a1 a2 a3 a4 a5 a6 a7 a8 a9 => (rec1 a0 a1 a2 a3 a4 a5 a6 a7 a8 a9).bind j) z39 z40 z41 z42 z43 z44 z45 z46 z47 z48 = (f88.p2_e4 L N k1_e2 rec1 z39 z40 z41 z42 z43 z44 z45 z46 z47 z48).bind j := by
  unfold f88.p2_e4
  exact f88.p2_e4'_nat ..
theorem f88.s1'_nat {R R' : Type} (j : R → Option R') (L N : Nat) (k1_e2 : LLI → Int → Int → LLM → LM → LLM → LLM → Option R) (rec1 : LLI → Int → Int → LI → Int → Int → LLM → LM → LLM → LLM → Option R) (w2 : LLI → Int → Int → LI → Int → Int → LM → Int → Int → LLM → LM → LLM → LLM → Option R) (s9 : LLI) (s10 : Int) (s11 : Int) (s12 : LI) (s13 : Int) (s14 : Int) (s15 : LLM) (s16 : LM) (s17 : LLM) (s18 : LLM) :
    f88.s1' L N (fun a0 a1 a2 a3 a4 a5 a6 => (k1_e2 a0 a1 a2 a3 a4 a5 a6).bind j) (fun a0 a1 a2 a3 a4 a5 a6 a7 a8 a9 => (rec1 a0 a1 a2 a3 a4 a5 a6 a7 a8 a9).bind j) (fun a0 a1 a2 a3 a4 a5 a6 a7 a8 a9 a10 a11 a12 => (w2 a0 a1 a2 a3 a4 a5 a6 a7 a8 a9 a10 a11 a12).bind j) s9 s10 s11 s12 s13 s14 s15 s16 s17 s18 = (f88.s1' L N k1_e2 rec1 w2 s9 s10 s11 s12 s13 s14 s15 s16 s17 s18).bind j := by
  unfold f88.s1'
  repeat' (first | (with_reducible refine cond_nat ?_ ?_) | (with_reducible refine bind_nat fun _ => ?_) | rfl)
theorem f88.s1_nat {R R' : Type} (j : R → Option R') (L N : Nat) (k1_e2 : LLI → Int → Int → LLM → LM → LLM → LLM → Option R) (rec1 : LLI → Int → Int → LI → Int → Int → LLM → LM → LLM → LLM → Option R) (s9 : LLI) (s10 : Int) (s11 : Int) (s12 : LI) (s13 : Int) (s14 : Int) (s15 : LLM) (s16 : LM) (s17 : LLM) (s18 : LLM) :
    f88.s1 L N (fun a0 a1 a2 a3 a4 a5 a6 => (k1_e2 a0 a1 a2 a3 a4 a5 a6).bind j) (fun a0 a1 a2 a3 a4 a5 a6 a7 a8 a9 => (rec1 a0 a1 a2 a3 a4 a5 a6 a7 a8 a9).bind j) s9 s10 s11 s12 s13 s14 s15 s16 s17 s18 = (f88.s1 L N k1_e2 rec1 s9 s10 s11 s12 s13 s14 s15 s16 s17 s18).bind j := by
  unfold f88.s1
  simp only [f88.l2_nat, f88.p2_e4_nat]
  exact f88.s1'_nat ..
theorem f88.l1_nat {R R' : Type} (j : R → Option R') (L N : Nat) (k1_e2 : LLI → Int → Int → LLM → LM → LLM → LLM → Option R) : ∀ (n : Nat) (s9 : LLI) (s10 : Int) (s11 : Int) (s12 : LI) (s13 : Int) (s14 : Int) (s15 : LLM) (s16 : LM) (s17 : LLM) (s18 : LLM),
    f88.l1 L N (fun a0 a1 a2 a3 a4 a5 a6 => (k1_e2 a0 a1 a2 a3 a4 a5 a6).bind j) n s9 s10 s11 s12 s13 s14 s15 s16 s17 s18 = (f88.l1 L N k1_e2 n s9 s10 s11 s12 s13 s14 s15 s16 s17 s18).bind j := by
  intro n
  induction n with
  | zero => intros; rfl
  | succ n ih =>
    intro s9 s10 s11 s12 s13 s14 s15 s16 s17 s18
    show f88.s1 L N (fun a0 a1 a2 a3 a4 a5 a6 => (k1_e2 a0 a1 a2 a3 a4 a5 a6).bind j) (f88.l1 L N (fun a0 a1 a2 a3 a4 a5 a6 => (k1_e2 a0 a1 a2 a3 a4 a5 a6).bind j) n) s9 s10 s11 s12 s13 s14 s15 s16 s17 s18 = _
    rw [show f88.l1 L N (fun a0 a1 a2 a3 a4 a5 a6 => (k1_e2 a0 a1 a2 a3 a4 a5 a6).bind j) n = (fun s9 s10 s11 s12 s13 s14 s15 s16 s17 s18 => (f88.l1 L N k1_e2 n s9 s10 s11 s12 s13 s14 s15 s16 s17 s18).bind j) from funext fun s9 => funext fun s10 => funext fun s11 => funext fun s12 => funext fun s13 => funext fun s14 => funext fun s15 => funext fun s16 => funext fun s17 => funext fun s18 => ih s9 s10 s11 s12 s13 s14 s15 s16 s17 s18]
    exact f88.s1_nat ..
theorem f88.p1_e2'_nat {R R' : Type} (j : R → Option R') (L N : Nat) (k0_e0 : LLM → LLM → Option R) (rec0 : LLI → Int → Int → LLM → LLM → LLM → Option R) (z19 : LLI) (z20 : Int) (z21 : Int) (z22 : LLM) (z23 : LM) (z24 : LLM) (z25 : LLM) :
    f88.p1_e2' L N (fun a0 a1 => (k0_e0 a0 a1).bind j) (fun a0 a1 a2 a3 a4 a5 => (rec0 a0 a1 a2 a3 a4 a5).bind j) z19 z20 z21 z22 z23 z24 z25 = (f88.p1_e2' L N k0_e0 rec0 z19 z20 z21 z22 z23 z24 z25).bind j := by
  unfold f88.p1_e2'
  repeat' (first | (with_reducible refine cond_nat ?_ ?_) | (with_reducible refine bind_nat fun _ => ?_) | rfl)
theorem f88.p1_e2_nat {R R' : Type} (j : R → Option R') (L N : Nat) (k0_e0 : LLM → LLM → Option R) (rec0 : LLI → Int → Int → LLM → LLM → LLM → Option R) (z19 : LLI) (z20 : Int) (z21 : Int) (z22 : LLM) (z23 : LM) (z24 : LLM) (z25 : LLM) :
    f88.p1_e2 L N (fun a0 a1 => (k0_e0 a0 a1).bind j) (fun a0 a1 a2 a3 a4 a5 => (rec0 a0 a1 a2 a3 a4 a5).bind j) z19 z20 z21 z22 z23 z24 z25 = (f88.p1_e2 L N k0_e0 rec0 z19 z20 z21 z22 z23 z24 z25).bind j := by
  unfold f88.p1_e2
  exact f88.p1_e2'_nat ..
theorem f88.s0'_nat {R R' : Type} (j : R → Option R') (L N : Nat) (k0_e0 : LLM → LLM → Option R) (rec0 : LLI → Int → Int → LLM → LLM → LLM → Option R) (w1 : LLI → Int → Int → LI → Int → Int → LLM → LM → LLM → LLM → Option R) (s1 : LLI) (s2 : Int) (s3 : Int) (s4 : LLM) (s5 : LLM) (s6 : LLM) :
    f88.s0' L N (fun a0 a1 => (k0_e0 a0 a1).bind j) (fun a0 a1 a2 a3 a4 a5 => (rec0 a0 a1 a2 a3 a4 a5).bind j) (fun a0 a1 a2 a3 a4 a5 a6 a7 a8 a9 => (w1 a0 a1 a2 a3 a4 a5 a6 a7 a8 a9).bind j) s1 s2 s3 s4 s5 s6 = (f88.s0' L N k0_e0 rec0 w1 s1 s2 s3 s4 s5 s6).bind j := by
  unfold f88.s0'
  repeat' (first | (with_reducible refine cond_nat ?_ ?_) | (with_reducible refine bind_nat fun _ => ?_) | rfl)
theorem f88.s0_nat {R R' : Type} (j : R → Option R') (L N : Nat) (k0_e0 : LLM → LLM → Option R) (rec0 : LLI → Int → Int → LLM → LLM → LLM → Option R) (s1 : LLI) (s2 : Int) (s3 : Int) (s4 : LLM) (s5 : LLM) (s6 : LLM) :
    f88.s0 L N (fun a0 a1 => (k0_e0 a0 a1).bind j) (fun a0 a1 a2 a3 a4 a5 => (rec0 a0 a1 a2 a3 a4 a5).bind j) s1 s2 s3 s4 s5 s6 = (f88.s0 L N k0_e0 rec0 s1 s2 s3 s4 s5 s6).bind j := by
  unfold f88.s0
  simp only [f88.l1_nat, f88.p1_e2_nat]
  exact f88.s0'_nat ..
theorem f88.l0_nat {R R' : Type} (j : R → Option R') (L N : Nat) (k0_e0 : LLM → LLM → Option R) : ∀ (n : Nat) (s1 : LLI) (s2 : Int) (s3 : Int) (s4 : LLM) (s5 : LLM) (s6 : LLM),
    f88.l0 L N (fun a0 a1 => (k0_e0 a0 a1).bind j) n s1 s2 s3 s4 s5 s6 = (f88.l0 L N k0_e0 n s1 s2 s3 s4 s5 s6).bind j := by
  intro n
  induction n with
  | zero => intros; rfl
  | succ n ih =>
    intro s1 s2 s3 s4 s5 s6
    show f88.s0 L N (fun a0 a1 => (k0_e0 a0 a1).bind j) (f88.l0 L N (fun a0 a1 => (k0_e0 a0 a1).bind j) n) s1 s2 s3 s4 s5 s6 = _
    rw [show f88.l0 L N (fun a0 a1 => (k0_e0 a0 a1).bind j) n = (fun s1 s2 s3 s4 s5 s6 => (f88.l0 L N k0_e0 n s1 s2 s3 s4 s5 s6).bind j) from funext fun s1 => funext fun s2 => funext fun s3 => funext fun s4 => funext fun s5 => funext fun s6 => ih s1 s2 s3 s4 s5 s6]
    exact f88.s0_nat ..
theorem f88.p0_e0'_nat {R R' : Type} (j : R → Option R') (L N : Nat) (k : LLM → Option R) (z7 : LLM) (z8 : LLM) :
    f88.p0_e0' L N (fun a0 => (k a0).bind j) z7 z8 = (f88.p0_e0' L N k z7 z8).bind j := by
  unfold f88.p0_e0'
  repeat' (first | (with_reducible refine cond_nat ?_ ?_) | (with_reducible refine bind_nat fun _ => ?_) | rfl)
theorem f88.p0_e0_nat {R R' : Type} (j : R → Option R') (L N : Nat) (k : LLM → Option R) (z7 : LLM) (z8 : LLM) :
    f88.p0_e0 L N (fun a0 => (k a0).bind j) z7 z8 = (f88.p0_e0 L N k z7 z8).bind j := by
  unfold f88.p0_e0
  exact f88.p0_e0'_nat ..
theorem f88.b'_nat {R R' : Type} (j : R → Option R') (L N : Nat) (k : LLM → Option R) (w0 : LLI → Int → Int → LLM → LLM → LLM → Option R) (x0 : Graph) :
    f88.b' L N (fun a0 => (k a0).bind j) (fun a0 a1 a2 a3 a4 a5 => (w0 a0 a1 a2 a3 a4 a5).bind j) x0 = (f88.b' L N k w0 x0).bind j := by
  unfold f88.b'
  repeat' (first | (with_reducible refine cond_nat ?_ ?_) | (with_reducible refine bind_nat fun _ => ?_) | rfl)
theorem f88.b_nat {R R' : Type} (j : R → Option R') (L N : Nat) (k : LLM → Option R) (x0 : Graph) :
    f88.b L N (fun a0 => (k a0).bind j) x0 = (f88.b L N k x0).bind j := by
  unfold f88.b
  simp only [f88.l0_nat, f88.p0_e0_nat]
  exact f88.b'_nat ..
theorem f88.ok (L N : Nat) (hΦ : TellsOk Try.prog ((Φ124 L N))) : EntOk Try.prog 88 (f88.ent L N) := by
  intro args vw site h
  unfold f88.ent
  split
  · rename_i d ha
    intro y hy hs
    refine call_ron (dep := 1000) (E := (E88 L N)) (ts := [(.st 2)]) (rn := (.agg [])) (q := (some 0)) (el := 51) (ty := (.sl (.st 0))) (d1 := (())) (xs := y) (sound_of hΦ) okP (callI_sound (sound_of hΦ) okP 1 2000) (f := Try.f88) rfl hs ha ?_ rfl site
    refine (f88.b_eq L N (fun d xs => some (d, xs)) d.1).trans ?_
    refine ((f88.b_nat (fun y => (some ((()), y) : Option (RN.Den (.agg []) × List LM))) L N some d.1)).trans ?_
    rw [show f88.b L N some d.1 = some y from hy]
    rfl
  · intro y hy
    cases hy
def Φ88 (L N : Nat) : Tells := (addT (Φ124 L N) 88 (f88.ent L N))
theorem Φ88_ok (L N : Nat) : TellsOk Try.prog (Φ88 L N) := addT_ok (Φ124_ok L N) (f88.ok L N (Φ124_ok L N))
def f52.b' {R : Type} (L N : Nat) (k : LI → Option R) (x0 : Graph) : Option R :=
  (f32 L N (Graph.mk x0.moves)).bind fun y0 =>
  bif (!y0) then
    k []
  else (f88 L N (Graph.mk x0.moves)).bind fun y1 =>
  (f86 L N (Graph.mk y1)).bind fun y2 =>
  k y2
def f52.b {R : Type} (L N : Nat) (k : LI → Option R) (x0 : Graph) : Option R :=
  f52.b' L N k x0
def f52 (L N : Nat) (x0 : Graph) : Option (LI) := f52.b L N some x0
def f52.ent (L N : Nat) (args : List AV) (vw : View) (site : Nat) : Ans := match roD [(.st 2)] vw args with
  | some d => ⟨LI, f52 L N d.1, fun y => (RN.av site .row (), [(site, some (mkO none 3 i64 y))], [])⟩
  | none => Ans.no
noncomputable def E52 (L N : Nat) : Env := { P := Try.prog, ty := tyOf, Φ := (Φ88 L N), inl := inlT, live := lives, liveX := livesX, L := L, dp := none, prom := promT, heal := healT, ren := renT }
theorem f52.b_pre {R : Type} (L N : Nat) (κ : RN.Den .row → List Int → Option R) (x0 : Graph) :
    evBody (E52 L N) (evCallI (E52 L N) 1 2000) 1000 52 Try.f52 [(.tv (.st 2) x0)] [] [] (finN .row none 3 i64 κ)
    = f52.b' L N (fun a0 => κ () a0) x0 := by kernel_rfl
theorem f52.b_eq {R : Type} (L N : Nat) (κ : RN.Den .row → List Int → Option R) (x0 : Graph) :
    evBody (E52 L N) (evCallI (E52 L N) 1 2000) 1000 52 Try.f52 [(.tv (.st 2) x0)] [] [] (finN .row none 3 i64 κ)
    = f52.b L N (fun a0 => κ () a0) x0 := by
  rw [f52.b_pre]
  unfold f52.b
  rfl
theorem f52.b'_nat {R R' : Type} (j : R → Option R') (L N : Nat) (k : LI → Option R) (x0 : Graph) :
    f52.b' L N (fun a0 => (k a0).bind j) x0 = (f52.b' L N k x0).bind j := by
  unfold f52.b'
  repeat' (first | (with_reducible refine cond_nat ?_ ?_) | (with_reducible refine bind_nat fun _ => ?_) | rfl)
theorem f52.b_nat {R R' : Type} (j : R → Option R') (L N : Nat) (k : LI → Option R) (x0 : Graph) :
    f52.b L N (fun a0 => (k a0).bind j) x0 = (f52.b L N k x0).bind j := by
  unfold f52.b
  exact f52.b'_nat ..
theorem f52.ok (L N : Nat) (hΦ : TellsOk Try.prog ((Φ88 L N))) : EntOk Try.prog 52 (f52.ent L N) := by
  intro args vw site h
  unfold f52.ent
  split
  · rename_i d ha
    intro y hy hs
    refine call_ron (dep := 1000) (E := (E52 L N)) (ts := [(.st 2)]) (rn := .row) (q := none) (el := 3) (ty := i64) (d1 := ()) (xs := y) (sound_of hΦ) okP (callI_sound (sound_of hΦ) okP 1 2000) (f := Try.f52) rfl hs ha ?_ rfl site
    refine (f52.b_eq L N (fun d xs => some (d, xs)) d.1).trans ?_
    refine ((f52.b_nat (fun y => (some ((), y) : Option (RN.Den .row × List Int))) L N some d.1)).trans ?_
    rw [show f52.b L N some d.1 = some y from hy]
    rfl
  · intro y hy
    cases hy
def Φ52 (L N : Nat) : Tells := (addT (Φ88 L N) 52 (f52.ent L N))
theorem Φ52_ok (L N : Nat) : TellsOk Try.prog (Φ52 L N) := addT_ok (Φ88_ok L N) (f52.ok L N (Φ88_ok L N))
def f102.s0' {R : Type} (L N : Nat) (n0 : Nat) (k0_e0 : Int → LM → Option R) (rec0 : Int → Int → LM → Option R) (s0 : Int) (s1 : Int) (s2 : LM) : Option R :=
  bif (decide (s1 < (s2.length : Int))) then
    bif (decide (0 ≤ s1) && decide (s1 < (s2.length : Int))) then
      bif (decide (0 ≤ s1) && decide (s1 < ((s2.set s1.toNat (Move.mk s0 ((listAt s2 (Ty.dflt (.st 0)) s1.toNat).to))).length : Int))) then
        rec0 (wi ((wi (s0 + (1 : Int))) + (1 : Int))) (wi (s1 + (1 : Int))) ((s2.set s1.toNat (Move.mk s0 ((listAt s2 (Ty.dflt (.st 0)) s1.toNat).to))).set s1.toNat (Move.mk ((listAt (s2.set s1.toNat (Move.mk s0 ((listAt s2 (Ty.dflt (.st 0)) s1.toNat).to))) (Ty.dflt (.st 0)) s1.toNat).act) (wi (s0 + (1 : Int)))))
      else none
    else none
  else k0_e0 s0 s2
def f102.s0 {R : Type} (L N : Nat) (n0 : Nat) (k0_e0 : Int → LM → Option R) (rec0 : Int → Int → LM → Option R) (s0 : Int) (s1 : Int) (s2 : LM) : Option R :=
  f102.s0' L N n0 k0_e0 rec0 s0 s1 s2
def f102.l0 {R : Type} (L N : Nat) (n0 : Nat) (k0_e0 : Int → LM → Option R) : Nat → Int → Int → LM → Option R
  | 0, _, _, _ => none
  | n + 1, s0, s1, s2 => f102.s0 L N n0 k0_e0 (f102.l0 L N n0 k0_e0 n) s0 s1 s2
def f102.T0 (s0 : Int) (s1 : Int) (s2 : LM) : T := mkT 27 [(0, (.row 0)), (1, (.tv i64 s0)), (5, (.tv i64 s1))] ++ [.row 0]
def f102.H0 (s0 : Int) (s1 : Int) (s2 : LM) : H := [(0, (.row 53 (.st 0) s2))]
def f102.T0_e0 (z3 : Int) (z4 : LM) : T := mkT 27 [(1, (.tv i64 z3))] ++ [.row 0]
def f102.H0_e0 (z3 : Int) (z4 : LM) : H := [(0, (.row 53 (.st 0) z4))]
def f102.p0_e0' {R : Type} (L N : Nat) (n0 : Nat) (k : Int → LM → Option R) (z3 : Int) (z4 : LM) : Option R :=
  bif (Nat.beq z4.length n0) then
    k z3 z4
  else none
def f102.p0_e0 {R : Type} (L N : Nat) (n0 : Nat) (k : Int → LM → Option R) (z3 : Int) (z4 : LM) : Option R :=
  f102.p0_e0' L N n0 k z3 z4
def f102.b' {R : Type} (L N : Nat) (n0 : Nat) (k : Int → LM → Option R) (w0 : Int → Int → LM → Option R) (oo : List Move) (x0 : Int) : Option R :=
  w0 x0 (0 : Int) oo
def f102.b {R : Type} (L N : Nat) (n0 : Nat) (k : Int → LM → Option R) (oo : List Move) (x0 : Int) : Option R :=
  f102.b' L N n0 k (fun s0 s1 s2 => f102.l0 L N n0 (fun z3 z4 => f102.p0_e0 L N n0 k z3 z4) L s0 s1 s2) oo x0
def f102 (L N : Nat) (oo : List Move) (x0 : Int) : Option (Int × LM) := f102.b L N oo.length (fun a0 a1 => some (a0, a1)) oo x0
def f102.ent (L N : Nat) (args : List AV) (vw : View) (site : Nat) : Ans := match ownD none 53 (.st 0) [i64] vw args with
  | some (o, xs, d, u) => ⟨Int × LM, f102 L N xs d.1, fun y => ((.tv i64 y.1), u ++ [(o, some (mkO none 53 (.st 0) y.2))], [])⟩
  | none => Ans.no
noncomputable def E102 (L N : Nat) : Env := { P := Try.prog, ty := tyOf, Φ := (Φ52 L N), inl := inlT, live := lives, liveX := livesX, L := L, dp := none, prom := promT, heal := healT, ren := renT }
noncomputable def f102.c0 : Code := loopAt 0 (codeOf Try.f102)
theorem f102.s0_pre {R : Type} (L N n0 : Nat) (κ : Ex → T → H → Option R) (rec : T → H → Option R) (s0 : Int) (s1 : Int) (s2 : LM) :
    evRd (E102 L N) (evCallI (E102 L N) 1 2000) 1000 102 27 0 f102.c0 κ rec (f102.T0 s0 s1 s2) (f102.H0 s0 s1 s2)
    = f102.s0' L N n0 (fun z3 z4 => κ (.exit 0) (f102.T0_e0 z3 z4) (f102.H0_e0 z3 z4)) (fun s0 s1 s2 => rec (f102.T0 s0 s1 s2) (f102.H0 s0 s1 s2)) s0 s1 s2 := by kernel_rfl
theorem f102.s0_eq {R : Type} (L N n0 : Nat) (κ : Ex → T → H → Option R) (rec : T → H → Option R) (s0 : Int) (s1 : Int) (s2 : LM) :
    evRd (E102 L N) (evCallI (E102 L N) 1 2000) 1000 102 27 0 f102.c0 κ rec (f102.T0 s0 s1 s2) (f102.H0 s0 s1 s2)
    = f102.s0 L N n0 (fun z3 z4 => κ (.exit 0) (f102.T0_e0 z3 z4) (f102.H0_e0 z3 z4)) (fun s0 s1 s2 => rec (f102.T0 s0 s1 s2) (f102.H0 s0 s1 s2)) s0 s1 s2 := by
  rw [f102.s0_pre L N n0]
  unfold f102.s0
  rfl
theorem f102.l0_eq {R : Type} (L N n0 : Nat) (κ : Ex → T → H → Option R) : ∀ (n : Nat) (s0 : Int) (s1 : Int) (s2 : LM),
    evLp (E102 L N) (evCallI (E102 L N) 1 2000) 1000 102 27 0 f102.c0 κ n (f102.T0 s0 s1 s2) (f102.H0 s0 s1 s2)
    = f102.l0 L N n0 (fun z3 z4 => κ (.exit 0) (f102.T0_e0 z3 z4) (f102.H0_e0 z3 z4)) n s0 s1 s2 := by
  intro n
  induction n with
  | zero => intros; rfl
  | succ n ih =>
    intro s0 s1 s2
    rw [evLp_succ, f102.s0_eq L N n0]
    simp only [ih]
    rfl
theorem f102.p0_e0_pre {R : Type} (L N n0 : Nat) (κ : AV → List Move → Option R) (z3 : Int) (z4 : LM) :
    (contAt (E102 L N) (evCallI (E102 L N) 1 2000) 1000 102 27 0 (codeOf Try.f102) (finK (E102 L N) 1000 Try.f102 (finO (.one i64) none 53 (.st 0) n0 κ))) (.exit 0) (f102.T0_e0 z3 z4) (f102.H0_e0 z3 z4)
    = f102.p0_e0' L N n0 (fun a0 a1 => κ (.tv i64 a0) a1) z3 z4 := by kernel_rfl
theorem f102.p0_e0_eq {R : Type} (L N n0 : Nat) (κ : AV → List Move → Option R) (z3 : Int) (z4 : LM) :
    (contAt (E102 L N) (evCallI (E102 L N) 1 2000) 1000 102 27 0 (codeOf Try.f102) (finK (E102 L N) 1000 Try.f102 (finO (.one i64) none 53 (.st 0) n0 κ))) (.exit 0) (f102.T0_e0 z3 z4) (f102.H0_e0 z3 z4)
    = f102.p0_e0 L N n0 (fun a0 a1 => κ (.tv i64 a0) a1) z3 z4 := by
  rw [f102.p0_e0_pre L N n0]
  unfold f102.p0_e0
  rfl
theorem f102.b_pre {R : Type} (L N n0 : Nat) (κ : AV → List Move → Option R) (oo : List Move) (x0 : Int) :
    evBody (E102 L N) (evCallI (E102 L N) 1 2000) 1000 102 Try.f102 [(.row 0), (.tv i64 x0)] [.row 0] [(0, (.row 53 (.st 0) oo))] (finO (.one i64) none 53 (.st 0) n0 κ)
    = f102.b' L N n0 (fun a0 a1 => κ (.tv i64 a0) a1) (fun s0 s1 s2 => evLp (E102 L N) (evCallI (E102 L N) 1 2000) 1000 102 27 0 f102.c0 (contAt (E102 L N) (evCallI (E102 L N) 1 2000) 1000 102 27 0 (codeOf Try.f102) (finK (E102 L N) 1000 Try.f102 (finO (.one i64) none 53 (.st 0) n0 κ))) L (f102.T0 s0 s1 s2) (f102.H0 s0 s1 s2)) oo x0 := by kernel_rfl
theorem f102.b_eq {R : Type} (L N n0 : Nat) (κ : AV → List Move → Option R) (oo : List Move) (x0 : Int) :
    evBody (E102 L N) (evCallI (E102 L N) 1 2000) 1000 102 Try.f102 [(.row 0), (.tv i64 x0)] [.row 0] [(0, (.row 53 (.st 0) oo))] (finO (.one i64) none 53 (.st 0) n0 κ)
    = f102.b L N n0 (fun a0 a1 => κ (.tv i64 a0) a1) oo x0 := by
  rw [f102.b_pre L N n0]
  unfold f102.b
  simp only [f102.l0_eq L N n0, f102.p0_e0_eq L N n0]
theorem f102.s0'_nat {R R' : Type} (j : R → Option R') (L N : Nat) (n0 : Nat) (k0_e0 : Int → LM → Option R) (rec0 : Int → Int → LM → Option R) (s0 : Int) (s1 : Int) (s2 : LM) :
    f102.s0' L N n0 (fun a0 a1 => (k0_e0 a0 a1).bind j) (fun a0 a1 a2 => (rec0 a0 a1 a2).bind j) s0 s1 s2 = (f102.s0' L N n0 k0_e0 rec0 s0 s1 s2).bind j := by
  unfold f102.s0'
  repeat' (first | (with_reducible refine cond_nat ?_ ?_) | (with_reducible refine bind_nat fun _ => ?_) | rfl)
theorem f102.s0_nat {R R' : Type} (j : R → Option R') (L N : Nat) (n0 : Nat) (k0_e0 : Int → LM → Option R) (rec0 : Int → Int → LM → Option R) (s0 : Int) (s1 : Int) (s2 : LM) :
    f102.s0 L N n0 (fun a0 a1 => (k0_e0 a0 a1).bind j) (fun a0 a1 a2 => (rec0 a0 a1 a2).bind j) s0 s1 s2 = (f102.s0 L N n0 k0_e0 rec0 s0 s1 s2).bind j := by
  unfold f102.s0
  exact f102.s0'_nat ..
theorem f102.l0_nat {R R' : Type} (j : R → Option R') (L N : Nat) (n0 : Nat) (k0_e0 : Int → LM → Option R) : ∀ (n : Nat) (s0 : Int) (s1 : Int) (s2 : LM),
    f102.l0 L N n0 (fun a0 a1 => (k0_e0 a0 a1).bind j) n s0 s1 s2 = (f102.l0 L N n0 k0_e0 n s0 s1 s2).bind j := by
  intro n
  induction n with
  | zero => intros; rfl
  | succ n ih =>
    intro s0 s1 s2
    show f102.s0 L N n0 (fun a0 a1 => (k0_e0 a0 a1).bind j) (f102.l0 L N n0 (fun a0 a1 => (k0_e0 a0 a1).bind j) n) s0 s1 s2 = _
    rw [show f102.l0 L N n0 (fun a0 a1 => (k0_e0 a0 a1).bind j) n = (fun s0 s1 s2 => (f102.l0 L N n0 k0_e0 n s0 s1 s2).bind j) from funext fun s0 => funext fun s1 => funext fun s2 => ih s0 s1 s2]
    exact f102.s0_nat ..
theorem f102.p0_e0'_nat {R R' : Type} (j : R → Option R') (L N : Nat) (n0 : Nat) (k : Int → LM → Option R) (z3 : Int) (z4 : LM) :
    f102.p0_e0' L N n0 (fun a0 a1 => (k a0 a1).bind j) z3 z4 = (f102.p0_e0' L N n0 k z3 z4).bind j := by
  unfold f102.p0_e0'
  repeat' (first | (with_reducible refine cond_nat ?_ ?_) | (with_reducible refine bind_nat fun _ => ?_) | rfl)
theorem f102.p0_e0_nat {R R' : Type} (j : R → Option R') (L N : Nat) (n0 : Nat) (k : Int → LM → Option R) (z3 : Int) (z4 : LM) :
    f102.p0_e0 L N n0 (fun a0 a1 => (k a0 a1).bind j) z3 z4 = (f102.p0_e0 L N n0 k z3 z4).bind j := by
  unfold f102.p0_e0
  exact f102.p0_e0'_nat ..
theorem f102.b'_nat {R R' : Type} (j : R → Option R') (L N : Nat) (n0 : Nat) (k : Int → LM → Option R) (w0 : Int → Int → LM → Option R) (oo : List Move) (x0 : Int) :
    f102.b' L N n0 (fun a0 a1 => (k a0 a1).bind j) (fun a0 a1 a2 => (w0 a0 a1 a2).bind j) oo x0 = (f102.b' L N n0 k w0 oo x0).bind j := by
  unfold f102.b'
  repeat' (first | (with_reducible refine cond_nat ?_ ?_) | (with_reducible refine bind_nat fun _ => ?_) | rfl)
theorem f102.b_nat {R R' : Type} (j : R → Option R') (L N : Nat) (n0 : Nat) (k : Int → LM → Option R) (oo : List Move) (x0 : Int) :
    f102.b L N n0 (fun a0 a1 => (k a0 a1).bind j) oo x0 = (f102.b L N n0 k oo x0).bind j := by
  unfold f102.b
  simp only [f102.l0_nat, f102.p0_e0_nat]
  exact f102.b'_nat ..
theorem f102.ok (L N : Nat) (hΦ : TellsOk Try.prog ((Φ52 L N))) : EntOk Try.prog 102 (f102.ent L N) := by
  intro args vw site h
  unfold f102.ent
  split
  · rename_i o xs d u ha
    intro y hy hs
    obtain ⟨rest, rfl, ho, hr, hu⟩ := ownD_some ha
    refine call_own (dep := 1000) (E := (E102 L N)) (tr := [i64]) (q := none) (el := 53) (ty := (.st 0)) (rs := (.one i64)) (v' := (.tv i64 y.1)) (ys := y.2) (sound_of hΦ) okP (callI_sound (sound_of hΦ) okP 1 2000) (f := Try.f102) rfl hs ho hr hu ?_ site
    refine (f102.b_eq L N xs.length (fun v d => some (v, d)) xs d.1).trans ?_
    refine ((f102.b_nat (fun y => (some ((.tv i64 y.1), y.2) : Option (AV × List Move))) L N xs.length (fun a0 a1 => some (a0, a1)) xs d.1)).trans ?_
    rw [show f102.b L N xs.length (fun a0 a1 => some (a0, a1)) xs d.1 = some y from hy]
    rfl
  · intro y hy
    cases hy
def Φ102 (L N : Nat) : Tells := (addT (Φ52 L N) 102 (f102.ent L N))
theorem Φ102_ok (L N : Nat) : TellsOk Try.prog (Φ102 L N) := addT_ok (Φ52_ok L N) (f102.ok L N (Φ52_ok L N))
def f66.s0' {R : Type} (L N : Nat) (n0 : Nat) (k0_e0 : Int → LLM → Option R) (rec0 : Int → Int → LLM → Option R) (s0 : Int) (s1 : Int) (s2 : LLM) : Option R :=
  bif (decide (s1 < (s2.length : Int))) then
    bif (decide (0 ≤ s1) && decide (s1 < (s2.length : Int))) then
      (f102 L N (listAt s2 [] s1.toNat) s0).bind fun y5 =>
      rec0 y5.1 (wi (s1 + (1 : Int))) (s2.set s1.toNat y5.2)
    else none
  else k0_e0 s0 s2
def f66.s0 {R : Type} (L N : Nat) (n0 : Nat) (k0_e0 : Int → LLM → Option R) (rec0 : Int → Int → LLM → Option R) (s0 : Int) (s1 : Int) (s2 : LLM) : Option R :=
  f66.s0' L N n0 k0_e0 rec0 s0 s1 s2
def f66.l0 {R : Type} (L N : Nat) (n0 : Nat) (k0_e0 : Int → LLM → Option R) : Nat → Int → Int → LLM → Option R
  | 0, _, _, _ => none
  | n + 1, s0, s1, s2 => f66.s0 L N n0 k0_e0 (f66.l0 L N n0 k0_e0 n) s0 s1 s2
def f66.T0 (s0 : Int) (s1 : Int) (s2 : LLM) : T := mkT 19 [(0, (.row 0)), (1, (.tv i64 s0)), (5, (.tv i64 s1))] ++ [.row 0]
def f66.H0 (s0 : Int) (s1 : Int) (s2 : LLM) : H := [(0, (.deep 0 (.sl (.st 0)) s2 none))]
def f66.T0_e0 (z3 : Int) (z4 : LLM) : T := mkT 19 [(1, (.tv i64 z3))] ++ [.row 0]
def f66.H0_e0 (z3 : Int) (z4 : LLM) : H := [(0, (.deep 0 (.sl (.st 0)) z4 none))]
def f66.p0_e0' {R : Type} (L N : Nat) (n0 : Nat) (k : Int → LLM → Option R) (z3 : Int) (z4 : LLM) : Option R :=
  bif (Nat.beq z4.length n0) then
    k z3 z4
  else none
def f66.p0_e0 {R : Type} (L N : Nat) (n0 : Nat) (k : Int → LLM → Option R) (z3 : Int) (z4 : LLM) : Option R :=
  f66.p0_e0' L N n0 k z3 z4
def f66.b' {R : Type} (L N : Nat) (n0 : Nat) (k : Int → LLM → Option R) (w0 : Int → Int → LLM → Option R) (oo : List LM) (x0 : Int) : Option R :=
  w0 x0 (0 : Int) oo
def f66.b {R : Type} (L N : Nat) (n0 : Nat) (k : Int → LLM → Option R) (oo : List LM) (x0 : Int) : Option R :=
  f66.b' L N n0 k (fun s0 s1 s2 => f66.l0 L N n0 (fun z3 z4 => f66.p0_e0 L N n0 k z3 z4) L s0 s1 s2) oo x0
def f66 (L N : Nat) (oo : List LM) (x0 : Int) : Option (Int × LLM) := f66.b L N oo.length (fun a0 a1 => some (a0, a1)) oo x0
def f66.ent (L N : Nat) (args : List AV) (vw : View) (site : Nat) : Ans := match ownD (some 0) 51 (.sl (.st 0)) [i64] vw args with
  | some (o, xs, d, u) => ⟨Int × LLM, f66 L N xs d.1, fun y => ((.tv i64 y.1), u ++ [(o, some (mkO (some 0) 51 (.sl (.st 0)) y.2))], [])⟩
  | none => Ans.no
noncomputable def E66 (L N : Nat) : Env := { P := Try.prog, ty := tyOf, Φ := (Φ102 L N), inl := inlT, live := lives, liveX := livesX, L := L, dp := none, prom := promT, heal := healT, ren := renT }
noncomputable def f66.c0 : Code := loopAt 0 (codeOf Try.f66)
theorem f66.s0_pre {R : Type} (L N n0 : Nat) (κ : Ex → T → H → Option R) (rec : T → H → Option R) (s0 : Int) (s1 : Int) (s2 : LLM) :
    evRd (E66 L N) (evCallI (E66 L N) 1 2000) 1000 66 19 0 f66.c0 κ rec (f66.T0 s0 s1 s2) (f66.H0 s0 s1 s2)
    = f66.s0' L N n0 (fun z3 z4 => κ (.exit 0) (f66.T0_e0 z3 z4) (f66.H0_e0 z3 z4)) (fun s0 s1 s2 => rec (f66.T0 s0 s1 s2) (f66.H0 s0 s1 s2)) s0 s1 s2 := by kernel_rfl
theorem f66.s0_eq {R : Type} (L N n0 : Nat) (κ : Ex → T → H → Option R) (rec : T → H → Option R) (s0 : Int) (s1 : Int) (s2 : LLM) :
    evRd (E66 L N) (evCallI (E66 L N) 1 2000) 1000 66 19 0 f66.c0 κ rec (f66.T0 s0 s1 s2) (f66.H0 s0 s1 s2)
    = f66.s0 L N n0 (fun z3 z4 => κ (.exit 0) (f66.T0_e0 z3 z4) (f66.H0_e0 z3 z4)) (fun s0 s1 s2 => rec (f66.T0 s0 s1 s2) (f66.H0 s0 s1 s2)) s0 s1 s2 := by
  rw [f66.s0_pre L N n0]
  unfold f66.s0
  rfl
theorem f66.l0_eq {R : Type} (L N n0 : Nat) (κ : Ex → T → H → Option R) : ∀ (n : Nat) (s0 : Int) (s1 : Int) (s2 : LLM),
    evLp (E66 L N) (evCallI (E66 L N) 1 2000) 1000 66 19 0 f66.c0 κ n (f66.T0 s0 s1 s2) (f66.H0 s0 s1 s2)
    = f66.l0 L N n0 (fun z3 z4 => κ (.exit 0) (f66.T0_e0 z3 z4) (f66.H0_e0 z3 z4)) n s0 s1 s2 := by
  intro n
  induction n with
  | zero => intros; rfl
  | succ n ih =>
    intro s0 s1 s2
    rw [evLp_succ, f66.s0_eq L N n0]
    simp only [ih]
    rfl
theorem f66.p0_e0_pre {R : Type} (L N n0 : Nat) (κ : AV → List LM → Option R) (z3 : Int) (z4 : LLM) :
    (contAt (E66 L N) (evCallI (E66 L N) 1 2000) 1000 66 19 0 (codeOf Try.f66) (finK (E66 L N) 1000 Try.f66 (finO (.one i64) (some 0) 51 (.sl (.st 0)) n0 κ))) (.exit 0) (f66.T0_e0 z3 z4) (f66.H0_e0 z3 z4)
    = f66.p0_e0' L N n0 (fun a0 a1 => κ (.tv i64 a0) a1) z3 z4 := by kernel_rfl
theorem f66.p0_e0_eq {R : Type} (L N n0 : Nat) (κ : AV → List LM → Option R) (z3 : Int) (z4 : LLM) :
    (contAt (E66 L N) (evCallI (E66 L N) 1 2000) 1000 66 19 0 (codeOf Try.f66) (finK (E66 L N) 1000 Try.f66 (finO (.one i64) (some 0) 51 (.sl (.st 0)) n0 κ))) (.exit 0) (f66.T0_e0 z3 z4) (f66.H0_e0 z3 z4)
    = f66.p0_e0 L N n0 (fun a0 a1 => κ (.tv i64 a0) a1) z3 z4 := by
  rw [f66.p0_e0_pre L N n0]
  unfold f66.p0_e0
  rfl
theorem f66.b_pre {R : Type} (L N n0 : Nat) (κ : AV → List LM → Option R) (oo : List LM) (x0 : Int) :
    evBody (E66 L N) (evCallI (E66 L N) 1 2000) 1000 66 Try.f66 [(.row 0), (.tv i64 x0)] [.row 0] [(0, (.deep 0 (.sl (.st 0)) oo none))] (finO (.one i64) (some 0) 51 (.sl (.st 0)) n0 κ)
    = f66.b' L N n0 (fun a0 a1 => κ (.tv i64 a0) a1) (fun s0 s1 s2 => evLp (E66 L N) (evCallI (E66 L N) 1 2000) 1000 66 19 0 f66.c0 (contAt (E66 L N) (evCallI (E66 L N) 1 2000) 1000 66 19 0 (codeOf Try.f66) (finK (E66 L N) 1000 Try.f66 (finO (.one i64) (some 0) 51 (.sl (.st 0)) n0 κ))) L (f66.T0 s0 s1 s2) (f66.H0 s0 s1 s2)) oo x0 := by kernel_rfl
theorem f66.b_eq {R : Type} (L N n0 : Nat) (κ : AV → List LM → Option R) (oo : List LM) (x0 : Int) :
    evBody (E66 L N) (evCallI (E66 L N) 1 2000) 1000 66 Try.f66 [(.row 0), (.tv i64 x0)] [.row 0] [(0, (.deep 0 (.sl (.st 0)) oo none))] (finO (.one i64) (some 0) 51 (.sl (.st 0)) n0 κ)
    = f66.b L N n0 (fun a0 a1 => κ (.tv i64 a0) a1) oo x0 := by
  rw [f66.b_pre L N n0]
  unfold f66.b
  simp only [f66.l0_eq L N n0, f66.p0_e0_eq L N n0]
theorem f66.s0'_nat {R R' : Type} (j : R → Option R') (L N : Nat) (n0 : Nat) (k0_e0 : Int → LLM → Option R) (rec0 : Int → Int → LLM → Option R) (s0 : Int) (s1 : Int) (s2 : LLM) :
    f66.s0' L N n0 (fun a0 a1 => (k0_e0 a0 a1).bind j) (fun a0 a1 a2 => (rec0 a0 a1 a2).bind j) s0 s1 s2 = (f66.s0' L N n0 k0_e0 rec0 s0 s1 s2).bind j := by
  unfold f66.s0'
  repeat' (first | (with_reducible refine cond_nat ?_ ?_) | (with_reducible refine bind_nat fun _ => ?_) | rfl)
theorem f66.s0_nat {R R' : Type} (j : R → Option R') (L N : Nat) (n0 : Nat) (k0_e0 : Int → LLM → Option R) (rec0 : Int → Int → LLM → Option R) (s0 : Int) (s1 : Int) (s2 : LLM) :
    f66.s0 L N n0 (fun a0 a1 => (k0_e0 a0 a1).bind j) (fun a0 a1 a2 => (rec0 a0 a1 a2).bind j) s0 s1 s2 = (f66.s0 L N n0 k0_e0 rec0 s0 s1 s2).bind j := by
  unfold f66.s0
  exact f66.s0'_nat ..
theorem f66.l0_nat {R R' : Type} (j : R → Option R') (L N : Nat) (n0 : Nat) (k0_e0 : Int → LLM → Option R) : ∀ (n : Nat) (s0 : Int) (s1 : Int) (s2 : LLM),
    f66.l0 L N n0 (fun a0 a1 => (k0_e0 a0 a1).bind j) n s0 s1 s2 = (f66.l0 L N n0 k0_e0 n s0 s1 s2).bind j := by
  intro n
  induction n with
  | zero => intros; rfl
  | succ n ih =>
    intro s0 s1 s2
    show f66.s0 L N n0 (fun a0 a1 => (k0_e0 a0 a1).bind j) (f66.l0 L N n0 (fun a0 a1 => (k0_e0 a0 a1).bind j) n) s0 s1 s2 = _
    rw [show f66.l0 L N n0 (fun a0 a1 => (k0_e0 a0 a1).bind j) n = (fun s0 s1 s2 => (f66.l0 L N n0 k0_e0 n s0 s1 s2).bind j) from funext fun s0 => funext fun s1 => funext fun s2 => ih s0 s1 s2]
    exact f66.s0_nat ..
theorem f66.p0_e0'_nat {R R' : Type} (j : R → Option R') (L N : Nat) (n0 : Nat) (k : Int → LLM → Option R) (z3 : Int) (z4 : LLM) :
    f66.p0_e0' L N n0 (fun a0 a1 => (k a0 a1).bind j) z3 z4 = (f66.p0_e0' L N n0 k z3 z4).bind j := by
  unfold f66.p0_e0'
  repeat' (first | (with_reducible refine cond_nat ?_ ?_) | (with_reducible refine bind_nat fun _ => ?_) | rfl)
theorem f66.p0_e0_nat {R R' : Type} (j : R → Option R') (L N : Nat) (n0 : Nat) (k : Int → LLM → Option R) (z3 : Int) (z4 : LLM) :
    f66.p0_e0 L N n0 (fun a0 a1 => (k a0 a1).bind j) z3 z4 = (f66.p0_e0 L N n0 k z3 z4).bind j := by
  unfold f66.p0_e0
  exact f66.p0_e0'_nat ..
theorem f66.b'_nat {R R' : Type} (j : R → Option R') (L N : Nat) (n0 : Nat) (k : Int → LLM → Option R) (w0 : Int → Int → LLM → Option R) (oo : List LM) (x0 : Int) :
    f66.b' L N n0 (fun a0 a1 => (k a0 a1).bind j) (fun a0 a1 a2 => (w0 a0 a1 a2).bind j) oo x0 = (f66.b' L N n0 k w0 oo x0).bind j := by
  unfold f66.b'
  repeat' (first | (with_reducible refine cond_nat ?_ ?_) | (with_reducible refine bind_nat fun _ => ?_) | rfl)
theorem f66.b_nat {R R' : Type} (j : R → Option R') (L N : Nat) (n0 : Nat) (k : Int → LLM → Option R) (oo : List LM) (x0 : Int) :
    f66.b L N n0 (fun a0 a1 => (k a0 a1).bind j) oo x0 = (f66.b L N n0 k oo x0).bind j := by
  unfold f66.b
  simp only [f66.l0_nat, f66.p0_e0_nat]
  exact f66.b'_nat ..
theorem f66.ok (L N : Nat) (hΦ : TellsOk Try.prog ((Φ102 L N))) : EntOk Try.prog 66 (f66.ent L N) := by
  intro args vw site h
  unfold f66.ent
  split
  · rename_i o xs d u ha
    intro y hy hs
    obtain ⟨rest, rfl, ho, hr, hu⟩ := ownD_some ha
    refine call_own (dep := 1000) (E := (E66 L N)) (tr := [i64]) (q := (some 0)) (el := 51) (ty := (.sl (.st 0))) (rs := (.one i64)) (v' := (.tv i64 y.1)) (ys := y.2) (sound_of hΦ) okP (callI_sound (sound_of hΦ) okP 1 2000) (f := Try.f66) rfl hs ho hr hu ?_ site
    refine (f66.b_eq L N xs.length (fun v d => some (v, d)) xs d.1).trans ?_
    refine ((f66.b_nat (fun y => (some ((.tv i64 y.1), y.2) : Option (AV × List LM))) L N xs.length (fun a0 a1 => some (a0, a1)) xs d.1)).trans ?_
    rw [show f66.b L N xs.length (fun a0 a1 => some (a0, a1)) xs d.1 = some y from hy]
    rfl
  · intro y hy
    cases hy
def Φ66 (L N : Nat) : Tells := (addT (Φ102 L N) 66 (f66.ent L N))
theorem Φ66_ok (L N : Nat) : TellsOk Try.prog (Φ66 L N) := addT_ok (Φ102_ok L N) (f66.ok L N (Φ102_ok L N))
def f12.j0' {R : Type} (L N : Nat) (k : Bool → Option R) (v14 : LI) (v15 : LLM) (v16 : LI) : Option R :=
  (f26 L N v16 (1 : Int)).bind fun y17 =>
  (f27 L N y17.2 (1 : Int)).bind fun y18 =>
  bif (decide (y18 < (0 : Int))) then
    k false
  else bif (y18 != y17.1) then
    k false
  else (f18 L N (Graph.mk v15)).bind fun y19 =>
  (f52 L N (Graph.mk y19)).bind fun y20 =>
  (f21 L N y20 v14).bind fun y21 =>
  bif (!y21) then
    k false
  else (f27 L N y17.2 (1 : Int)).bind fun y22 =>
  bif (decide (y22 < (0 : Int))) then
    k false
  else bif (y22 != y17.1) then
    k false
  else k true
def f12.b' {R : Type} (L N : Nat) (k : Bool → Option R) (x0 : Graph) : Option R :=
  (f15 L N (Graph.mk x0.moves) (1048576 : Int)).bind fun y0 =>
  bif (decide (y0 < (0 : Int))) then
    k true
  else (f18 L N (Graph.mk x0.moves)).bind fun y1 =>
  (f51 L N (Graph.mk y1)).bind fun y2 =>
  (f18 L N (Graph.mk x0.moves)).bind fun y3 =>
  (f52 L N (Graph.mk y3)).bind fun y4 =>
  (f21 L N y4 y2).bind fun y5 =>
  bif (!y5) then
    k false
  else (f18 L N (Graph.mk x0.moves)).bind fun y6 =>
  (f22 L N (Graph.mk y3) (Graph.mk y6)).bind fun y7 =>
  bif (!y7) then
    k false
  else (f66 L N y3 (1 : Int)).bind fun y8 =>
  bif (decide (y8.1 < (0 : Int))) then
    k false
  else (f21 L N y4 y2).bind fun y9 =>
  bif (!y9) then
    k false
  else f12.j0' L N k y2 x0.moves y4
def f12.b {R : Type} (L N : Nat) (k : Bool → Option R) (x0 : Graph) : Option R :=
  f12.b' L N k x0
def f12 (L N : Nat) (x0 : Graph) : Option (Bool) := f12.b L N some x0
def f12.ent (L N : Nat) (args : List AV) (vw : View) (site : Nat) : Ans := match roD [(.st 2)] vw args with
  | some d => ⟨Bool, f12 L N d.1, fun y => ((.tv .bool y), [], [])⟩
  | none => Ans.no
noncomputable def E12 (L N : Nat) : Env := { P := Try.prog, ty := tyOf, Φ := (Φ66 L N), inl := inlT, live := lives, liveX := livesX, L := L, dp := none, prom := promT, heal := healT, ren := renT }
theorem f12.b_pre {R : Type} (L N : Nat) (κ : AV → Option R) (x0 : Graph) :
    evBody (E12 L N) (evCallI (E12 L N) 1 2000) 1000 12 Try.f12 [(.tv (.st 2) x0)] [] [] (finC (.one .bool) κ)
    = f12.b' L N (fun a0 => κ (.tv .bool a0)) x0 := by kernel_rfl
theorem f12.b_eq {R : Type} (L N : Nat) (κ : AV → Option R) (x0 : Graph) :
    evBody (E12 L N) (evCallI (E12 L N) 1 2000) 1000 12 Try.f12 [(.tv (.st 2) x0)] [] [] (finC (.one .bool) κ)
    = f12.b L N (fun a0 => κ (.tv .bool a0)) x0 := by
  rw [f12.b_pre]
  unfold f12.b
  rfl
theorem f12.j0'_nat {R R' : Type} (j : R → Option R') (L N : Nat) (k : Bool → Option R) (v14 : LI) (v15 : LLM) (v16 : LI) :
    f12.j0' L N (fun a0 => (k a0).bind j) v14 v15 v16 = (f12.j0' L N k v14 v15 v16).bind j := by
  unfold f12.j0'
  repeat' (first | (with_reducible refine cond_nat ?_ ?_) | (with_reducible refine bind_nat fun _ => ?_) | rfl)
theorem f12.b'_nat {R R' : Type} (j : R → Option R') (L N : Nat) (k : Bool → Option R) (x0 : Graph) :
    f12.b' L N (fun a0 => (k a0).bind j) x0 = (f12.b' L N k x0).bind j := by
  unfold f12.b'
  repeat' (first | (with_reducible refine cond_nat ?_ ?_) | (with_reducible refine bind_nat fun _ => ?_) | exact f12.j0'_nat .. | rfl)
theorem f12.b_nat {R R' : Type} (j : R → Option R') (L N : Nat) (k : Bool → Option R) (x0 : Graph) :
    f12.b L N (fun a0 => (k a0).bind j) x0 = (f12.b L N k x0).bind j := by
  unfold f12.b
  exact f12.b'_nat ..
theorem f12.ok (L N : Nat) (hΦ : TellsOk Try.prog ((Φ66 L N))) : EntOk Try.prog 12 (f12.ent L N) := by
  intro args vw site h
  unfold f12.ent
  split
  · rename_i d ha
    intro y hy hs
    refine call_ro (dep := 1000) (E := (E12 L N)) (rs := (.one .bool)) (v := (.tv .bool y)) (sound_of hΦ) okP (callI_sound (sound_of hΦ) okP 1 2000) (f := Try.f12) rfl hs ha ?_ rfl site
    refine (f12.b_eq L N some d.1).trans ?_
    refine ((f12.b_nat (fun y => (some (.tv .bool y) : Option AV)) L N some d.1)).trans ?_
    rw [show f12.b L N some d.1 = some y from hy]
    rfl
  · intro y hy
    cases hy
def Φ12 (L N : Nat) : Tells := (addT (Φ66 L N) 12 (f12.ent L N))
theorem Φ12_ok (L N : Nat) : TellsOk Try.prog (Φ12 L N) := addT_ok (Φ66_ok L N) (f12.ok L N (Φ66_ok L N))
end Go.Proofs.Ytdfjdbpklbehoaa.Ev
