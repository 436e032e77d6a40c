/- The seat's functions as plain functions, continued: made by program (wip/gen/gen.py). -/
import Derived.Test.YtdfjdbpklbehoaaGD4b
namespace Go.Proofs.Ytdfjdbpklbehoaa.Ev
open Go
set_option linter.unusedVariables false
set_option maxRecDepth 20000
theorem f71.p3_e6_nat {R R' : Type} (j : R → Option R') (L N : Nat) (k2_e4 : Bool → LLM → LB → Option R) (rec2 : Bool → Int → LLM → LB → Option R) (z22 : Bool) (z23 : Int) (z24 : Bool) (z25 : LLM) (z26 : LB) :
    f71.p3_e6 L N (fun a0 a1 a2 => (k2_e4 a0 a1 a2).bind j) (fun a0 a1 a2 a3 => (rec2 a0 a1 a2 a3).bind j) z22 z23 z24 z25 z26 = (f71.p3_e6 L N k2_e4 rec2 z22 z23 z24 z25 z26).bind j := by
  unfold f71.p3_e6
  exact f71.p3_e6'_nat ..
theorem f71.s2'_nat {R R' : Type} (j : R → Option R') (L N : Nat) (k2_e4 : Bool → LLM → LB → Option R) (rec2 : Bool → Int → LLM → LB → Option R) (w3 : Bool → Int → Bool → Int → LLM → LB → Option R) (s9 : Bool) (s10 : Int) (s11 : LLM) (s12 : LB) :
    f71.s2' L N (fun a0 a1 a2 => (k2_e4 a0 a1 a2).bind j) (fun a0 a1 a2 a3 => (rec2 a0 a1 a2 a3).bind j) (fun a0 a1 a2 a3 a4 a5 => (w3 a0 a1 a2 a3 a4 a5).bind j) s9 s10 s11 s12 = (f71.s2' L N k2_e4 rec2 w3 s9 s10 s11 s12).bind j := by
  unfold f71.s2'
  repeat' (first | (with_reducible refine cond_nat ?_ ?_) | (with_reducible refine bind_nat fun _ => ?_) | rfl)
theorem f71.s2_nat {R R' : Type} (j : R → Option R') (L N : Nat) (k2_e4 : Bool → LLM → LB → Option R) (rec2 : Bool → Int → LLM → LB → Option R) (s9 : Bool) (s10 : Int) (s11 : LLM) (s12 : LB) :
    f71.s2 L N (fun a0 a1 a2 => (k2_e4 a0 a1 a2).bind j) (fun a0 a1 a2 a3 => (rec2 a0 a1 a2 a3).bind j) s9 s10 s11 s12 = (f71.s2 L N k2_e4 rec2 s9 s10 s11 s12).bind j := by
  unfold f71.s2
  simp only [f71.l3_nat, f71.p3_e6_nat]
  exact f71.s2'_nat ..
theorem f71.l2_nat {R R' : Type} (j : R → Option R') (L N : Nat) (k2_e4 : Bool → LLM → LB → Option R) : ∀ (n : Nat) (s9 : Bool) (s10 : Int) (s11 : LLM) (s12 : LB),
    f71.l2 L N (fun a0 a1 a2 => (k2_e4 a0 a1 a2).bind j) n s9 s10 s11 s12 = (f71.l2 L N k2_e4 n s9 s10 s11 s12).bind j := by
  intro n
  induction n with
  | zero => intros; rfl
  | succ n ih =>
    intro s9 s10 s11 s12
    show f71.s2 L N (fun a0 a1 a2 => (k2_e4 a0 a1 a2).bind j) (f71.l2 L N (fun a0 a1 a2 => (k2_e4 a0 a1 a2).bind j) n) s9 s10 s11 s12 = _
    rw [show f71.l2 L N (fun a0 a1 a2 => (k2_e4 a0 a1 a2).bind j) n = (fun s9 s10 s11 s12 => (f71.l2 L N k2_e4 n s9 s10 s11 s12).bind j) from funext fun s9 => funext fun s10 => funext fun s11 => funext fun s12 => ih s9 s10 s11 s12]
    exact f71.s2_nat ..
theorem f71.p2_e4'_nat {R R' : Type} (j : R → Option R') (L N : Nat) (k1_e2 : LB → Option R) (rec1 : Bool → LLM → LB → Option R) (z13 : Bool) (z14 : LLM) (z15 : LB) :
    f71.p2_e4' L N (fun a0 => (k1_e2 a0).bind j) (fun a0 a1 a2 => (rec1 a0 a1 a2).bind j) z13 z14 z15 = (f71.p2_e4' L N k1_e2 rec1 z13 z14 z15).bind j := by
  unfold f71.p2_e4'
  repeat' (first | (with_reducible refine cond_nat ?_ ?_) | (with_reducible refine bind_nat fun _ => ?_) | rfl)
theorem f71.p2_e4_nat {R R' : Type} (j : R → Option R') (L N : Nat) (k1_e2 : LB → Option R) (rec1 : Bool → LLM → LB → Option R) (z13 : Bool) (z14 : LLM) (z15 : LB) :
    f71.p2_e4 L N (fun a0 => (k1_e2 a0).bind j) (fun a0 a1 a2 => (rec1 a0 a1 a2).bind j) z13 z14 z15 = (f71.p2_e4 L N k1_e2 rec1 z13 z14 z15).bind j := by
  unfold f71.p2_e4
  exact f71.p2_e4'_nat ..
theorem f71.s1'_nat {R R' : Type} (j : R → Option R') (L N : Nat) (k1_e2 : LB → Option R) (rec1 : Bool → LLM → LB → Option R) (w2 : Bool → Int → LLM → LB → Option R) (s5 : Bool) (s6 : LLM) (s7 : LB) :
    f71.s1' L N (fun a0 => (k1_e2 a0).bind j) (fun a0 a1 a2 => (rec1 a0 a1 a2).bind j) (fun a0 a1 a2 a3 => (w2 a0 a1 a2 a3).bind j) s5 s6 s7 = (f71.s1' L N k1_e2 rec1 w2 s5 s6 s7).bind j := by
  unfold f71.s1'
  repeat' (first | (with_reducible refine cond_nat ?_ ?_) | (with_reducible refine bind_nat fun _ => ?_) | rfl)
theorem f71.s1_nat {R R' : Type} (j : R → Option R') (L N : Nat) (k1_e2 : LB → Option R) (rec1 : Bool → LLM → LB → Option R) (s5 : Bool) (s6 : LLM) (s7 : LB) :
    f71.s1 L N (fun a0 => (k1_e2 a0).bind j) (fun a0 a1 a2 => (rec1 a0 a1 a2).bind j) s5 s6 s7 = (f71.s1 L N k1_e2 rec1 s5 s6 s7).bind j := by
  unfold f71.s1
  simp only [f71.l2_nat, f71.p2_e4_nat]
  exact f71.s1'_nat ..
theorem f71.l1_nat {R R' : Type} (j : R → Option R') (L N : Nat) (k1_e2 : LB → Option R) : ∀ (n : Nat) (s5 : Bool) (s6 : LLM) (s7 : LB),
    f71.l1 L N (fun a0 => (k1_e2 a0).bind j) n s5 s6 s7 = (f71.l1 L N k1_e2 n s5 s6 s7).bind j := by
  intro n
  induction n with
  | zero => intros; rfl
  | succ n ih =>
    intro s5 s6 s7
    show f71.s1 L N (fun a0 => (k1_e2 a0).bind j) (f71.l1 L N (fun a0 => (k1_e2 a0).bind j) n) s5 s6 s7 = _
    rw [show f71.l1 L N (fun a0 => (k1_e2 a0).bind j) n = (fun s5 s6 s7 => (f71.l1 L N k1_e2 n s5 s6 s7).bind j) from funext fun s5 => funext fun s6 => funext fun s7 => ih s5 s6 s7]
    exact f71.s1_nat ..
theorem f71.p1_e2'_nat {R R' : Type} (j : R → Option R') (L N : Nat) (k : LB → Option R) (z8 : LB) :
    f71.p1_e2' L N (fun a0 => (k a0).bind j) z8 = (f71.p1_e2' L N k z8).bind j := by
  unfold f71.p1_e2'
  repeat' (first | (with_reducible refine cond_nat ?_ ?_) | (with_reducible refine bind_nat fun _ => ?_) | rfl)
theorem f71.p1_e2_nat {R R' : Type} (j : R → Option R') (L N : Nat) (k : LB → Option R) (z8 : LB) :
    f71.p1_e2 L N (fun a0 => (k a0).bind j) z8 = (f71.p1_e2 L N k z8).bind j := by
  unfold f71.p1_e2
  exact f71.p1_e2'_nat ..
theorem f71.p0_e0'_nat {R R' : Type} (j : R → Option R') (L N : Nat) (k : LB → Option R) (w1 : Bool → LLM → LB → Option R) (z3 : LLM) (z4 : LB) :
    f71.p0_e0' L N (fun a0 => (k a0).bind j) (fun a0 a1 a2 => (w1 a0 a1 a2).bind j) z3 z4 = (f71.p0_e0' L N k w1 z3 z4).bind j := by
  unfold f71.p0_e0'
  repeat' (first | (with_reducible refine cond_nat ?_ ?_) | (with_reducible refine bind_nat fun _ => ?_) | rfl)
theorem f71.p0_e0_nat {R R' : Type} (j : R → Option R') (L N : Nat) (k : LB → Option R) (z3 : LLM) (z4 : LB) :
    f71.p0_e0 L N (fun a0 => (k a0).bind j) z3 z4 = (f71.p0_e0 L N k z3 z4).bind j := by
  unfold f71.p0_e0
  simp only [f71.l1_nat, f71.p1_e2_nat]
  exact f71.p0_e0'_nat ..
theorem f71.b'_nat {R R' : Type} (j : R → Option R') (L N : Nat) (k : LB → Option R) (w0 : Int → LLM → LB → Option R) (x0 : Graph) :
    f71.b' L N (fun a0 => (k a0).bind j) (fun a0 a1 a2 => (w0 a0 a1 a2).bind j) x0 = (f71.b' L N k w0 x0).bind j := by
  unfold f71.b'
  repeat' (first | (with_reducible refine cond_nat ?_ ?_) | (with_reducible refine bind_nat fun _ => ?_) | rfl)
theorem f71.b_nat {R R' : Type} (j : R → Option R') (L N : Nat) (k : LB → Option R) (x0 : Graph) :
    f71.b L N (fun a0 => (k a0).bind j) x0 = (f71.b L N k x0).bind j := by
  unfold f71.b
  simp only [f71.l0_nat, f71.p0_e0_nat]
  exact f71.b'_nat ..
theorem f71.ok (L N : Nat) (hΦ : TellsOk Try.prog ((Φ58 L N))) : EntOk Try.prog 71 (f71.ent L N) := by
  intro args vw site h
  unfold f71.ent
  split
  · rename_i d u ha
    intro y hy hs
    refine call_data (dep := 1000) (E := (E71 L N)) (rs := (.one (.sl .bool))) (v' := (.tv (.sl .bool) y)) (sound_of hΦ) okP (callI_sound (sound_of hΦ) okP 1 2000) (f := Try.f71) rfl hs ha ?_ site
    refine (f71.b_eq L N some d.1).trans ?_
    refine ((f71.b_nat (fun y => (some (.tv (.sl .bool) y) : Option AV)) L N some d.1)).trans ?_
    rw [show f71.b L N some d.1 = some y from hy]
    rfl
  · intro y hy
    cases hy
def Φ71 (L N : Nat) : Tells := (addT (Φ58 L N) 71 (f71.ent L N))
theorem Φ71_ok (L N : Nat) : TellsOk Try.prog (Φ71 L N) := addT_ok (Φ58_ok L N) (f71.ok L N (Φ58_ok L N))
def f30.s0' {R : Type} (L N : Nat) (k0_e0 : LI → Option R) (rec0 : LB → Int → LI → Option R) (s2 : LB) (s3 : Int) (s4 : LI) : Option R :=
  bif (decide (s3 < (s2.length : Int))) then
    bif (decide (0 ≤ s3) && decide (s3 < (s2.length : Int))) then
      bif (listAt s2 false s3.toNat) then
        bif (decide (s4.length + ([s3] : LI).length ≤ lim)) then
          rec0 s2 (wi (s3 + (1 : Int))) (s4 ++ ([s3] : LI))
        else none
      else rec0 s2 (wi (s3 + (1 : Int))) s4
    else none
  else k0_e0 s4
def f30.s0 {R : Type} (L N : Nat) (k0_e0 : LI → Option R) (rec0 : LB → Int → LI → Option R) (s2 : LB) (s3 : Int) (s4 : LI) : Option R :=
  f30.s0' L N k0_e0 rec0 s2 s3 s4
def f30.l0 {R : Type} (L N : Nat) (k0_e0 : LI → Option R) : Nat → LB → Int → LI → Option R
  | 0, _, _, _ => none
  | n + 1, s2, s3, s4 => f30.s0 L N k0_e0 (f30.l0 L N k0_e0 n) s2 s3 s4
def f30.T0 (s2 : LB) (s3 : Int) (s4 : LI) : T := mkT 28 [(3, (.row 1006)), (4, (.tv (.sl .bool) s2)), (5, (.tv i64 s3))]
def f30.H0 (s2 : LB) (s3 : Int) (s4 : LI) : H := [(1006, (.row 3 i64 s4))]
def f30.T0_e0 (z5 : LI) : T := mkT 28 [(3, (.row 1006))]
def f30.H0_e0 (z5 : LI) : H := [(1006, (.row 3 i64 z5))]
def f30.p0_e0' {R : Type} (L N : Nat) (k : LI → Option R) (z5 : LI) : Option R :=
  k z5
def f30.p0_e0 {R : Type} (L N : Nat) (k : LI → Option R) (z5 : LI) : Option R :=
  f30.p0_e0' L N k z5
def f30.b' {R : Type} (L N : Nat) (k : LI → Option R) (w0 : LB → Int → LI → Option R) (x0 : Graph) : Option R :=
  (f58 L N (Graph.mk x0.moves)).bind fun y0 =>
  bif (!y0) then
    k ([] : LI)
  else (f71 L N (Graph.mk x0.moves)).bind fun y1 =>
  w0 y1 (0 : Int) ([] : LI)
def f30.b {R : Type} (L N : Nat) (k : LI → Option R) (x0 : Graph) : Option R :=
  f30.b' L N k (fun s2 s3 s4 => f30.l0 L N (fun z5 => f30.p0_e0 L N k z5) L s2 s3 s4) x0
def f30 (L N : Nat) (x0 : Graph) : Option (LI) := f30.b L N some x0
def f30.ent (L N : Nat) (args : List AV) (vw : View) (site : Nat) : Ans := match coeD [(.st 2)] vw args with
  | some (d, u) => ⟨LI, f30 L N d.1, fun y => ((.tv (.sl i64) y), u, [])⟩
  | none => Ans.no
noncomputable def E30 (L N : Nat) : Env := { P := Try.prog, ty := tyOf, Φ := (Φ71 L N), inl := inlT, live := lives, liveX := livesX, L := L, dp := none, prom := promT, heal := healT, ren := renT }
noncomputable def f30.c0 : Code := loopAt 0 (codeOf Try.f30)
theorem f30.s0_pre {R : Type} (L N : Nat) (κ : Ex → T → H → Option R) (rec : T → H → Option R) (s2 : LB) (s3 : Int) (s4 : LI) :
    evRd (E30 L N) (evCallI (E30 L N) 1 2000) 1000 30 28 0 f30.c0 κ rec (f30.T0 s2 s3 s4) (f30.H0 s2 s3 s4)
    = f30.s0' L N (fun z5 => κ (.exit 0) (f30.T0_e0 z5) (f30.H0_e0 z5)) (fun s2 s3 s4 => rec (f30.T0 s2 s3 s4) (f30.H0 s2 s3 s4)) s2 s3 s4 := by kernel_rfl
theorem f30.s0_eq {R : Type} (L N : Nat) (κ : Ex → T → H → Option R) (rec : T → H → Option R) (s2 : LB) (s3 : Int) (s4 : LI) :
    evRd (E30 L N) (evCallI (E30 L N) 1 2000) 1000 30 28 0 f30.c0 κ rec (f30.T0 s2 s3 s4) (f30.H0 s2 s3 s4)
    = f30.s0 L N (fun z5 => κ (.exit 0) (f30.T0_e0 z5) (f30.H0_e0 z5)) (fun s2 s3 s4 => rec (f30.T0 s2 s3 s4) (f30.H0 s2 s3 s4)) s2 s3 s4 := by
  rw [f30.s0_pre]
  unfold f30.s0
  rfl
theorem f30.l0_eq {R : Type} (L N : Nat) (κ : Ex → T → H → Option R) : ∀ (n : Nat) (s2 : LB) (s3 : Int) (s4 : LI),
    evLp (E30 L N) (evCallI (E30 L N) 1 2000) 1000 30 28 0 f30.c0 κ n (f30.T0 s2 s3 s4) (f30.H0 s2 s3 s4)
    = f30.l0 L N (fun z5 => κ (.exit 0) (f30.T0_e0 z5) (f30.H0_e0 z5)) n s2 s3 s4 := by
  intro n
  induction n with
  | zero => intros; rfl
  | succ n ih =>
    intro s2 s3 s4
    rw [evLp_succ, f30.s0_eq]
    simp only [ih]
    rfl
theorem f30.p0_e0_pre {R : Type} (L N : Nat) (κ : AV → Option R) (z5 : LI) :
    (contAt (E30 L N) (evCallI (E30 L N) 1 2000) 1000 30 28 0 (codeOf Try.f30) (finK (E30 L N) 1000 Try.f30 (finC (.one (.sl i64)) κ))) (.exit 0) (f30.T0_e0 z5) (f30.H0_e0 z5)
    = f30.p0_e0' L N (fun a0 => κ (.tv (.sl i64) a0)) z5 := by kernel_rfl
theorem f30.p0_e0_eq {R : Type} (L N : Nat) (κ : AV → Option R) (z5 : LI) :
    (contAt (E30 L N) (evCallI (E30 L N) 1 2000) 1000 30 28 0 (codeOf Try.f30) (finK (E30 L N) 1000 Try.f30 (finC (.one (.sl i64)) κ))) (.exit 0) (f30.T0_e0 z5) (f30.H0_e0 z5)
    = f30.p0_e0 L N (fun a0 => κ (.tv (.sl i64) a0)) z5 := by
  rw [f30.p0_e0_pre]
  unfold f30.p0_e0
  rfl
theorem f30.b_pre {R : Type} (L N : Nat) (κ : AV → Option R) (x0 : Graph) :
    evBody (E30 L N) (evCallI (E30 L N) 1 2000) 1000 30 Try.f30 [(.tv (.st 2) x0)] [] [] (finC (.one (.sl i64)) κ)
    = f30.b' L N (fun a0 => κ (.tv (.sl i64) a0)) (fun s2 s3 s4 => evLp (E30 L N) (evCallI (E30 L N) 1 2000) 1000 30 28 0 f30.c0 (contAt (E30 L N) (evCallI (E30 L N) 1 2000) 1000 30 28 0 (codeOf Try.f30) (finK (E30 L N) 1000 Try.f30 (finC (.one (.sl i64)) κ))) L (f30.T0 s2 s3 s4) (f30.H0 s2 s3 s4)) x0 := by kernel_rfl
theorem f30.b_eq {R : Type} (L N : Nat) (κ : AV → Option R) (x0 : Graph) :
    evBody (E30 L N) (evCallI (E30 L N) 1 2000) 1000 30 Try.f30 [(.tv (.st 2) x0)] [] [] (finC (.one (.sl i64)) κ)
    = f30.b L N (fun a0 => κ (.tv (.sl i64) a0)) x0 := by
  rw [f30.b_pre]
  unfold f30.b
  simp only [f30.l0_eq, f30.p0_e0_eq]
theorem f30.s0'_nat {R R' : Type} (j : R → Option R') (L N : Nat) (k0_e0 : LI → Option R) (rec0 : LB → Int → LI → Option R) (s2 : LB) (s3 : Int) (s4 : LI) :
    f30.s0' L N (fun a0 => (k0_e0 a0).bind j) (fun a0 a1 a2 => (rec0 a0 a1 a2).bind j) s2 s3 s4 = (f30.s0' L N k0_e0 rec0 s2 s3 s4).bind j := by
  unfold f30.s0'
  repeat' (first | (with_reducible refine cond_nat ?_ ?_) | (with_reducible refine bind_nat fun _ => ?_) | rfl)
theorem f30.s0_nat {R R' : Type} (j : R → Option R') (L N : Nat) (k0_e0 : LI → Option R) (rec0 : LB → Int → LI → Option R) (s2 : LB) (s3 : Int) (s4 : LI) :
    f30.s0 L N (fun a0 => (k0_e0 a0).bind j) (fun a0 a1 a2 => (rec0 a0 a1 a2).bind j) s2 s3 s4 = (f30.s0 L N k0_e0 rec0 s2 s3 s4).bind j := by
  unfold f30.s0
  exact f30.s0'_nat ..
theorem f30.l0_nat {R R' : Type} (j : R → Option R') (L N : Nat) (k0_e0 : LI → Option R) : ∀ (n : Nat) (s2 : LB) (s3 : Int) (s4 : LI),
    f30.l0 L N (fun a0 => (k0_e0 a0).bind j) n s2 s3 s4 = (f30.l0 L N k0_e0 n s2 s3 s4).bind j := by
  intro n
  induction n with
  | zero => intros; rfl
  | succ n ih =>
    intro s2 s3 s4
    show f30.s0 L N (fun a0 => (k0_e0 a0).bind j) (f30.l0 L N (fun a0 => (k0_e0 a0).bind j) n) s2 s3 s4 = _
    rw [show f30.l0 L N (fun a0 => (k0_e0 a0).bind j) n = (fun s2 s3 s4 => (f30.l0 L N k0_e0 n s2 s3 s4).bind j) from funext fun s2 => funext fun s3 => funext fun s4 => ih s2 s3 s4]
    exact f30.s0_nat ..
theorem f30.p0_e0'_nat {R R' : Type} (j : R → Option R') (L N : Nat) (k : LI → Option R) (z5 : LI) :
    f30.p0_e0' L N (fun a0 => (k a0).bind j) z5 = (f30.p0_e0' L N k z5).bind j := by
  unfold f30.p0_e0'
  repeat' (first | (with_reducible refine cond_nat ?_ ?_) | (with_reducible refine bind_nat fun _ => ?_) | rfl)
theorem f30.p0_e0_nat {R R' : Type} (j : R → Option R') (L N : Nat) (k : LI → Option R) (z5 : LI) :
    f30.p0_e0 L N (fun a0 => (k a0).bind j) z5 = (f30.p0_e0 L N k z5).bind j := by
  unfold f30.p0_e0
  exact f30.p0_e0'_nat ..
theorem f30.b'_nat {R R' : Type} (j : R → Option R') (L N : Nat) (k : LI → Option R) (w0 : LB → Int → LI → Option R) (x0 : Graph) :
    f30.b' L N (fun a0 => (k a0).bind j) (fun a0 a1 a2 => (w0 a0 a1 a2).bind j) x0 = (f30.b' L N k w0 x0).bind j := by
  unfold f30.b'
  repeat' (first | (with_reducible refine cond_nat ?_ ?_) | (with_reducible refine bind_nat fun _ => ?_) | rfl)
theorem f30.b_nat {R R' : Type} (j : R → Option R') (L N : Nat) (k : LI → Option R) (x0 : Graph) :
    f30.b L N (fun a0 => (k a0).bind j) x0 = (f30.b L N k x0).bind j := by
  unfold f30.b
  simp only [f30.l0_nat, f30.p0_e0_nat]
  exact f30.b'_nat ..
theorem f30.ok (L N : Nat) (hΦ : TellsOk Try.prog ((Φ71 L N))) : EntOk Try.prog 30 (f30.ent L N) := by
  intro args vw site h
  unfold f30.ent
  split
  · rename_i d u ha
    intro y hy hs
    refine call_data (dep := 1000) (E := (E30 L N)) (rs := (.one (.sl i64))) (v' := (.tv (.sl i64) y)) (sound_of hΦ) okP (callI_sound (sound_of hΦ) okP 1 2000) (f := Try.f30) rfl hs ha ?_ site
    refine (f30.b_eq L N some d.1).trans ?_
    refine ((f30.b_nat (fun y => (some (.tv (.sl i64) y) : Option AV)) L N some d.1)).trans ?_
    rw [show f30.b L N some d.1 = some y from hy]
    rfl
  · intro y hy
    cases hy
def Φ30 (L N : Nat) : Tells := (addT (Φ71 L N) 30 (f30.ent L N))
theorem Φ30_ok (L N : Nat) : TellsOk Try.prog (Φ30 L N) := addT_ok (Φ71_ok L N) (f30.ok L N (Φ71_ok L N))
def f31.s0' {R : Type} (L N : Nat) (k0_e0 : Option R) (k0_r : Bool → Option R) (rec0 : LI → LI → Int → Option R) (s0 : LI) (s1 : LI) (s2 : Int) : Option R :=
  bif (decide (s2 < (s0.length : Int))) then
    bif (decide (0 ≤ s2) && decide (s2 < (s0.length : Int))) then
      bif (decide (0 ≤ s2) && decide (s2 < (s1.length : Int))) then
        bif ((listAt s0 (0 : Int) s2.toNat) != (listAt s1 (0 : Int) s2.toNat)) then
          k0_r false
        else rec0 s0 s1 (wi (s2 + (1 : Int)))
      else none
    else none
  else k0_e0
def f31.s0 {R : Type} (L N : Nat) (k0_e0 : Option R) (k0_r : Bool → Option R) (rec0 : LI → LI → Int → Option R) (s0 : LI) (s1 : LI) (s2 : Int) : Option R :=
  f31.s0' L N k0_e0 k0_r rec0 s0 s1 s2
def f31.l0 {R : Type} (L N : Nat) (k0_e0 : Option R) (k0_r : Bool → Option R) : Nat → LI → LI → Int → Option R
  | 0, _, _, _ => none
  | n + 1, s0, s1, s2 => f31.s0 L N k0_e0 k0_r (f31.l0 L N k0_e0 k0_r n) s0 s1 s2
def f31.T0 (s0 : LI) (s1 : LI) (s2 : Int) : T := mkT 26 [(0, (.tv (.sl i64) s0)), (1, (.tv (.sl i64) s1)), (5, (.tv i64 s2))]
def f31.H0 (s0 : LI) (s1 : LI) (s2 : Int) : H := []
def f31.T0_e0 : T := mkT 26 []
def f31.H0_e0 : H := []
def f31.T0_r (z3 : Bool) : T := mkT 26 [(4, (.tv .bool z3))]
def f31.H0_r (z3 : Bool) : H := []
def f31.p0_e0' {R : Type} (L N : Nat) (k : Bool → Option R) : Option R :=
  k true
def f31.p0_e0 {R : Type} (L N : Nat) (k : Bool → Option R) : Option R :=
  f31.p0_e0' L N k
def f31.p0_r' {R : Type} (L N : Nat) (k : Bool → Option R) (z3 : Bool) : Option R :=
  k z3
def f31.p0_r {R : Type} (L N : Nat) (k : Bool → Option R) (z3 : Bool) : Option R :=
  f31.p0_r' L N k z3
def f31.b' {R : Type} (L N : Nat) (k : Bool → Option R) (w0 : LI → LI → Int → Option R) (x0 : LI) (x1 : LI) : Option R :=
  bif ((x0.length : Int) != (x1.length : Int)) then
    k false
  else w0 x0 x1 (0 : Int)
def f31.b {R : Type} (L N : Nat) (k : Bool → Option R) (x0 : LI) (x1 : LI) : Option R :=
  f31.b' L N k (fun s0 s1 s2 => f31.l0 L N (f31.p0_e0 L N k) (fun z3 => f31.p0_r L N k z3) L s0 s1 s2) x0 x1
def f31 (L N : Nat) (x0 : LI) (x1 : LI) : Option (Bool) := f31.b L N some x0 x1
def f31.ent (L N : Nat) (args : List AV) (vw : View) (site : Nat) : Ans := match roD [(.sl i64), (.sl i64)] vw args with
  | some d => ⟨Bool, f31 L N d.1 d.2.1, fun y => ((.tv .bool y), [], [])⟩
  | none => Ans.no
noncomputable def E31 (L N : Nat) : Env := { P := Try.prog, ty := tyOf, Φ := (Φ30 L N), inl := inlT, live := lives, liveX := livesX, L := L, dp := none, prom := promT, heal := healT, ren := renT }
noncomputable def f31.c0 : Code := loopAt 0 (codeOf Try.f31)
theorem f31.s0_pre {R : Type} (L N : Nat) (κ : Ex → T → H → Option R) (rec : T → H → Option R) (s0 : LI) (s1 : LI) (s2 : Int) :
    evRd (E31 L N) (evCallI (E31 L N) 1 2000) 1000 31 26 0 f31.c0 κ rec (f31.T0 s0 s1 s2) (f31.H0 s0 s1 s2)
    = f31.s0' L N (κ (.exit 0) f31.T0_e0 f31.H0_e0) (fun z3 => κ .ret (f31.T0_r z3) (f31.H0_r z3)) (fun s0 s1 s2 => rec (f31.T0 s0 s1 s2) (f31.H0 s0 s1 s2)) s0 s1 s2 := by kernel_rfl
theorem f31.s0_eq {R : Type} (L N : Nat) (κ : Ex → T → H → Option R) (rec : T → H → Option R) (s0 : LI) (s1 : LI) (s2 : Int) :
    evRd (E31 L N) (evCallI (E31 L N) 1 2000) 1000 31 26 0 f31.c0 κ rec (f31.T0 s0 s1 s2) (f31.H0 s0 s1 s2)
    = f31.s0 L N (κ (.exit 0) f31.T0_e0 f31.H0_e0) (fun z3 => κ .ret (f31.T0_r z3) (f31.H0_r z3)) (fun s0 s1 s2 => rec (f31.T0 s0 s1 s2) (f31.H0 s0 s1 s2)) s0 s1 s2 := by
  rw [f31.s0_pre]
  unfold f31.s0
  rfl
theorem f31.l0_eq {R : Type} (L N : Nat) (κ : Ex → T → H → Option R) : ∀ (n : Nat) (s0 : LI) (s1 : LI) (s2 : Int),
    evLp (E31 L N) (evCallI (E31 L N) 1 2000) 1000 31 26 0 f31.c0 κ n (f31.T0 s0 s1 s2) (f31.H0 s0 s1 s2)
    = f31.l0 L N (κ (.exit 0) f31.T0_e0 f31.H0_e0) (fun z3 => κ .ret (f31.T0_r z3) (f31.H0_r z3)) n s0 s1 s2 := by
  intro n
  induction n with
  | zero => intros; rfl
  | succ n ih =>
    intro s0 s1 s2
    rw [evLp_succ, f31.s0_eq]
    simp only [ih]
    rfl
theorem f31.p0_e0_pre {R : Type} (L N : Nat) (κ : AV → Option R) :
    (contAt (E31 L N) (evCallI (E31 L N) 1 2000) 1000 31 26 0 (codeOf Try.f31) (finK (E31 L N) 1000 Try.f31 (finC (.one .bool) κ))) (.exit 0) f31.T0_e0 f31.H0_e0
    = f31.p0_e0' L N (fun a0 => κ (.tv .bool a0)) := by kernel_rfl
theorem f31.p0_e0_eq {R : Type} (L N : Nat) (κ : AV → Option R) :
    (contAt (E31 L N) (evCallI (E31 L N) 1 2000) 1000 31 26 0 (codeOf Try.f31) (finK (E31 L N) 1000 Try.f31 (finC (.one .bool) κ))) (.exit 0) f31.T0_e0 f31.H0_e0
    = f31.p0_e0 L N (fun a0 => κ (.tv .bool a0)) := by
  rw [f31.p0_e0_pre]
  unfold f31.p0_e0
  rfl
theorem f31.p0_r_pre {R : Type} (L N : Nat) (κ : AV → Option R) (z3 : Bool) :
    (contAt (E31 L N) (evCallI (E31 L N) 1 2000) 1000 31 26 0 (codeOf Try.f31) (finK (E31 L N) 1000 Try.f31 (finC (.one .bool) κ))) .ret (f31.T0_r z3) (f31.H0_r z3)
    = f31.p0_r' L N (fun a0 => κ (.tv .bool a0)) z3 := by kernel_rfl
theorem f31.p0_r_eq {R : Type} (L N : Nat) (κ : AV → Option R) (z3 : Bool) :
    (contAt (E31 L N) (evCallI (E31 L N) 1 2000) 1000 31 26 0 (codeOf Try.f31) (finK (E31 L N) 1000 Try.f31 (finC (.one .bool) κ))) .ret (f31.T0_r z3) (f31.H0_r z3)
    = f31.p0_r L N (fun a0 => κ (.tv .bool a0)) z3 := by
  rw [f31.p0_r_pre]
  unfold f31.p0_r
  rfl
theorem f31.b_pre {R : Type} (L N : Nat) (κ : AV → Option R) (x0 : LI) (x1 : LI) :
    evBody (E31 L N) (evCallI (E31 L N) 1 2000) 1000 31 Try.f31 [(.tv (.sl i64) x0), (.tv (.sl i64) x1)] [] [] (finC (.one .bool) κ)
    = f31.b' L N (fun a0 => κ (.tv .bool a0)) (fun s0 s1 s2 => evLp (E31 L N) (evCallI (E31 L N) 1 2000) 1000 31 26 0 f31.c0 (contAt (E31 L N) (evCallI (E31 L N) 1 2000) 1000 31 26 0 (codeOf Try.f31) (finK (E31 L N) 1000 Try.f31 (finC (.one .bool) κ))) L (f31.T0 s0 s1 s2) (f31.H0 s0 s1 s2)) x0 x1 := by kernel_rfl
theorem f31.b_eq {R : Type} (L N : Nat) (κ : AV → Option R) (x0 : LI) (x1 : LI) :
    evBody (E31 L N) (evCallI (E31 L N) 1 2000) 1000 31 Try.f31 [(.tv (.sl i64) x0), (.tv (.sl i64) x1)] [] [] (finC (.one .bool) κ)
    = f31.b L N (fun a0 => κ (.tv .bool a0)) x0 x1 := by
  rw [f31.b_pre]
  unfold f31.b
  simp only [f31.l0_eq, f31.p0_e0_eq, f31.p0_r_eq]
theorem f31.s0'_nat {R R' : Type} (j : R → Option R') (L N : Nat) (k0_e0 : Option R) (k0_r : Bool → Option R) (rec0 : LI → LI → Int → Option R) (s0 : LI) (s1 : LI) (s2 : Int) :
    f31.s0' L N (k0_e0.bind j) (fun a0 => (k0_r a0).bind j) (fun a0 a1 a2 => (rec0 a0 a1 a2).bind j) s0 s1 s2 = (f31.s0' L N k0_e0 k0_r rec0 s0 s1 s2).bind j := by
  unfold f31.s0'
  repeat' (first | (with_reducible refine cond_nat ?_ ?_) | (with_reducible refine bind_nat fun _ => ?_) | rfl)
theorem f31.s0_nat {R R' : Type} (j : R → Option R') (L N : Nat) (k0_e0 : Option R) (k0_r : Bool → Option R) (rec0 : LI → LI → Int → Option R) (s0 : LI) (s1 : LI) (s2 : Int) :
    f31.s0 L N (k0_e0.bind j) (fun a0 => (k0_r a0).bind j) (fun a0 a1 a2 => (rec0 a0 a1 a2).bind j) s0 s1 s2 = (f31.s0 L N k0_e0 k0_r rec0 s0 s1 s2).bind j := by
  unfold f31.s0
  exact f31.s0'_nat ..
theorem f31.l0_nat {R R' : Type} (j : R → Option R') (L N : Nat) (k0_e0 : Option R) (k0_r : Bool → Option R) : ∀ (n : Nat) (s0 : LI) (s1 : LI) (s2 : Int),
    f31.l0 L N (k0_e0.bind j) (fun a0 => (k0_r a0).bind j) n s0 s1 s2 = (f31.l0 L N k0_e0 k0_r n s0 s1 s2).bind j := by
  intro n
  induction n with
  | zero => intros; rfl
  | succ n ih =>
    intro s0 s1 s2
    show f31.s0 L N (k0_e0.bind j) (fun a0 => (k0_r a0).bind j) (f31.l0 L N (k0_e0.bind j) (fun a0 => (k0_r a0).bind j) n) s0 s1 s2 = _
    rw [show f31.l0 L N (k0_e0.bind j) (fun a0 => (k0_r a0).bind j) n = (fun s0 s1 s2 => (f31.l0 L N k0_e0 k0_r n s0 s1 s2).bind j) from funext fun s0 => funext fun s1 => funext fun s2 => ih s0 s1 s2]
    exact f31.s0_nat ..
theorem f31.p0_e0'_nat {R R' : Type} (j : R → Option R') (L N : Nat) (k : Bool → Option R) :
    f31.p0_e0' L N (fun a0 => (k a0).bind j) = (f31.p0_e0' L N k).bind j := by
  unfold f31.p0_e0'
  repeat' (first | (with_reducible refine cond_nat ?_ ?_) | (with_reducible refine bind_nat fun _ => ?_) | rfl)
theorem f31.p0_e0_nat {R R' : Type} (j : R → Option R') (L N : Nat) (k : Bool → Option R) :
    f31.p0_e0 L N (fun a0 => (k a0).bind j) = (f31.p0_e0 L N k).bind j := by
  unfold f31.p0_e0
  exact f31.p0_e0'_nat ..
theorem f31.p0_r'_nat {R R' : Type} (j : R → Option R') (L N : Nat) (k : Bool → Option R) (z3 : Bool) :
    f31.p0_r' L N (fun a0 => (k a0).bind j) z3 = (f31.p0_r' L N k z3).bind j := by
  unfold f31.p0_r'
  repeat' (first | (with_reducible refine cond_nat ?_ ?_) | (with_reducible refine bind_nat fun _ => ?_) | rfl)
theorem f31.p0_r_nat {R R' : Type} (j : R → Option R') (L N : Nat) (k : Bool → Option R) (z3 : Bool) :
    f31.p0_r L N (fun a0 => (k a0).bind j) z3 = (f31.p0_r L N k z3).bind j := by
  unfold f31.p0_r
  exact f31.p0_r'_nat ..
theorem f31.b'_nat {R R' : Type} (j : R → Option R') (L N : Nat) (k : Bool → Option R) (w0 : LI → LI → Int → Option R) (x0 : LI) (x1 : LI) :
    f31.b' L N (fun a0 => (k a0).bind j) (fun a0 a1 a2 => (w0 a0 a1 a2).bind j) x0 x1 = (f31.b' L N k w0 x0 x1).bind j := by
  unfold f31.b'
  repeat' (first | (with_reducible refine cond_nat ?_ ?_) | (with_reducible refine bind_nat fun _ => ?_) | rfl)
theorem f31.b_nat {R R' : Type} (j : R → Option R') (L N : Nat) (k : Bool → Option R) (x0 : LI) (x1 : LI) :
    f31.b L N (fun a0 => (k a0).bind j) x0 x1 = (f31.b L N k x0 x1).bind j := by
  unfold f31.b
  simp only [f31.l0_nat, f31.p0_e0_nat, f31.p0_r_nat]
  exact f31.b'_nat ..
theorem f31.ok (L N : Nat) (hΦ : TellsOk Try.prog ((Φ30 L N))) : EntOk Try.prog 31 (f31.ent L N) := by
  intro args vw site h
  unfold f31.ent
  split
  · rename_i d ha
    intro y hy hs
    refine call_ro (dep := 1000) (E := (E31 L N)) (rs := (.one .bool)) (v := (.tv .bool y)) (sound_of hΦ) okP (callI_sound (sound_of hΦ) okP 1 2000) (f := Try.f31) rfl hs ha ?_ rfl site
    refine (f31.b_eq L N some d.1 d.2.1).trans ?_
    refine ((f31.b_nat (fun y => (some (.tv .bool y) : Option AV)) L N some d.1 d.2.1)).trans ?_
    rw [show f31.b L N some d.1 d.2.1 = some y from hy]
    rfl
  · intro y hy
    cases hy
def Φ31 (L N : Nat) : Tells := (addT (Φ30 L N) 31 (f31.ent L N))
theorem Φ31_ok (L N : Nat) : TellsOk Try.prog (Φ31 L N) := addT_ok (Φ30_ok L N) (f31.ok L N (Φ30_ok L N))
def f33.s0' {R : Type} (L N : Nat) (k0_e0 : Option R) (k0_r : Bool → Option R) (rec0 : LI → Int → Int → Option R) (s0 : LI) (s1 : Int) (s2 : Int) : Option R :=
  bif (decide (s2 < (s0.length : Int))) then
    bif (decide (0 ≤ s2) && decide (s2 < (s0.length : Int))) then
      bif ((listAt s0 (0 : Int) s2.toNat) == s1) then
        k0_r true
      else rec0 s0 s1 (wi (s2 + (1 : Int)))
    else none
  else k0_e0
def f33.s0 {R : Type} (L N : Nat) (k0_e0 : Option R) (k0_r : Bool → Option R) (rec0 : LI → Int → Int → Option R) (s0 : LI) (s1 : Int) (s2 : Int) : Option R :=
  f33.s0' L N k0_e0 k0_r rec0 s0 s1 s2
def f33.l0 {R : Type} (L N : Nat) (k0_e0 : Option R) (k0_r : Bool → Option R) : Nat → LI → Int → Int → Option R
  | 0, _, _, _ => none
  | n + 1, s0, s1, s2 => f33.s0 L N k0_e0 k0_r (f33.l0 L N k0_e0 k0_r n) s0 s1 s2
def f33.T0 (s0 : LI) (s1 : Int) (s2 : Int) : T := mkT 18 [(0, (.tv (.sl i64) s0)), (1, (.tv i64 s1)), (5, (.tv i64 s2))]
def f33.H0 (s0 : LI) (s1 : Int) (s2 : Int) : H := []
def f33.T0_e0 : T := mkT 18 []
def f33.H0_e0 : H := []
def f33.T0_r (z3 : Bool) : T := mkT 18 [(4, (.tv .bool z3))]
def f33.H0_r (z3 : Bool) : H := []
def f33.p0_e0' {R : Type} (L N : Nat) (k : Bool → Option R) : Option R :=
  k false
def f33.p0_e0 {R : Type} (L N : Nat) (k : Bool → Option R) : Option R :=
  f33.p0_e0' L N k
def f33.p0_r' {R : Type} (L N : Nat) (k : Bool → Option R) (z3 : Bool) : Option R :=
  k z3
def f33.p0_r {R : Type} (L N : Nat) (k : Bool → Option R) (z3 : Bool) : Option R :=
  f33.p0_r' L N k z3
def f33.b' {R : Type} (L N : Nat) (k : Bool → Option R) (w0 : LI → Int → Int → Option R) (x0 : LI) (x1 : Int) : Option R :=
  w0 x0 x1 (0 : Int)
def f33.b {R : Type} (L N : Nat) (k : Bool → Option R) (x0 : LI) (x1 : Int) : Option R :=
  f33.b' L N k (fun s0 s1 s2 => f33.l0 L N (f33.p0_e0 L N k) (fun z3 => f33.p0_r L N k z3) L s0 s1 s2) x0 x1
def f33 (L N : Nat) (x0 : LI) (x1 : Int) : Option (Bool) := f33.b L N some x0 x1
def f33.ent (L N : Nat) (args : List AV) (vw : View) (site : Nat) : Ans := match roD [(.sl i64), i64] vw args with
  | some d => ⟨Bool, f33 L N d.1 d.2.1, fun y => ((.tv .bool y), [], [])⟩
  | none => Ans.no
noncomputable def E33 (L N : Nat) : Env := { P := Try.prog, ty := tyOf, Φ := (Φ31 L N), inl := inlT, live := lives, liveX := livesX, L := L, dp := none, prom := promT, heal := healT, ren := renT }
noncomputable def f33.c0 : Code := loopAt 0 (codeOf Try.f33)
theorem f33.s0_pre {R : Type} (L N : Nat) (κ : Ex → T → H → Option R) (rec : T → H → Option R) (s0 : LI) (s1 : Int) (s2 : Int) :
    evRd (E33 L N) (evCallI (E33 L N) 1 2000) 1000 33 18 0 f33.c0 κ rec (f33.T0 s0 s1 s2) (f33.H0 s0 s1 s2)
    = f33.s0' L N (κ (.exit 0) f33.T0_e0 f33.H0_e0) (fun z3 => κ .ret (f33.T0_r z3) (f33.H0_r z3)) (fun s0 s1 s2 => rec (f33.T0 s0 s1 s2) (f33.H0 s0 s1 s2)) s0 s1 s2 := by kernel_rfl
theorem f33.s0_eq {R : Type} (L N : Nat) (κ : Ex → T → H → Option R) (rec : T → H → Option R) (s0 : LI) (s1 : Int) (s2 : Int) :
    evRd (E33 L N) (evCallI (E33 L N) 1 2000) 1000 33 18 0 f33.c0 κ rec (f33.T0 s0 s1 s2) (f33.H0 s0 s1 s2)
    = f33.s0 L N (κ (.exit 0) f33.T0_e0 f33.H0_e0) (fun z3 => κ .ret (f33.T0_r z3) (f33.H0_r z3)) (fun s0 s1 s2 => rec (f33.T0 s0 s1 s2) (f33.H0 s0 s1 s2)) s0 s1 s2 := by
  rw [f33.s0_pre]
  unfold f33.s0
  rfl
theorem f33.l0_eq {R : Type} (L N : Nat) (κ : Ex → T → H → Option R) : ∀ (n : Nat) (s0 : LI) (s1 : Int) (s2 : Int),
    evLp (E33 L N) (evCallI (E33 L N) 1 2000) 1000 33 18 0 f33.c0 κ n (f33.T0 s0 s1 s2) (f33.H0 s0 s1 s2)
    = f33.l0 L N (κ (.exit 0) f33.T0_e0 f33.H0_e0) (fun z3 => κ .ret (f33.T0_r z3) (f33.H0_r z3)) n s0 s1 s2 := by
  intro n
  induction n with
  | zero => intros; rfl
  | succ n ih =>
    intro s0 s1 s2
    rw [evLp_succ, f33.s0_eq]
    simp only [ih]
    rfl
theorem f33.p0_e0_pre {R : Type} (L N : Nat) (κ : AV → Option R) :
    (contAt (E33 L N) (evCallI (E33 L N) 1 2000) 1000 33 18 0 (codeOf Try.f33) (finK (E33 L N) 1000 Try.f33 (finC (.one .bool) κ))) (.exit 0) f33.T0_e0 f33.H0_e0
    = f33.p0_e0' L N (fun a0 => κ (.tv .bool a0)) := by kernel_rfl
theorem f33.p0_e0_eq {R : Type} (L N : Nat) (κ : AV → Option R) :
    (contAt (E33 L N) (evCallI (E33 L N) 1 2000) 1000 33 18 0 (codeOf Try.f33) (finK (E33 L N) 1000 Try.f33 (finC (.one .bool) κ))) (.exit 0) f33.T0_e0 f33.H0_e0
    = f33.p0_e0 L N (fun a0 => κ (.tv .bool a0)) := by
  rw [f33.p0_e0_pre]
  unfold f33.p0_e0
  rfl
theorem f33.p0_r_pre {R : Type} (L N : Nat) (κ : AV → Option R) (z3 : Bool) :
    (contAt (E33 L N) (evCallI (E33 L N) 1 2000) 1000 33 18 0 (codeOf Try.f33) (finK (E33 L N) 1000 Try.f33 (finC (.one .bool) κ))) .ret (f33.T0_r z3) (f33.H0_r z3)
    = f33.p0_r' L N (fun a0 => κ (.tv .bool a0)) z3 := by kernel_rfl
theorem f33.p0_r_eq {R : Type} (L N : Nat) (κ : AV → Option R) (z3 : Bool) :
    (contAt (E33 L N) (evCallI (E33 L N) 1 2000) 1000 33 18 0 (codeOf Try.f33) (finK (E33 L N) 1000 Try.f33 (finC (.one .bool) κ))) .ret (f33.T0_r z3) (f33.H0_r z3)
    = f33.p0_r L N (fun a0 => κ (.tv .bool a0)) z3 := by
  rw [f33.p0_r_pre]
  unfold f33.p0_r
  rfl
theorem f33.b_pre {R : Type} (L N : Nat) (κ : AV → Option R) (x0 : LI) (x1 : Int) :
    evBody (E33 L N) (evCallI (E33 L N) 1 2000) 1000 33 Try.f33 [(.tv (.sl i64) x0), (.tv i64 x1)] [] [] (finC (.one .bool) κ)
    = f33.b' L N (fun a0 => κ (.tv .bool a0)) (fun s0 s1 s2 => evLp (E33 L N) (evCallI (E33 L N) 1 2000) 1000 33 18 0 f33.c0 (contAt (E33 L N) (evCallI (E33 L N) 1 2000) 1000 33 18 0 (codeOf Try.f33) (finK (E33 L N) 1000 Try.f33 (finC (.one .bool) κ))) L (f33.T0 s0 s1 s2) (f33.H0 s0 s1 s2)) x0 x1 := by kernel_rfl
theorem f33.b_eq {R : Type} (L N : Nat) (κ : AV → Option R) (x0 : LI) (x1 : Int) :
    evBody (E33 L N) (evCallI (E33 L N) 1 2000) 1000 33 Try.f33 [(.tv (.sl i64) x0), (.tv i64 x1)] [] [] (finC (.one .bool) κ)
    = f33.b L N (fun a0 => κ (.tv .bool a0)) x0 x1 := by
  rw [f33.b_pre]
  unfold f33.b
  simp only [f33.l0_eq, f33.p0_e0_eq, f33.p0_r_eq]
theorem f33.s0'_nat {R R' : Type} (j : R → Option R') (L N : Nat) (k0_e0 : Option R) (k0_r : Bool → Option R) (rec0 : LI → Int → Int → Option R) (s0 : LI) (s1 : Int) (s2 : Int) :
    f33.s0' L N (k0_e0.bind j) (fun a0 => (k0_r a0).bind j) (fun a0 a1 a2 => (rec0 a0 a1 a2).bind j) s0 s1 s2 = (f33.s0' L N k0_e0 k0_r rec0 s0 s1 s2).bind j := by
  unfold f33.s0'
  repeat' (first | (with_reducible refine cond_nat ?_ ?_) | (with_reducible refine bind_nat fun _ => ?_) | rfl)
theorem f33.s0_nat {R R' : Type} (j : R → Option R') (L N : Nat) (k0_e0 : Option R) (k0_r : Bool → Option R) (rec0 : LI → Int → Int → Option R) (s0 : LI) (s1 : Int) (s2 : Int) :
    f33.s0 L N (k0_e0.bind j) (fun a0 => (k0_r a0).bind j) (fun a0 a1 a2 => (rec0 a0 a1 a2).bind j) s0 s1 s2 = (f33.s0 L N k0_e0 k0_r rec0 s0 s1 s2).bind j := by
  unfold f33.s0
  exact f33.s0'_nat ..
theorem f33.l0_nat {R R' : Type} (j : R → Option R') (L N : Nat) (k0_e0 : Option R) (k0_r : Bool → Option R) : ∀ (n : Nat) (s0 : LI) (s1 : Int) (s2 : Int),
    f33.l0 L N (k0_e0.bind j) (fun a0 => (k0_r a0).bind j) n s0 s1 s2 = (f33.l0 L N k0_e0 k0_r n s0 s1 s2).bind j := by
  intro n
  induction n with
  | zero => intros; rfl
  | succ n ih =>
    intro s0 s1 s2
    show f33.s0 L N (k0_e0.bind j) (fun a0 => (k0_r a0).bind j) (f33.l0 L N (k0_e0.bind j) (fun a0 => (k0_r a0).bind j) n) s0 s1 s2 = _
    rw [show f33.l0 L N (k0_e0.bind j) (fun a0 => (k0_r a0).bind j) n = (fun s0 s1 s2 => (f33.l0 L N k0_e0 k0_r n s0 s1 s2).bind j) from funext fun s0 => funext fun s1 => funext fun s2 => ih s0 s1 s2]
    exact f33.s0_nat ..
theorem f33.p0_e0'_nat {R R' : Type} (j : R → Option R') (L N : Nat) (k : Bool → Option R) :
    f33.p0_e0' L N (fun a0 => (k a0).bind j) = (f33.p0_e0' L N k).bind j := by
  unfold f33.p0_e0'
  repeat' (first | (with_reducible refine cond_nat ?_ ?_) | (with_reducible refine bind_nat fun _ => ?_) | rfl)
theorem f33.p0_e0_nat {R R' : Type} (j : R → Option R') (L N : Nat) (k : Bool → Option R) :
    f33.p0_e0 L N (fun a0 => (k a0).bind j) = (f33.p0_e0 L N k).bind j := by
  unfold f33.p0_e0
  exact f33.p0_e0'_nat ..
theorem f33.p0_r'_nat {R R' : Type} (j : R → Option R') (L N : Nat) (k : Bool → Option R) (z3 : Bool) :
    f33.p0_r' L N (fun a0 => (k a0).bind j) z3 = (f33.p0_r' L N k z3).bind j := by
  unfold f33.p0_r'
  repeat' (first | (with_reducible refine cond_nat ?_ ?_) | (with_reducible refine bind_nat fun _ => ?_) | rfl)
theorem f33.p0_r_nat {R R' : Type} (j : R → Option R') (L N : Nat) (k : Bool → Option R) (z3 : Bool) :
    f33.p0_r L N (fun a0 => (k a0).bind j) z3 = (f33.p0_r L N k z3).bind j := by
  unfold f33.p0_r
  exact f33.p0_r'_nat ..
theorem f33.b'_nat {R R' : Type} (j : R → Option R') (L N : Nat) (k : Bool → Option R) (w0 : LI → Int → Int → Option R) (x0 : LI) (x1 : Int) :
    f33.b' L N (fun a0 => (k a0).bind j) (fun a0 a1 a2 => (w0 a0 a1 a2).bind j) x0 x1 = (f33.b' L N k w0 x0 x1).bind j := by
  unfold f33.b'
  repeat' (first | (with_reducible refine cond_nat ?_ ?_) | (with_reducible refine bind_nat fun _ => ?_) | rfl)
theorem f33.b_nat {R R' : Type} (j : R → Option R') (L N : Nat) (k : Bool → Option R) (x0 : LI) (x1 : Int) :
    f33.b L N (fun a0 => (k a0).bind j) x0 x1 = (f33.b L N k x0 x1).bind j := by
  unfold f33.b
  simp only [f33.l0_nat, f33.p0_e0_nat, f33.p0_r_nat]
  exact f33.b'_nat ..
theorem f33.ok (L N : Nat) (hΦ : TellsOk Try.prog ((Φ31 L N))) : EntOk Try.prog 33 (f33.ent L N) := by
  intro args vw site h
  unfold f33.ent
  split
  · rename_i d ha
    intro y hy hs
    refine call_ro (dep := 1000) (E := (E33 L N)) (rs := (.one .bool)) (v := (.tv .bool y)) (sound_of hΦ) okP (callI_sound (sound_of hΦ) okP 1 2000) (f := Try.f33) rfl hs ha ?_ rfl site
    refine (f33.b_eq L N some d.1 d.2.1).trans ?_
    refine ((f33.b_nat (fun y => (some (.tv .bool y) : Option AV)) L N some d.1 d.2.1)).trans ?_
    rw [show f33.b L N some d.1 d.2.1 = some y from hy]
    rfl
  · intro y hy
    cases hy
def Φ33 (L N : Nat) : Tells := (addT (Φ31 L N) 33 (f33.ent L N))
theorem Φ33_ok (L N : Nat) : TellsOk Try.prog (Φ33 L N) := addT_ok (Φ31_ok L N) (f33.ok L N (Φ31_ok L N))
def f34.s0' {R : Type} (L N : Nat) (k0_e0 : Option R) (k0_r : Bool → Option R) (rec0 : LI → Int → Option R) (s0 : LI) (s1 : Int) : Option R :=
  bif (decide (s1 < (s0.length : Int))) then
    bif (decide (0 ≤ (wi (s1 - (1 : Int)))) && decide ((wi (s1 - (1 : Int))) < (s0.length : Int))) then
      bif (decide (0 ≤ s1) && decide (s1 < (s0.length : Int))) then
        bif (decide ((listAt s0 (0 : Int) (wi (s1 - (1 : Int))).toNat) ≥ (listAt s0 (0 : Int) s1.toNat))) then
          k0_r false
        else rec0 s0 (wi (s1 + (1 : Int)))
      else none
    else none
  else k0_e0
def f34.s0 {R : Type} (L N : Nat) (k0_e0 : Option R) (k0_r : Bool → Option R) (rec0 : LI → Int → Option R) (s0 : LI) (s1 : Int) : Option R :=
  f34.s0' L N k0_e0 k0_r rec0 s0 s1
def f34.l0 {R : Type} (L N : Nat) (k0_e0 : Option R) (k0_r : Bool → Option R) : Nat → LI → Int → Option R
  | 0, _, _ => none
  | n + 1, s0, s1 => f34.s0 L N k0_e0 k0_r (f34.l0 L N k0_e0 k0_r n) s0 s1
def f34.T0 (s0 : LI) (s1 : Int) : T := mkT 20 [(0, (.tv (.sl i64) s0)), (3, (.tv i64 s1))]
def f34.H0 (s0 : LI) (s1 : Int) : H := []
def f34.T0_e0 : T := mkT 20 []
def f34.H0_e0 : H := []
def f34.T0_r (z2 : Bool) : T := mkT 20 [(2, (.tv .bool z2))]
def f34.H0_r (z2 : Bool) : H := []
def f34.p0_e0' {R : Type} (L N : Nat) (k : Bool → Option R) : Option R :=
  k true
def f34.p0_e0 {R : Type} (L N : Nat) (k : Bool → Option R) : Option R :=
  f34.p0_e0' L N k
def f34.p0_r' {R : Type} (L N : Nat) (k : Bool → Option R) (z2 : Bool) : Option R :=
  k z2
def f34.p0_r {R : Type} (L N : Nat) (k : Bool → Option R) (z2 : Bool) : Option R :=
  f34.p0_r' L N k z2
def f34.b' {R : Type} (L N : Nat) (k : Bool → Option R) (w0 : LI → Int → Option R) (x0 : LI) : Option R :=
  w0 x0 (1 : Int)
def f34.b {R : Type} (L N : Nat) (k : Bool → Option R) (x0 : LI) : Option R :=
  f34.b' L N k (fun s0 s1 => f34.l0 L N (f34.p0_e0 L N k) (fun z2 => f34.p0_r L N k z2) L s0 s1) x0
def f34 (L N : Nat) (x0 : LI) : Option (Bool) := f34.b L N some x0
def f34.ent (L N : Nat) (args : List AV) (vw : View) (site : Nat) : Ans := match roD [(.sl i64)] vw args with
  | some d => ⟨Bool, f34 L N d.1, fun y => ((.tv .bool y), [], [])⟩
  | none => Ans.no
noncomputable def E34 (L N : Nat) : Env := { P := Try.prog, ty := tyOf, Φ := (Φ33 L N), inl := inlT, live := lives, liveX := livesX, L := L, dp := none, prom := promT, heal := healT, ren := renT }
noncomputable def f34.c0 : Code := loopAt 0 (codeOf Try.f34)
theorem f34.s0_pre {R : Type} (L N : Nat) (κ : Ex → T → H → Option R) (rec : T → H → Option R) (s0 : LI) (s1 : Int) :
    evRd (E34 L N) (evCallI (E34 L N) 1 2000) 1000 34 20 0 f34.c0 κ rec (f34.T0 s0 s1) (f34.H0 s0 s1)
    = f34.s0' L N (κ (.exit 0) f34.T0_e0 f34.H0_e0) (fun z2 => κ .ret (f34.T0_r z2) (f34.H0_r z2)) (fun s0 s1 => rec (f34.T0 s0 s1) (f34.H0 s0 s1)) s0 s1 := by kernel_rfl
theorem f34.s0_eq {R : Type} (L N : Nat) (κ : Ex → T → H → Option R) (rec : T → H → Option R) (s0 : LI) (s1 : Int) :
    evRd (E34 L N) (evCallI (E34 L N) 1 2000) 1000 34 20 0 f34.c0 κ rec (f34.T0 s0 s1) (f34.H0 s0 s1)
    = f34.s0 L N (κ (.exit 0) f34.T0_e0 f34.H0_e0) (fun z2 => κ .ret (f34.T0_r z2) (f34.H0_r z2)) (fun s0 s1 => rec (f34.T0 s0 s1) (f34.H0 s0 s1)) s0 s1 := by
  rw [f34.s0_pre]
  unfold f34.s0
  rfl
theorem f34.l0_eq {R : Type} (L N : Nat) (κ : Ex → T → H → Option R) : ∀ (n : Nat) (s0 : LI) (s1 : Int),
    evLp (E34 L N) (evCallI (E34 L N) 1 2000) 1000 34 20 0 f34.c0 κ n (f34.T0 s0 s1) (f34.H0 s0 s1)
    = f34.l0 L N (κ (.exit 0) f34.T0_e0 f34.H0_e0) (fun z2 => κ .ret (f34.T0_r z2) (f34.H0_r z2)) n s0 s1 := by
  intro n
  induction n with
  | zero => intros; rfl
  | succ n ih =>
    intro s0 s1
    rw [evLp_succ, f34.s0_eq]
    simp only [ih]
    rfl
theorem f34.p0_e0_pre {R : Type} (L N : Nat) (κ : AV → Option R) :
    (contAt (E34 L N) (evCallI (E34 L N) 1 2000) 1000 34 20 0 (codeOf Try.f34) (finK (E34 L N) 1000 Try.f34 (finC (.one .bool) κ))) (.exit 0) f34.T0_e0 f34.H0_e0
    = f34.p0_e0' L N (fun a0 => κ (.tv .bool a0)) := by kernel_rfl
theorem f34.p0_e0_eq {R : Type} (L N : Nat) (κ : AV → Option R) :
    (contAt (E34 L N) (evCallI (E34 L N) 1 2000) 1000 34 20 0 (codeOf Try.f34) (finK (E34 L N) 1000 Try.f34 (finC (.one .bool) κ))) (.exit 0) f34.T0_e0 f34.H0_e0
    = f34.p0_e0 L N (fun a0 => κ (.tv .bool a0)) := by
  rw [f34.p0_e0_pre]
  unfold f34.p0_e0
  rfl
theorem f34.p0_r_pre {R : Type} (L N : Nat) (κ : AV → Option R) (z2 : Bool) :
    (contAt (E34 L N) (evCallI (E34 L N) 1 2000) 1000 34 20 0 (codeOf Try.f34) (finK (E34 L N) 1000 Try.f34 (finC (.one .bool) κ))) .ret (f34.T0_r z2) (f34.H0_r z2)
    = f34.p0_r' L N (fun a0 => κ (.tv .bool a0)) z2 := by kernel_rfl
theorem f34.p0_r_eq {R : Type} (L N : Nat) (κ : AV → Option R) (z2 : Bool) :
    (contAt (E34 L N) (evCallI (E34 L N) 1 2000) 1000 34 20 0 (codeOf Try.f34) (finK (E34 L N) 1000 Try.f34 (finC (.one .bool) κ))) .ret (f34.T0_r z2) (f34.H0_r z2)
    = f34.p0_r L N (fun a0 => κ (.tv .bool a0)) z2 := by
  rw [f34.p0_r_pre]
  unfold f34.p0_r
  rfl
theorem f34.b_pre {R : Type} (L N : Nat) (κ : AV → Option R) (x0 : LI) :
    evBody (E34 L N) (evCallI (E34 L N) 1 2000) 1000 34 Try.f34 [(.tv (.sl i64) x0)] [] [] (finC (.one .bool) κ)
    = f34.b' L N (fun a0 => κ (.tv .bool a0)) (fun s0 s1 => evLp (E34 L N) (evCallI (E34 L N) 1 2000) 1000 34 20 0 f34.c0 (contAt (E34 L N) (evCallI (E34 L N) 1 2000) 1000 34 20 0 (codeOf Try.f34) (finK (E34 L N) 1000 Try.f34 (finC (.one .bool) κ))) L (f34.T0 s0 s1) (f34.H0 s0 s1)) x0 := by kernel_rfl
theorem f34.b_eq {R : Type} (L N : Nat) (κ : AV → Option R) (x0 : LI) :
    evBody (E34 L N) (evCallI (E34 L N) 1 2000) 1000 34 Try.f34 [(.tv (.sl i64) x0)] [] [] (finC (.one .bool) κ)
    = f34.b L N (fun a0 => κ (.tv .bool a0)) x0 := by
  rw [f34.b_pre]
  unfold f34.b
  simp only [f34.l0_eq, f34.p0_e0_eq, f34.p0_r_eq]
theorem f34.s0'_nat {R R' : Type} (j : R → Option R') (L N : Nat) (k0_e0 : Option R) (k0_r : Bool → Option R) (rec0 : LI → Int → Option R) (s0 : LI) (s1 : Int) :
    f34.s0' L N (k0_e0.bind j) (fun a0 => (k0_r a0).bind j) (fun a0 a1 => (rec0 a0 a1).bind j) s0 s1 = (f34.s0' L N k0_e0 k0_r rec0 s0 s1).bind j := by
  unfold f34.s0'
  repeat' (first | (with_reducible refine cond_nat ?_ ?_) | (with_reducible refine bind_nat fun _ => ?_) | rfl)
theorem f34.s0_nat {R R' : Type} (j : R → Option R') (L N : Nat) (k0_e0 : Option R) (k0_r : Bool → Option R) (rec0 : LI → Int → Option R) (s0 : LI) (s1 : Int) :
    f34.s0 L N (k0_e0.bind j) (fun a0 => (k0_r a0).bind j) (fun a0 a1 => (rec0 a0 a1).bind j) s0 s1 = (f34.s0 L N k0_e0 k0_r rec0 s0 s1).bind j := by
  unfold f34.s0
  exact f34.s0'_nat ..
theorem f34.l0_nat {R R' : Type} (j : R → Option R') (L N : Nat) (k0_e0 : Option R) (k0_r : Bool → Option R) : ∀ (n : Nat) (s0 : LI) (s1 : Int),
    f34.l0 L N (k0_e0.bind j) (fun a0 => (k0_r a0).bind j) n s0 s1 = (f34.l0 L N k0_e0 k0_r n s0 s1).bind j := by
  intro n
  induction n with
  | zero => intros; rfl
  | succ n ih =>
    intro s0 s1
    show f34.s0 L N (k0_e0.bind j) (fun a0 => (k0_r a0).bind j) (f34.l0 L N (k0_e0.bind j) (fun a0 => (k0_r a0).bind j) n) s0 s1 = _
    rw [show f34.l0 L N (k0_e0.bind j) (fun a0 => (k0_r a0).bind j) n = (fun s0 s1 => (f34.l0 L N k0_e0 k0_r n s0 s1).bind j) from funext fun s0 => funext fun s1 => ih s0 s1]
    exact f34.s0_nat ..
theorem f34.p0_e0'_nat {R R' : Type} (j : R → Option R') (L N : Nat) (k : Bool → Option R) :
    f34.p0_e0' L N (fun a0 => (k a0).bind j) = (f34.p0_e0' L N k).bind j := by
  unfold f34.p0_e0'
  repeat' (first | (with_reducible refine cond_nat ?_ ?_) | (with_reducible refine bind_nat fun _ => ?_) | rfl)
theorem f34.p0_e0_nat {R R' : Type} (j : R → Option R') (L N : Nat) (k : Bool → Option R) :
    f34.p0_e0 L N (fun a0 => (k a0).bind j) = (f34.p0_e0 L N k).bind j := by
  unfold f34.p0_e0
  exact f34.p0_e0'_nat ..
theorem f34.p0_r'_nat {R R' : Type} (j : R → Option R') (L N : Nat) (k : Bool → Option R) (z2 : Bool) :
    f34.p0_r' L N (fun a0 => (k a0).bind j) z2 = (f34.p0_r' L N k z2).bind j := by
  unfold f34.p0_r'
  repeat' (first | (with_reducible refine cond_nat ?_ ?_) | (with_reducible refine bind_nat fun _ => ?_) | rfl)
theorem f34.p0_r_nat {R R' : Type} (j : R → Option R') (L N : Nat) (k : Bool → Option R) (z2 : Bool) :
    f34.p0_r L N (fun a0 => (k a0).bind j) z2 = (f34.p0_r L N k z2).bind j := by
  unfold f34.p0_r
  exact f34.p0_r'_nat ..
theorem f34.b'_nat {R R' : Type} (j : R → Option R') (L N : Nat) (k : Bool → Option R) (w0 : LI → Int → Option R) (x0 : LI) :
    f34.b' L N (fun a0 => (k a0).bind j) (fun a0 a1 => (w0 a0 a1).bind j) x0 = (f34.b' L N k w0 x0).bind j := by
  unfold f34.b'
  repeat' (first | (with_reducible refine cond_nat ?_ ?_) | (with_reducible refine bind_nat fun _ => ?_) | rfl)
theorem f34.b_nat {R R' : Type} (j : R → Option R') (L N : Nat) (k : Bool → Option R) (x0 : LI) :
    f34.b L N (fun a0 => (k a0).bind j) x0 = (f34.b L N k x0).bind j := by
  unfold f34.b
  simp only [f34.l0_nat, f34.p0_e0_nat, f34.p0_r_nat]
  exact f34.b'_nat ..
theorem f34.ok (L N : Nat) (hΦ : TellsOk Try.prog ((Φ33 L N))) : EntOk Try.prog 34 (f34.ent L N) := by
  intro args vw site h
  unfold f34.ent
  split
  · rename_i d ha
    intro y hy hs
    refine call_ro (dep := 1000) (E := (E34 L N)) (rs := (.one .bool)) (v := (.tv .bool y)) (sound_of hΦ) okP (callI_sound (sound_of hΦ) okP 1 2000) (f := Try.f34) rfl hs ha ?_ rfl site
    refine (f34.b_eq L N some d.1).trans ?_
    refine ((f34.b_nat (fun y => (some (.tv .bool y) : Option AV)) L N some d.1)).trans ?_
    rw [show f34.b L N some d.1 = some y from hy]
    rfl
  · intro y hy
    cases hy
def Φ34 (L N : Nat) : Tells := (addT (Φ33 L N) 34 (f34.ent L N))
theorem Φ34_ok (L N : Nat) : TellsOk Try.prog (Φ34 L N) := addT_ok (Φ33_ok L N) (f34.ok L N (Φ33_ok L N))
def f4.s1' {R : Type} (L N : Nat) (k1_e2 : LI → Int → Bool → LLM → Option R) (rec1 : LI → Int → Bool → Int → LLM → Option R) (s16 : LI) (s17 : Int) (s18 : Bool) (s19 : Int) (s20 : LLM) : Option R :=
  bif (decide (0 ≤ s17) && decide (s17 < (s20.length : Int))) then
    bif (decide (s19 < ((listAt s20 [] s17.toNat).length : Int))) then
      bif s18 then
        rec1 s16 s17 true (wi (s19 + (1 : Int))) s20
      else bif (decide (0 ≤ s17) && decide (s17 < (s20.length : Int))) then
        bif (decide (0 ≤ s19) && decide (s19 < ((listAt s20 [] s17.toNat).length : Int))) then
          bif ((listAt (listAt s20 [] s17.toNat) (Ty.dflt (.st 0)) s19.toNat).act == (0 : Int)) then
            bif (decide (0 ≤ s17) && decide (s17 < (s20.length : Int))) then
              bif (decide (0 ≤ s19) && decide (s19 < ((listAt s20 [] s17.toNat).length : Int))) then
                (f33 L N s16 ((listAt (listAt s20 [] s17.toNat) (Ty.dflt (.st 0)) s19.toNat).to)).bind fun y25 =>
                rec1 s16 s17 y25 (wi (s19 + (1 : Int))) s20
              else none
            else none
          else rec1 s16 s17 false (wi (s19 + (1 : Int))) s20
        else none
      else none
    else k1_e2 s16 s17 s18 s20
  else none
def f4.s1 {R : Type} (L N : Nat) (k1_e2 : LI → Int → Bool → LLM → Option R) (rec1 : LI → Int → Bool → Int → LLM → Option R) (s16 : LI) (s17 : Int) (s18 : Bool) (s19 : Int) (s20 : LLM) : Option R :=
  f4.s1' L N k1_e2 rec1 s16 s17 s18 s19 s20
def f4.l1 {R : Type} (L N : Nat) (k1_e2 : LI → Int → Bool → LLM → Option R) : Nat → LI → Int → Bool → Int → LLM → Option R
  | 0, _, _, _, _, _ => none
  | n + 1, s16, s17, s18, s19, s20 => f4.s1 L N k1_e2 (f4.l1 L N k1_e2 n) s16 s17 s18 s19 s20
def f4.T1 (s16 : LI) (s17 : Int) (s18 : Bool) (s19 : Int) (s20 : LLM) : T := mkT 76 [(3, (.ptr 1003 0)), (4, (.tv (.sl i64) s16)), (6, (.tv i64 s17)), (7, (.tv .bool s18)), (8, (.tv i64 s19))]
def f4.H1 (s16 : LI) (s17 : Int) (s18 : Bool) (s19 : Int) (s20 : LLM) : H := [(1003, (.box [(.tv (.sl (.sl (.st 0))) s20)]))]
def f4.T1_e2 (z21 : LI) (z22 : Int) (z23 : Bool) (z24 : LLM) : T := mkT 76 [(3, (.ptr 1003 0)), (4, (.tv (.sl i64) z21)), (6, (.tv i64 z22)), (7, (.tv .bool z23))]
def f4.H1_e2 (z21 : LI) (z22 : Int) (z23 : Bool) (z24 : LLM) : H := [(1003, (.box [(.tv (.sl (.sl (.st 0))) z24)]))]
def f4.p1_e2' {R : Type} (L N : Nat) (k0_e0 : LI → Option R) (k0_r : Bool → LI → Option R) (rec0 : LI → Int → LLM → Option R) (z21 : LI) (z22 : Int) (z23 : Bool) (z24 : LLM) : Option R :=
  (f33 L N z21 z22).bind fun y31 =>
  bif (!(z23 == y31)) then
    k0_r false z21
  else rec0 z21 (wi (z22 + (1 : Int))) z24
def f4.p1_e2 {R : Type} (L N : Nat) (k0_e0 : LI → Option R) (k0_r : Bool → LI → Option R) (rec0 : LI → Int → LLM → Option R) (z21 : LI) (z22 : Int) (z23 : Bool) (z24 : LLM) : Option R :=
  f4.p1_e2' L N k0_e0 k0_r rec0 z21 z22 z23 z24
def f4.j0' {R : Type} (L N : Nat) (k0_e0 : LI → Option R) (k0_r : Bool → LI → Option R) (rec0 : LI → Int → LLM → Option R) (w1 : LI → Int → Bool → Int → LLM → Option R) (v13 : LI) (v14 : Int) (v15 : LLM) : Option R :=
  w1 v13 v14 false (0 : Int) v15
def f4.s0' {R : Type} (L N : Nat) (k0_e0 : LI → Option R) (k0_r : Bool → LI → Option R) (rec0 : LI → Int → LLM → Option R) (w1 : LI → Int → Bool → Int → LLM → Option R) (s4 : LI) (s5 : Int) (s6 : LLM) : Option R :=
  bif (decide (s5 < (s6.length : Int))) then
    (f32 L N (Graph.mk s6)).bind fun y7 =>
    bif y7 then
      f4.j0' L N k0_e0 k0_r rec0 w1 s4 s5 s6
    else k0_e0 s4
  else k0_e0 s4
def f4.s0 {R : Type} (L N : Nat) (k0_e0 : LI → Option R) (k0_r : Bool → LI → Option R) (rec0 : LI → Int → LLM → Option R) (s4 : LI) (s5 : Int) (s6 : LLM) : Option R :=
  f4.s0' L N k0_e0 k0_r rec0 (fun s16 s17 s18 s19 s20 => f4.l1 L N (fun z21 z22 z23 z24 => f4.p1_e2 L N k0_e0 k0_r rec0 z21 z22 z23 z24) L s16 s17 s18 s19 s20) s4 s5 s6
def f4.l0 {R : Type} (L N : Nat) (k0_e0 : LI → Option R) (k0_r : Bool → LI → Option R) : Nat → LI → Int → LLM → Option R
  | 0, _, _, _ => none
  | n + 1, s4, s5, s6 => f4.s0 L N k0_e0 k0_r (f4.l0 L N k0_e0 k0_r n) s4 s5 s6
def f4.T0 (s4 : LI) (s5 : Int) (s6 : LLM) : T := mkT 76 [(3, (.ptr 1003 0)), (4, (.tv (.sl i64) s4)), (6, (.tv i64 s5))]
def f4.H0 (s4 : LI) (s5 : Int) (s6 : LLM) : H := [(1003, (.box [(.tv (.sl (.sl (.st 0))) s6)]))]
def f4.T0_e0 (z12 : LI) : T := mkT 76 [(4, (.tv (.sl i64) z12))]
def f4.H0_e0 (z12 : LI) : H := []
def f4.T0_r (z32 : Bool) (z33 : LI) : T := mkT 76 [(2, (.tv .bool z32)), (4, (.tv (.sl i64) z33))]
def f4.H0_r (z32 : Bool) (z33 : LI) : H := []
def f4.p0_e0' {R : Type} (L N : Nat) (k : Bool → Option R) (z12 : LI) : Option R :=
  (f34 L N z12).bind fun y34 =>
  k y34
def f4.p0_e0 {R : Type} (L N : Nat) (k : Bool → Option R) (z12 : LI) : Option R :=
  f4.p0_e0' L N k z12
def f4.p0_r' {R : Type} (L N : Nat) (k : Bool → Option R) (z32 : Bool) (z33 : LI) : Option R :=
  k z32
def f4.p0_r {R : Type} (L N : Nat) (k : Bool → Option R) (z32 : Bool) (z33 : LI) : Option R :=
  f4.p0_r' L N k z32 z33
def f4.b' {R : Type} (L N : Nat) (k : Bool → Option R) (w0 : LI → Int → LLM → Option R) (x0 : LI) : Option R :=
  bif (decide ((x0.length : Int) > (1048576 : Int))) then
    k true
  else (f28 L N x0).bind fun y0 =>
  (f29 L N (Graph.mk y0.moves)).bind fun y1 =>
  (f30 L N (Graph.mk y0.moves)).bind fun y2 =>
  (f31 L N y1 y2).bind fun y3 =>
  bif (!y3) then
    k false
  else w0 y1 (0 : Int) y0.moves
def f4.b {R : Type} (L N : Nat) (k : Bool → Option R) (x0 : LI) : Option R :=
  f4.b' L N k (fun s4 s5 s6 => f4.l0 L N (fun z12 => f4.p0_e0 L N k z12) (fun z32 z33 => f4.p0_r L N k z32 z33) L s4 s5 s6) x0
def f4 (L N : Nat) (x0 : LI) : Option (Bool) := f4.b L N some x0
def f4.ent (L N : Nat) (args : List AV) (vw : View) (site : Nat) : Ans := match roD [(.sl (.int .u8))] vw args with
  | some d => ⟨Bool, f4 L N d.1, fun y => ((.tv .bool y), [], [])⟩
  | none => Ans.no
noncomputable def E4 (L N : Nat) : Env := { P := Try.prog, ty := tyOf, Φ := (Φ34 L N), inl := inlT, live := lives, liveX := livesX, L := L, dp := none, prom := promT, heal := healT, ren := renT }
noncomputable def f4.c0 : Code := loopAt 0 (codeOf Try.f4)
noncomputable def f4.c1 : Code := loopAt 2 f4.c0
theorem f4.s1_pre {R : Type} (L N : Nat) (κ : Ex → T → H → Option R) (rec : T → H → Option R) (s16 : LI) (s17 : Int) (s18 : Bool) (s19 : Int) (s20 : LLM) :
    evRd (E4 L N) (evCallI (E4 L N) 1 2000) 1000 4 76 2 f4.c1 κ rec (f4.T1 s16 s17 s18 s19 s20) (f4.H1 s16 s17 s18 s19 s20)
    = f4.s1' L N (fun z21 z22 z23 z24 => κ (.exit 2) (f4.T1_e2 z21 z22 z23 z24) (f4.H1_e2 z21 z22 z23 z24)) (fun s16 s17 s18 s19 s20 => rec (f4.T1 s16 s17 s18 s19 s20) (f4.H1 s16 s17 s18 s19 s20)) s16 s17 s18 s19 s20 := by kernel_rfl
theorem f4.s1_eq {R : Type} (L N : Nat) (κ : Ex → T → H → Option R) (rec : T → H → Option R) (s16 : LI) (s17 : Int) (s18 : Bool) (s19 : Int) (s20 : LLM) :
    evRd (E4 L N) (evCallI (E4 L N) 1 2000) 1000 4 76 2 f4.c1 κ rec (f4.T1 s16 s17 s18 s19 s20) (f4.H1 s16 s17 s18 s19 s20)
    = f4.s1 L N (fun z21 z22 z23 z24 => κ (.exit 2) (f4.T1_e2 z21 z22 z23 z24) (f4.H1_e2 z21 z22 z23 z24)) (fun s16 s17 s18 s19 s20 => rec (f4.T1 s16 s17 s18 s19 s20) (f4.H1 s16 s17 s18 s19 s20)) s16 s17 s18 s19 s20 := by
  rw [f4.s1_pre]
  unfold f4.s1
  rfl
theorem f4.l1_eq {R : Type} (L N : Nat) (κ : Ex → T → H → Option R) : ∀ (n : Nat) (s16 : LI) (s17 : Int) (s18 : Bool) (s19 : Int) (s20 : LLM),
    evLp (E4 L N) (evCallI (E4 L N) 1 2000) 1000 4 76 2 f4.c1 κ n (f4.T1 s16 s17 s18 s19 s20) (f4.H1 s16 s17 s18 s19 s20)
    = f4.l1 L N (fun z21 z22 z23 z24 => κ (.exit 2) (f4.T1_e2 z21 z22 z23 z24) (f4.H1_e2 z21 z22 z23 z24)) n s16 s17 s18 s19 s20 := by
  intro n
  induction n with
  | zero => intros; rfl
  | succ n ih =>
    intro s16 s17 s18 s19 s20
    rw [evLp_succ, f4.s1_eq]
    simp only [ih]
    rfl
theorem f4.p1_e2_pre {R : Type} (L N : Nat) (κ : Ex → T → H → Option R) (rec : T → H → Option R) (z21 : LI) (z22 : Int) (z23 : Bool) (z24 : LLM) :
    (contAt (E4 L N) (evCallI (E4 L N) 1 2000) 1000 4 76 2 f4.c0 (stepK (outK (keepT 76 ((E4 L N).liveX 4 0).1) (keepH 1000 ((E4 L N).liveX 4 0).2) κ) fun t h => rec (backK 1000 76 ((E4 L N).live 4 0).1 ((E4 L N).live 4 0).2 ((E4 L N).heal 4 0) ((E4 L N).ren 4 0) t h).1 (backK 1000 76 ((E4 L N).live 4 0).1 ((E4 L N).live 4 0).2 ((E4 L N).heal 4 0) ((E4 L N).ren 4 0) t h).2)) (.exit 2) (f4.T1_e2 z21 z22 z23 z24) (f4.H1_e2 z21 z22 z23 z24)
    = f4.p1_e2' L N (fun z12 => κ (.exit 0) (f4.T0_e0 z12) (f4.H0_e0 z12)) (fun z32 z33 => κ .ret (f4.T0_r z32 z33) (f4.H0_r z32 z33)) (fun s4 s5 s6 => rec (f4.T0 s4 s5 s6) (f4.H0 s4 s5 s6)) z21 z22 z23 z24 := by kernel_rfl
theorem f4.p1_e2_eq {R : Type} (L N : Nat) (κ : Ex → T → H → Option R) (rec : T → H → Option R) (z21 : LI) (z22 : Int) (z23 : Bool) (z24 : LLM) :
    (contAt (E4 L N) (evCallI (E4 L N) 1 2000) 1000 4 76 2 f4.c0 (stepK (outK (keepT 76 ((E4 L N).liveX 4 0).1) (keepH 1000 ((E4 L N).liveX 4 0).2) κ) fun t h => rec (backK 1000 76 ((E4 L N).live 4 0).1 ((E4 L N).live 4 0).2 ((E4 L N).heal 4 0) ((E4 L N).ren 4 0) t h).1 (backK 1000 76 ((E4 L N).live 4 0).1 ((E4 L N).live 4 0).2 ((E4 L N).heal 4 0) ((E4 L N).ren 4 0) t h).2)) (.exit 2) (f4.T1_e2 z21 z22 z23 z24) (f4.H1_e2 z21 z22 z23 z24)
    = f4.p1_e2 L N (fun z12 => κ (.exit 0) (f4.T0_e0 z12) (f4.H0_e0 z12)) (fun z32 z33 => κ .ret (f4.T0_r z32 z33) (f4.H0_r z32 z33)) (fun s4 s5 s6 => rec (f4.T0 s4 s5 s6) (f4.H0 s4 s5 s6)) z21 z22 z23 z24 := by
  rw [f4.p1_e2_pre]
  unfold f4.p1_e2
  rfl
theorem f4.s0_pre {R : Type} (L N : Nat) (κ : Ex → T → H → Option R) (rec : T → H → Option R) (s4 : LI) (s5 : Int) (s6 : LLM) :
    evRd (E4 L N) (evCallI (E4 L N) 1 2000) 1000 4 76 0 f4.c0 κ rec (f4.T0 s4 s5 s6) (f4.H0 s4 s5 s6)
    = f4.s0' L N (fun z12 => κ (.exit 0) (f4.T0_e0 z12) (f4.H0_e0 z12)) (fun z32 z33 => κ .ret (f4.T0_r z32 z33) (f4.H0_r z32 z33)) (fun s4 s5 s6 => rec (f4.T0 s4 s5 s6) (f4.H0 s4 s5 s6)) (fun s16 s17 s18 s19 s20 => evLp (E4 L N) (evCallI (E4 L N) 1 2000) 1000 4 76 2 f4.c1 (contAt (E4 L N) (evCallI (E4 L N) 1 2000) 1000 4 76 2 f4.c0 (stepK (outK (keepT 76 ((E4 L N).liveX 4 0).1) (keepH 1000 ((E4 L N).liveX 4 0).2) κ) fun t h => rec (backK 1000 76 ((E4 L N).live 4 0).1 ((E4 L N).live 4 0).2 ((E4 L N).heal 4 0) ((E4 L N).ren 4 0) t h).1 (backK 1000 76 ((E4 L N).live 4 0).1 ((E4 L N).live 4 0).2 ((E4 L N).heal 4 0) ((E4 L N).ren 4 0) t h).2)) L (f4.T1 s16 s17 s18 s19 s20) (f4.H1 s16 s17 s18 s19 s20)) s4 s5 s6 := by kernel_rfl
theorem f4.s0_eq {R : Type} (L N : Nat) (κ : Ex → T → H → Option R) (rec : T → H → Option R) (s4 : LI) (s5 : Int) (s6 : LLM) :
    evRd (E4 L N) (evCallI (E4 L N) 1 2000) 1000 4 76 0 f4.c0 κ rec (f4.T0 s4 s5 s6) (f4.H0 s4 s5 s6)
    = f4.s0 L N (fun z12 => κ (.exit 0) (f4.T0_e0 z12) (f4.H0_e0 z12)) (fun z32 z33 => κ .ret (f4.T0_r z32 z33) (f4.H0_r z32 z33)) (fun s4 s5 s6 => rec (f4.T0 s4 s5 s6) (f4.H0 s4 s5 s6)) s4 s5 s6 := by
  rw [f4.s0_pre]
  unfold f4.s0
  simp only [f4.l1_eq, f4.p1_e2_eq]
theorem f4.l0_eq {R : Type} (L N : Nat) (κ : Ex → T → H → Option R) : ∀ (n : Nat) (s4 : LI) (s5 : Int) (s6 : LLM),
    evLp (E4 L N) (evCallI (E4 L N) 1 2000) 1000 4 76 0 f4.c0 κ n (f4.T0 s4 s5 s6) (f4.H0 s4 s5 s6)
    = f4.l0 L N (fun z12 => κ (.exit 0) (f4.T0_e0 z12) (f4.H0_e0 z12)) (fun z32 z33 => κ .ret (f4.T0_r z32 z33) (f4.H0_r z32 z33)) n s4 s5 s6 := by
  intro n
  induction n with
  | zero => intros; rfl
  | succ n ih =>
    intro s4 s5 s6
    rw [evLp_succ, f4.s0_eq]
    simp only [ih]
    rfl
theorem f4.p0_e0_pre {R : Type} (L N : Nat) (κ : AV → Option R) (z12 : LI) :
    (contAt (E4 L N) (evCallI (E4 L N) 1 2000) 1000 4 76 0 (codeOf Try.f4) (finK (E4 L N) 1000 Try.f4 (finC (.one .bool) κ))) (.exit 0) (f4.T0_e0 z12) (f4.H0_e0 z12)
    = f4.p0_e0' L N (fun a0 => κ (.tv .bool a0)) z12 := by kernel_rfl
theorem f4.p0_e0_eq {R : Type} (L N : Nat) (κ : AV → Option R) (z12 : LI) :
    (contAt (E4 L N) (evCallI (E4 L N) 1 2000) 1000 4 76 0 (codeOf Try.f4) (finK (E4 L N) 1000 Try.f4 (finC (.one .bool) κ))) (.exit 0) (f4.T0_e0 z12) (f4.H0_e0 z12)
    = f4.p0_e0 L N (fun a0 => κ (.tv .bool a0)) z12 := by
  rw [f4.p0_e0_pre]
  unfold f4.p0_e0
  rfl
theorem f4.p0_r_pre {R : Type} (L N : Nat) (κ : AV → Option R) (z32 : Bool) (z33 : LI) :
    (contAt (E4 L N) (evCallI (E4 L N) 1 2000) 1000 4 76 0 (codeOf Try.f4) (finK (E4 L N) 1000 Try.f4 (finC (.one .bool) κ))) .ret (f4.T0_r z32 z33) (f4.H0_r z32 z33)
    = f4.p0_r' L N (fun a0 => κ (.tv .bool a0)) z32 z33 := by kernel_rfl
theorem f4.p0_r_eq {R : Type} (L N : Nat) (κ : AV → Option R) (z32 : Bool) (z33 : LI) :
    (contAt (E4 L N) (evCallI (E4 L N) 1 2000) 1000 4 76 0 (codeOf Try.f4) (finK (E4 L N) 1000 Try.f4 (finC (.one .bool) κ))) .ret (f4.T0_r z32 z33) (f4.H0_r z32 z33)
    = f4.p0_r L N (fun a0 => κ (.tv .bool a0)) z32 z33 := by
  rw [f4.p0_r_pre]
  unfold f4.p0_r
  rfl
theorem f4.b_pre {R : Type} (L N : Nat) (κ : AV → Option R) (x0 : LI) :
    evBody (E4 L N) (evCallI (E4 L N) 1 2000) 1000 4 Try.f4 [(.tv (.sl (.int .u8)) x0)] [] [] (finC (.one .bool) κ)
    = f4.b' L N (fun a0 => κ (.tv .bool a0)) (fun s4 s5 s6 => evLp (E4 L N) (evCallI (E4 L N) 1 2000) 1000 4 76 0 f4.c0 (contAt (E4 L N) (evCallI (E4 L N) 1 2000) 1000 4 76 0 (codeOf Try.f4) (finK (E4 L N) 1000 Try.f4 (finC (.one .bool) κ))) L (f4.T0 s4 s5 s6) (f4.H0 s4 s5 s6)) x0 := by kernel_rfl
theorem f4.b_eq {R : Type} (L N : Nat) (κ : AV → Option R) (x0 : LI) :
    evBody (E4 L N) (evCallI (E4 L N) 1 2000) 1000 4 Try.f4 [(.tv (.sl (.int .u8)) x0)] [] [] (finC (.one .bool) κ)
    = f4.b L N (fun a0 => κ (.tv .bool a0)) x0 := by
  rw [f4.b_pre]
  unfold f4.b
  simp only [f4.l0_eq, f4.p0_e0_eq, f4.p0_r_eq]
theorem f4.s1'_nat {R R' : Type} (j : R → Option R') (L N : Nat) (k1_e2 : LI → Int → Bool → LLM → Option R) (rec1 : LI → Int → Bool → Int → LLM → Option R) (s16 : LI) (s17 : Int) (s18 : Bool) (s19 : Int) (s20 : LLM) :
    f4.s1' L N (fun a0 a1 a2 a3 => (k1_e2 a0 a1 a2 a3).bind j) (fun a0 a1 a2 a3 a4 => (rec1 a0 a1 a2 a3 a4).bind j) s16 s17 s18 s19 s20 = (f4.s1' L N k1_e2 rec1 s16 s17 s18 s19 s20).bind j := by
  unfold f4.s1'
  repeat' (first | (with_reducible refine cond_nat ?_ ?_) | (with_reducible refine bind_nat fun _ => ?_) | rfl)
theorem f4.s1_nat {R R' : Type} (j : R → Option R') (L N : Nat) (k1_e2 : LI → Int → Bool → LLM → Option R) (rec1 : LI → Int → Bool → Int → LLM → Option R) (s16 : LI) (s17 : Int) (s18 : Bool) (s19 : Int) (s20 : LLM) :
    f4.s1 L N (fun a0 a1 a2 a3 => (k1_e2 a0 a1 a2 a3).bind j) (fun a0 a1 a2 a3 a4 => (rec1 a0 a1 a2 a3 a4).bind j) s16 s17 s18 s19 s20 = (f4.s1 L N k1_e2 rec1 s16 s17 s18 s19 s20).bind j := by
  unfold f4.s1
  exact f4.s1'_nat ..
theorem f4.l1_nat {R R' : Type} (j : R → Option R') (L N : Nat) (k1_e2 : LI → Int → Bool → LLM → Option R) : ∀ (n : Nat) (s16 : LI) (s17 : Int) (s18 : Bool) (s19 : Int) (s20 : LLM),
    f4.l1 L N (fun a0 a1 a2 a3 => (k1_e2 a0 a1 a2 a3).bind j) n s16 s17 s18 s19 s20 = (f4.l1 L N k1_e2 n s16 s17 s18 s19 s20).bind j := by
  intro n
  induction n with
  | zero => intros; rfl
  | succ n ih =>
    intro s16 s17 s18 s19 s20
    show f4.s1 L N (fun a0 a1 a2 a3 => (k1_e2 a0 a1 a2 a3).bind j) (f4.l1 L N (fun a0 a1 a2 a3 => (k1_e2 a0 a1 a2 a3).bind j) n) s16 s17 s18 s19 s20 = _
    rw [show f4.l1 L N (fun a0 a1 a2 a3 => (k1_e2 a0 a1 a2 a3).bind j) n = (fun s16 s17 s18 s19 s20 => (f4.l1 L N k1_e2 n s16 s17 s18 s19 s20).bind j) from funext fun s16 => funext fun s17 => funext fun s18 => funext fun s19 => funext fun s20 => ih s16 s17 s18 s19 s20]
    exact f4.s1_nat ..
theorem f4.p1_e2'_nat {R R' : Type} (j : R → Option R') (L N : Nat) (k0_e0 : LI → Option R) (k0_r : Bool → LI → Option R) (rec0 : LI → Int → LLM → Option R) (z21 : LI) (z22 : Int) (z23 : Bool) (z24 : LLM) :
    f4.p1_e2' L N (fun a0 => (k0_e0 a0).bind j) (fun a0 a1 => (k0_r a0 a1).bind j) (fun a0 a1 a2 => (rec0 a0 a1 a2).bind j) z21 z22 z23 z24 = (f4.p1_e2' L N k0_e0 k0_r rec0 z21 z22 z23 z24).bind j := by
  unfold f4.p1_e2'
  repeat' (first | (with_reducible refine cond_nat ?_ ?_) | (with_reducible refine bind_nat fun _ => ?_) | rfl)
theorem f4.p1_e2_nat {R R' : Type} (j : R → Option R') (L N : Nat) (k0_e0 : LI → Option R) (k0_r : Bool → LI → Option R) (rec0 : LI → Int → LLM → Option R) (z21 : LI) (z22 : Int) (z23 : Bool) (z24 : LLM) :
    f4.p1_e2 L N (fun a0 => (k0_e0 a0).bind j) (fun a0 a1 => (k0_r a0 a1).bind j) (fun a0 a1 a2 => (rec0 a0 a1 a2).bind j) z21 z22 z23 z24 = (f4.p1_e2 L N k0_e0 k0_r rec0 z21 z22 z23 z24).bind j := by
  unfold f4.p1_e2
  exact f4.p1_e2'_nat ..
theorem f4.j0'_nat {R R' : Type} (j : R → Option R') (L N : Nat) (k0_e0 : LI → Option R) (k0_r : Bool → LI → Option R) (rec0 : LI → Int → LLM → Option R) (w1 : LI → Int → Bool → Int → LLM → Option R) (v13 : LI) (v14 : Int) (v15 : LLM) :
    f4.j0' L N (fun a0 => (k0_e0 a0).bind j) (fun a0 a1 => (k0_r a0 a1).bind j) (fun a0 a1 a2 => (rec0 a0 a1 a2).bind j) (fun a0 a1 a2 a3 a4 => (w1 a0 a1 a2 a3 a4).bind j) v13 v14 v15 = (f4.j0' L N k0_e0 k0_r rec0 w1 v13 v14 v15).bind j := by
  unfold f4.j0'
  repeat' (first | (with_reducible refine cond_nat ?_ ?_) | (with_reducible refine bind_nat fun _ => ?_) | rfl)
theorem f4.s0'_nat {R R' : Type} (j : R → Option R') (L N : Nat) (k0_e0 : LI → Option R) (k0_r : Bool → LI → Option R) (rec0 : LI → Int → LLM → Option R) (w1 : LI → Int → Bool → Int → LLM → Option R) (s4 : LI) (s5 : Int) (s6 : LLM) :
    f4.s0' L N (fun a0 => (k0_e0 a0).bind j) (fun a0 a1 => (k0_r a0 a1).bind j) (fun a0 a1 a2 => (rec0 a0 a1 a2).bind j) (fun a0 a1 a2 a3 a4 => (w1 a0 a1 a2 a3 a4).bind j) s4 s5 s6 = (f4.s0' L N k0_e0 k0_r rec0 w1 s4 s5 s6).bind j := by
  unfold f4.s0'
  repeat' (first | (with_reducible refine cond_nat ?_ ?_) | (with_reducible refine bind_nat fun _ => ?_) | exact f4.j0'_nat .. | rfl)
theorem f4.s0_nat {R R' : Type} (j : R → Option R') (L N : Nat) (k0_e0 : LI → Option R) (k0_r : Bool → LI → Option R) (rec0 : LI → Int → LLM → Option R) (s4 : LI) (s5 : Int) (s6 : LLM) :
    f4.s0 L N (fun a0 => (k0_e0 a0).bind j) (fun a0 a1 => (k0_r a0 a1).bind j) (fun a0 a1 a2 => (rec0 a0 a1 a2).bind j) s4 s5 s6 = (f4.s0 L N k0_e0 k0_r rec0 s4 s5 s6).bind j := by
  unfold f4.s0
  simp only [f4.l1_nat, f4.p1_e2_nat]
  exact f4.s0'_nat ..
theorem f4.l0_nat {R R' : Type} (j : R → Option R') (L N : Nat) (k0_e0 : LI → Option R) (k0_r : Bool → LI → Option R) : ∀ (n : Nat) (s4 : LI) (s5 : Int) (s6 : LLM),
    f4.l0 L N (fun a0 => (k0_e0 a0).bind j) (fun a0 a1 => (k0_r a0 a1).bind j) n s4 s5 s6 = (f4.l0 L N k0_e0 k0_r n s4 s5 s6).bind j := by
  intro n
  induction n with
  | zero => intros; rfl
  | succ n ih =>
    intro s4 s5 s6
    show f4.s0 L N (fun a0 => (k0_e0 a0).bind j) (fun a0 a1 => (k0_r a0 a1).bind j) (f4.l0 L N (fun a0 => (k0_e0 a0).bind j) (fun a0 a1 => (k0_r a0 a1).bind j) n) s4 s5 s6 = _
    rw [show f4.l0 L N (fun a0 => (k0_e0 a0).bind j) (fun a0 a1 => (k0_r a0 a1).bind j) n = (fun s4 s5 s6 => (f4.l0 L N k0_e0 k0_r n s4 s5 s6).bind j) from funext fun s4 => funext fun s5 => funext fun s6 => ih s4 s5 s6]
    exact f4.s0_nat ..
theorem f4.p0_e0'_nat {R R' : Type} (j : R → Option R') (L N : Nat) (k : Bool → Option R) (z12 : LI) :
    f4.p0_e0' L N (fun a0 => (k a0).bind j) z12 = (f4.p0_e0' L N k z12).bind j := by
  unfold f4.p0_e0'
  repeat' (first | (with_reducible refine cond_nat ?_ ?_) | (with_reducible refine bind_nat fun _ => ?_) | rfl)
theorem f4.p0_e0_nat {R R' : Type} (j : R → Option R') (L N : Nat) (k : Bool → Option R) (z12 : LI) :
    f4.p0_e0 L N (fun a0 => (k a0).bind j) z12 = (f4.p0_e0 L N k z12).bind j := by
  unfold f4.p0_e0
  exact f4.p0_e0'_nat ..
theorem f4.p0_r'_nat {R R' : Type} (j : R → Option R') (L N : Nat) (k : Bool → Option R) (z32 : Bool) (z33 : LI) :
    f4.p0_r' L N (fun a0 => (k a0).bind j) z32 z33 = (f4.p0_r' L N k z32 z33).bind j := by
  unfold f4.p0_r'
  repeat' (first | (with_reducible refine cond_nat ?_ ?_) | (with_reducible refine bind_nat fun _ => ?_) | rfl)
theorem f4.p0_r_nat {R R' : Type} (j : R → Option R') (L N : Nat) (k : Bool → Option R) (z32 : Bool) (z33 : LI) :
    f4.p0_r L N (fun a0 => (k a0).bind j) z32 z33 = (f4.p0_r L N k z32 z33).bind j := by
  unfold f4.p0_r
  exact f4.p0_r'_nat ..
theorem f4.b'_nat {R R' : Type} (j : R → Option R') (L N : Nat) (k : Bool → Option R) (w0 : LI → Int → LLM → Option R) (x0 : LI) :
    f4.b' L N (fun a0 => (k a0).bind j) (fun a0 a1 a2 => (w0 a0 a1 a2).bind j) x0 = (f4.b' L N k w0 x0).bind j := by
  unfold f4.b'
  repeat' (first | (with_reducible refine cond_nat ?_ ?_) | (with_reducible refine bind_nat fun _ => ?_) | rfl)
theorem f4.b_nat {R R' : Type} (j : R → Option R') (L N : Nat) (k : Bool → Option R) (x0 : LI) :
    f4.b L N (fun a0 => (k a0).bind j) x0 = (f4.b L N k x0).bind j := by
  unfold f4.b
  simp only [f4.l0_nat, f4.p0_e0_nat, f4.p0_r_nat]
  exact f4.b'_nat ..
theorem f4.ok (L N : Nat) (hΦ : TellsOk Try.prog ((Φ34 L N))) : EntOk Try.prog 4 (f4.ent L N) := by
  intro args vw site h
  unfold f4.ent
  split
  · rename_i d ha
    intro y hy hs
    refine call_ro (dep := 1000) (E := (E4 L N)) (rs := (.one .bool)) (v := (.tv .bool y)) (sound_of hΦ) okP (callI_sound (sound_of hΦ) okP 1 2000) (f := Try.f4) rfl hs ha ?_ rfl site
    refine (f4.b_eq L N some d.1).trans ?_
    refine ((f4.b_nat (fun y => (some (.tv .bool y) : Option AV)) L N some d.1)).trans ?_
    rw [show f4.b L N some d.1 = some y from hy]
    rfl
  · intro y hy
    cases hy
def Φ4 (L N : Nat) : Tells := (addT (Φ34 L N) 4 (f4.ent L N))
theorem Φ4_ok (L N : Nat) : TellsOk Try.prog (Φ4 L N) := addT_ok (Φ34_ok L N) (f4.ok L N (Φ34_ok L N))
end Go.Proofs.Ytdfjdbpklbehoaa.Ev
