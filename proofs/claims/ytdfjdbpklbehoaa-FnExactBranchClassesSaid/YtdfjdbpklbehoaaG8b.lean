/- The seat's functions as plain functions, continued: made by program (wip/gen/gen.py). -/
import Derived.Test.YtdfjdbpklbehoaaG8a
namespace Go.Proofs.Ytdfjdbpklbehoaa.Ev
open Go
set_option linter.unusedVariables false
set_option maxRecDepth 20000
theorem f80.p1_e2_eq {R : Type} (L N : Nat) (κ : Ex → T → H → Option R) (rec : T → H → Option R) (z6 : LLM) (z7 : LI) (z8 : LI) :
    (contAt (E80 L N) (evCallI (E80 L N) 1 2000) 1000 80 56 2 f80.c0 (stepK (outK (keepT 56 ((E80 L N).liveX 80 0).1) (keepH 1000 ((E80 L N).liveX 80 0).2) κ) fun t h => rec (backK 1000 56 ((E80 L N).live 80 0).1 ((E80 L N).live 80 0).2 ((E80 L N).heal 80 0) ((E80 L N).ren 80 0) t h).1 (backK 1000 56 ((E80 L N).live 80 0).1 ((E80 L N).live 80 0).2 ((E80 L N).heal 80 0) ((E80 L N).ren 80 0) t h).2)) (.exit 2) (f80.T1_e2 z6 z7 z8) (f80.H1_e2 z6 z7 z8)
    = f80.p1_e2 L N (fun z37 => κ .ret (f80.T0_r z37) (f80.H0_r z37)) (fun s0 s1 => rec (f80.T0 s0 s1) (f80.H0 s0 s1)) z6 z7 z8 := by
  rw [f80.p1_e2_pre]
  unfold f80.p1_e2
  rfl
theorem f80.s0_pre {R : Type} (L N : Nat) (κ : Ex → T → H → Option R) (rec : T → H → Option R) (s0 : LLM) (s1 : LI) :
    evRd (E80 L N) (evCallI (E80 L N) 1 2000) 1000 80 56 0 f80.c0 κ rec (f80.T0 s0 s1) (f80.H0 s0 s1)
    = f80.s0' L N (fun z37 => κ .ret (f80.T0_r z37) (f80.H0_r z37)) (fun s0 s1 => rec (f80.T0 s0 s1) (f80.H0 s0 s1)) (fun s2 s3 s4 s5 => evLp (E80 L N) (evCallI (E80 L N) 1 2000) 1000 80 56 2 f80.c1 (contAt (E80 L N) (evCallI (E80 L N) 1 2000) 1000 80 56 2 f80.c0 (stepK (outK (keepT 56 ((E80 L N).liveX 80 0).1) (keepH 1000 ((E80 L N).liveX 80 0).2) κ) fun t h => rec (backK 1000 56 ((E80 L N).live 80 0).1 ((E80 L N).live 80 0).2 ((E80 L N).heal 80 0) ((E80 L N).ren 80 0) t h).1 (backK 1000 56 ((E80 L N).live 80 0).1 ((E80 L N).live 80 0).2 ((E80 L N).heal 80 0) ((E80 L N).ren 80 0) t h).2)) L (f80.T1 s2 s3 s4 s5) (f80.H1 s2 s3 s4 s5)) s0 s1 := by kernel_rfl
theorem f80.s0_eq {R : Type} (L N : Nat) (κ : Ex → T → H → Option R) (rec : T → H → Option R) (s0 : LLM) (s1 : LI) :
    evRd (E80 L N) (evCallI (E80 L N) 1 2000) 1000 80 56 0 f80.c0 κ rec (f80.T0 s0 s1) (f80.H0 s0 s1)
    = f80.s0 L N (fun z37 => κ .ret (f80.T0_r z37) (f80.H0_r z37)) (fun s0 s1 => rec (f80.T0 s0 s1) (f80.H0 s0 s1)) s0 s1 := by
  rw [f80.s0_pre]
  unfold f80.s0
  simp only [f80.l1_eq, f80.p1_e2_eq]
theorem f80.l0_eq {R : Type} (L N : Nat) (κ : Ex → T → H → Option R) : ∀ (n : Nat) (s0 : LLM) (s1 : LI),
    evLp (E80 L N) (evCallI (E80 L N) 1 2000) 1000 80 56 0 f80.c0 κ n (f80.T0 s0 s1) (f80.H0 s0 s1)
    = f80.l0 L N (fun z37 => κ .ret (f80.T0_r z37) (f80.H0_r z37)) n s0 s1 := by
  intro n
  induction n with
  | zero => intros; rfl
  | succ n ih =>
    intro s0 s1
    rw [evLp_succ, f80.s0_eq]
    simp only [ih]
    rfl
theorem f80.p0_r_pre {R : Type} (L N : Nat) (κ : AV → Option R) (z37 : LI) :
    (contAt (E80 L N) (evCallI (E80 L N) 1 2000) 1000 80 56 0 (codeOf Try.f80) (finK (E80 L N) 1000 Try.f80 (finC (.one (.sl i64)) κ))) .ret (f80.T0_r z37) (f80.H0_r z37)
    = f80.p0_r' L N (fun a0 => κ (.tv (.sl i64) a0)) z37 := by kernel_rfl
theorem f80.p0_r_eq {R : Type} (L N : Nat) (κ : AV → Option R) (z37 : LI) :
    (contAt (E80 L N) (evCallI (E80 L N) 1 2000) 1000 80 56 0 (codeOf Try.f80) (finK (E80 L N) 1000 Try.f80 (finC (.one (.sl i64)) κ))) .ret (f80.T0_r z37) (f80.H0_r z37)
    = f80.p0_r L N (fun a0 => κ (.tv (.sl i64) a0)) z37 := by
  rw [f80.p0_r_pre]
  unfold f80.p0_r
  rfl
theorem f80.b_pre {R : Type} (L N : Nat) (κ : AV → Option R) (x0 : Graph) :
    evBody (E80 L N) (evCallI (E80 L N) 1 2000) 1000 80 Try.f80 [(.tv (.st 2) x0)] [] [] (finC (.one (.sl i64)) κ)
    = f80.b' L N (fun a0 => κ (.tv (.sl i64) a0)) (fun s0 s1 => evLp (E80 L N) (evCallI (E80 L N) 1 2000) 1000 80 56 0 f80.c0 (contAt (E80 L N) (evCallI (E80 L N) 1 2000) 1000 80 56 0 (codeOf Try.f80) (finK (E80 L N) 1000 Try.f80 (finC (.one (.sl i64)) κ))) L (f80.T0 s0 s1) (f80.H0 s0 s1)) x0 := by kernel_rfl
theorem f80.b_eq {R : Type} (L N : Nat) (κ : AV → Option R) (x0 : Graph) :
    evBody (E80 L N) (evCallI (E80 L N) 1 2000) 1000 80 Try.f80 [(.tv (.st 2) x0)] [] [] (finC (.one (.sl i64)) κ)
    = f80.b L N (fun a0 => κ (.tv (.sl i64) a0)) x0 := by
  rw [f80.b_pre]
  unfold f80.b
  simp only [f80.l0_eq, f80.p0_r_eq]
theorem f80.s2'_nat {R R' : Type} (j : R → Option R') (L N : Nat) (k2_e4 : Int → Int → LLM → LI → LI → Option R) (rec2 : Int → Int → Int → LLM → LI → LI → Option R) (s9 : Int) (s10 : Int) (s11 : Int) (s12 : LLM) (s13 : LI) (s14 : LI) :
    f80.s2' L N (fun a0 a1 a2 a3 a4 => (k2_e4 a0 a1 a2 a3 a4).bind j) (fun a0 a1 a2 a3 a4 a5 => (rec2 a0 a1 a2 a3 a4 a5).bind j) s9 s10 s11 s12 s13 s14 = (f80.s2' L N k2_e4 rec2 s9 s10 s11 s12 s13 s14).bind j := by
  unfold f80.s2'
  repeat' (first | (with_reducible refine cond_nat ?_ ?_) | (with_reducible refine bind_nat fun _ => ?_) | rfl)
theorem f80.s2_nat {R R' : Type} (j : R → Option R') (L N : Nat) (k2_e4 : Int → Int → LLM → LI → LI → Option R) (rec2 : Int → Int → Int → LLM → LI → LI → Option R) (s9 : Int) (s10 : Int) (s11 : Int) (s12 : LLM) (s13 : LI) (s14 : LI) :
    f80.s2 L N (fun a0 a1 a2 a3 a4 => (k2_e4 a0 a1 a2 a3 a4).bind j) (fun a0 a1 a2 a3 a4 a5 => (rec2 a0 a1 a2 a3 a4 a5).bind j) s9 s10 s11 s12 s13 s14 = (f80.s2 L N k2_e4 rec2 s9 s10 s11 s12 s13 s14).bind j := by
  unfold f80.s2
  exact f80.s2'_nat ..
theorem f80.l2_nat {R R' : Type} (j : R → Option R') (L N : Nat) (k2_e4 : Int → Int → LLM → LI → LI → Option R) : ∀ (n : Nat) (s9 : Int) (s10 : Int) (s11 : Int) (s12 : LLM) (s13 : LI) (s14 : LI),
    f80.l2 L N (fun a0 a1 a2 a3 a4 => (k2_e4 a0 a1 a2 a3 a4).bind j) n s9 s10 s11 s12 s13 s14 = (f80.l2 L N k2_e4 n s9 s10 s11 s12 s13 s14).bind j := by
  intro n
  induction n with
  | zero => intros; rfl
  | succ n ih =>
    intro s9 s10 s11 s12 s13 s14
    show f80.s2 L N (fun a0 a1 a2 a3 a4 => (k2_e4 a0 a1 a2 a3 a4).bind j) (f80.l2 L N (fun a0 a1 a2 a3 a4 => (k2_e4 a0 a1 a2 a3 a4).bind j) n) s9 s10 s11 s12 s13 s14 = _
    rw [show f80.l2 L N (fun a0 a1 a2 a3 a4 => (k2_e4 a0 a1 a2 a3 a4).bind j) n = (fun s9 s10 s11 s12 s13 s14 => (f80.l2 L N k2_e4 n s9 s10 s11 s12 s13 s14).bind j) from funext fun s9 => funext fun s10 => funext fun s11 => funext fun s12 => funext fun s13 => funext fun s14 => ih s9 s10 s11 s12 s13 s14]
    exact f80.s2_nat ..
theorem f80.p2_e4'_nat {R R' : Type} (j : R → Option R') (L N : Nat) (k1_e2 : LLM → LI → LI → Option R) (rec1 : Int → LLM → LI → LI → Option R) (z15 : Int) (z16 : Int) (z17 : LLM) (z18 : LI) (z19 : LI) :
    f80.p2_e4' L N (fun a0 a1 a2 => (k1_e2 a0 a1 a2).bind j) (fun a0 a1 a2 a3 => (rec1 a0 a1 a2 a3).bind j) z15 z16 z17 z18 z19 = (f80.p2_e4' L N k1_e2 rec1 z15 z16 z17 z18 z19).bind j := by
  unfold f80.p2_e4'
  repeat' (first | (with_reducible refine cond_nat ?_ ?_) | (with_reducible refine bind_nat fun _ => ?_) | rfl)
theorem f80.p2_e4_nat {R R' : Type} (j : R → Option R') (L N : Nat) (k1_e2 : LLM → LI → LI → Option R) (rec1 : Int → LLM → LI → LI → Option R) (z15 : Int) (z16 : Int) (z17 : LLM) (z18 : LI) (z19 : LI) :
    f80.p2_e4 L N (fun a0 a1 a2 => (k1_e2 a0 a1 a2).bind j) (fun a0 a1 a2 a3 => (rec1 a0 a1 a2 a3).bind j) z15 z16 z17 z18 z19 = (f80.p2_e4 L N k1_e2 rec1 z15 z16 z17 z18 z19).bind j := by
  unfold f80.p2_e4
  exact f80.p2_e4'_nat ..
theorem f80.s1'_nat {R R' : Type} (j : R → Option R') (L N : Nat) (k1_e2 : LLM → LI → LI → Option R) (rec1 : Int → LLM → LI → LI → Option R) (w2 : Int → Int → Int → LLM → LI → LI → Option R) (s2 : Int) (s3 : LLM) (s4 : LI) (s5 : LI) :
    f80.s1' L N (fun a0 a1 a2 => (k1_e2 a0 a1 a2).bind j) (fun a0 a1 a2 a3 => (rec1 a0 a1 a2 a3).bind j) (fun a0 a1 a2 a3 a4 a5 => (w2 a0 a1 a2 a3 a4 a5).bind j) s2 s3 s4 s5 = (f80.s1' L N k1_e2 rec1 w2 s2 s3 s4 s5).bind j := by
  unfold f80.s1'
  repeat' (first | (with_reducible refine cond_nat ?_ ?_) | (with_reducible refine bind_nat fun _ => ?_) | rfl)
theorem f80.s1_nat {R R' : Type} (j : R → Option R') (L N : Nat) (k1_e2 : LLM → LI → LI → Option R) (rec1 : Int → LLM → LI → LI → Option R) (s2 : Int) (s3 : LLM) (s4 : LI) (s5 : LI) :
    f80.s1 L N (fun a0 a1 a2 => (k1_e2 a0 a1 a2).bind j) (fun a0 a1 a2 a3 => (rec1 a0 a1 a2 a3).bind j) s2 s3 s4 s5 = (f80.s1 L N k1_e2 rec1 s2 s3 s4 s5).bind j := by
  unfold f80.s1
  simp only [f80.l2_nat, f80.p2_e4_nat]
  exact f80.s1'_nat ..
theorem f80.l1_nat {R R' : Type} (j : R → Option R') (L N : Nat) (k1_e2 : LLM → LI → LI → Option R) : ∀ (n : Nat) (s2 : Int) (s3 : LLM) (s4 : LI) (s5 : LI),
    f80.l1 L N (fun a0 a1 a2 => (k1_e2 a0 a1 a2).bind j) n s2 s3 s4 s5 = (f80.l1 L N k1_e2 n s2 s3 s4 s5).bind j := by
  intro n
  induction n with
  | zero => intros; rfl
  | succ n ih =>
    intro s2 s3 s4 s5
    show f80.s1 L N (fun a0 a1 a2 => (k1_e2 a0 a1 a2).bind j) (f80.l1 L N (fun a0 a1 a2 => (k1_e2 a0 a1 a2).bind j) n) s2 s3 s4 s5 = _
    rw [show f80.l1 L N (fun a0 a1 a2 => (k1_e2 a0 a1 a2).bind j) n = (fun s2 s3 s4 s5 => (f80.l1 L N k1_e2 n s2 s3 s4 s5).bind j) from funext fun s2 => funext fun s3 => funext fun s4 => funext fun s5 => ih s2 s3 s4 s5]
    exact f80.s1_nat ..
theorem f80.p1_e2'_nat {R R' : Type} (j : R → Option R') (L N : Nat) (k0_r : LI → Option R) (rec0 : LLM → LI → Option R) (z6 : LLM) (z7 : LI) (z8 : LI) :
    f80.p1_e2' L N (fun a0 => (k0_r a0).bind j) (fun a0 a1 => (rec0 a0 a1).bind j) z6 z7 z8 = (f80.p1_e2' L N k0_r rec0 z6 z7 z8).bind j := by
  unfold f80.p1_e2'
  repeat' (first | (with_reducible refine cond_nat ?_ ?_) | (with_reducible refine bind_nat fun _ => ?_) | rfl)
theorem f80.p1_e2_nat {R R' : Type} (j : R → Option R') (L N : Nat) (k0_r : LI → Option R) (rec0 : LLM → LI → Option R) (z6 : LLM) (z7 : LI) (z8 : LI) :
    f80.p1_e2 L N (fun a0 => (k0_r a0).bind j) (fun a0 a1 => (rec0 a0 a1).bind j) z6 z7 z8 = (f80.p1_e2 L N k0_r rec0 z6 z7 z8).bind j := by
  unfold f80.p1_e2
  exact f80.p1_e2'_nat ..
theorem f80.s0'_nat {R R' : Type} (j : R → Option R') (L N : Nat) (k0_r : LI → Option R) (rec0 : LLM → LI → Option R) (w1 : Int → LLM → LI → LI → Option R) (s0 : LLM) (s1 : LI) :
    f80.s0' L N (fun a0 => (k0_r a0).bind j) (fun a0 a1 => (rec0 a0 a1).bind j) (fun a0 a1 a2 a3 => (w1 a0 a1 a2 a3).bind j) s0 s1 = (f80.s0' L N k0_r rec0 w1 s0 s1).bind j := by
  unfold f80.s0'
  repeat' (first | (with_reducible refine cond_nat ?_ ?_) | (with_reducible refine bind_nat fun _ => ?_) | rfl)
theorem f80.s0_nat {R R' : Type} (j : R → Option R') (L N : Nat) (k0_r : LI → Option R) (rec0 : LLM → LI → Option R) (s0 : LLM) (s1 : LI) :
    f80.s0 L N (fun a0 => (k0_r a0).bind j) (fun a0 a1 => (rec0 a0 a1).bind j) s0 s1 = (f80.s0 L N k0_r rec0 s0 s1).bind j := by
  unfold f80.s0
  simp only [f80.l1_nat, f80.p1_e2_nat]
  exact f80.s0'_nat ..
theorem f80.l0_nat {R R' : Type} (j : R → Option R') (L N : Nat) (k0_r : LI → Option R) : ∀ (n : Nat) (s0 : LLM) (s1 : LI),
    f80.l0 L N (fun a0 => (k0_r a0).bind j) n s0 s1 = (f80.l0 L N k0_r n s0 s1).bind j := by
  intro n
  induction n with
  | zero => intros; rfl
  | succ n ih =>
    intro s0 s1
    show f80.s0 L N (fun a0 => (k0_r a0).bind j) (f80.l0 L N (fun a0 => (k0_r a0).bind j) n) s0 s1 = _
    rw [show f80.l0 L N (fun a0 => (k0_r a0).bind j) n = (fun s0 s1 => (f80.l0 L N k0_r n s0 s1).bind j) from funext fun s0 => funext fun s1 => ih s0 s1]
    exact f80.s0_nat ..
theorem f80.p0_r'_nat {R R' : Type} (j : R → Option R') (L N : Nat) (k : LI → Option R) (z37 : LI) :
    f80.p0_r' L N (fun a0 => (k a0).bind j) z37 = (f80.p0_r' L N k z37).bind j := by
  unfold f80.p0_r'
  repeat' (first | (with_reducible refine cond_nat ?_ ?_) | (with_reducible refine bind_nat fun _ => ?_) | rfl)
theorem f80.p0_r_nat {R R' : Type} (j : R → Option R') (L N : Nat) (k : LI → Option R) (z37 : LI) :
    f80.p0_r L N (fun a0 => (k a0).bind j) z37 = (f80.p0_r L N k z37).bind j := by
  unfold f80.p0_r
  exact f80.p0_r'_nat ..
theorem f80.b'_nat {R R' : Type} (j : R → Option R') (L N : Nat) (k : LI → Option R) (w0 : LLM → LI → Option R) (x0 : Graph) :
    f80.b' L N (fun a0 => (k a0).bind j) (fun a0 a1 => (w0 a0 a1).bind j) x0 = (f80.b' L N k w0 x0).bind j := by
  unfold f80.b'
  repeat' (first | (with_reducible refine cond_nat ?_ ?_) | (with_reducible refine bind_nat fun _ => ?_) | rfl)
theorem f80.b_nat {R R' : Type} (j : R → Option R') (L N : Nat) (k : LI → Option R) (x0 : Graph) :
    f80.b L N (fun a0 => (k a0).bind j) x0 = (f80.b L N k x0).bind j := by
  unfold f80.b
  simp only [f80.l0_nat, f80.p0_r_nat]
  exact f80.b'_nat ..
theorem f80.ok (L N : Nat) (hΦ : TellsOk Try.prog ((Φ116 L N))) : EntOk Try.prog 80 (f80.ent L N) := by
  intro args vw site h
  unfold f80.ent
  split
  · rename_i d u ha
    intro y hy hs
    refine call_data (dep := 1000) (E := (E80 L N)) (rs := (.one (.sl i64))) (v' := (.tv (.sl i64) y)) (sound_of hΦ) okP (callI_sound (sound_of hΦ) okP 1 2000) (f := Try.f80) rfl hs ha ?_ site
    refine (f80.b_eq L N some d.1).trans ?_
    refine ((f80.b_nat (fun y => (some (.tv (.sl i64) y) : Option AV)) L N some d.1)).trans ?_
    rw [show f80.b L N some d.1 = some y from hy]
    rfl
  · intro y hy
    cases hy
def Φ80 (L N : Nat) : Tells := (addT (Φ116 L N) 80 (f80.ent L N))
theorem Φ80_ok (L N : Nat) : TellsOk Try.prog (Φ80 L N) := addT_ok (Φ116_ok L N) (f80.ok L N (Φ116_ok L N))
def f40.b' {R : Type} (L N : Nat) (k : LI → Option R) (x0 : Graph) : Option R :=
  (f58 L N (Graph.mk x0.moves)).bind fun y0 =>
  bif (!y0) then
    k ([] : LI)
  else (f80 L N (Graph.mk x0.moves)).bind fun y1 =>
  k y1
def f40.b {R : Type} (L N : Nat) (k : LI → Option R) (x0 : Graph) : Option R :=
  f40.b' L N k x0
def f40 (L N : Nat) (x0 : Graph) : Option (LI) := f40.b L N some x0
def f40.ent (L N : Nat) (args : List AV) (vw : View) (site : Nat) : Ans := match coeD [(.st 2)] vw args with
  | some (d, u) => ⟨LI, f40 L N d.1, fun y => ((.tv (.sl i64) y), u, [])⟩
  | none => Ans.no
noncomputable def E40 (L N : Nat) : Env := { P := Try.prog, ty := tyOf, Φ := (Φ80 L N), inl := inlT, live := lives, liveX := livesX, L := L, dp := none, prom := promT, heal := healT, ren := renT }
theorem f40.b_pre {R : Type} (L N : Nat) (κ : AV → Option R) (x0 : Graph) :
    evBody (E40 L N) (evCallI (E40 L N) 1 2000) 1000 40 Try.f40 [(.tv (.st 2) x0)] [] [] (finC (.one (.sl i64)) κ)
    = f40.b' L N (fun a0 => κ (.tv (.sl i64) a0)) x0 := by kernel_rfl
theorem f40.b_eq {R : Type} (L N : Nat) (κ : AV → Option R) (x0 : Graph) :
    evBody (E40 L N) (evCallI (E40 L N) 1 2000) 1000 40 Try.f40 [(.tv (.st 2) x0)] [] [] (finC (.one (.sl i64)) κ)
    = f40.b L N (fun a0 => κ (.tv (.sl i64) a0)) x0 := by
  rw [f40.b_pre]
  unfold f40.b
  rfl
theorem f40.b'_nat {R R' : Type} (j : R → Option R') (L N : Nat) (k : LI → Option R) (x0 : Graph) :
    f40.b' L N (fun a0 => (k a0).bind j) x0 = (f40.b' L N k x0).bind j := by
  unfold f40.b'
  repeat' (first | (with_reducible refine cond_nat ?_ ?_) | (with_reducible refine bind_nat fun _ => ?_) | rfl)
theorem f40.b_nat {R R' : Type} (j : R → Option R') (L N : Nat) (k : LI → Option R) (x0 : Graph) :
    f40.b L N (fun a0 => (k a0).bind j) x0 = (f40.b L N k x0).bind j := by
  unfold f40.b
  exact f40.b'_nat ..
theorem f40.ok (L N : Nat) (hΦ : TellsOk Try.prog ((Φ80 L N))) : EntOk Try.prog 40 (f40.ent L N) := by
  intro args vw site h
  unfold f40.ent
  split
  · rename_i d u ha
    intro y hy hs
    refine call_data (dep := 1000) (E := (E40 L N)) (rs := (.one (.sl i64))) (v' := (.tv (.sl i64) y)) (sound_of hΦ) okP (callI_sound (sound_of hΦ) okP 1 2000) (f := Try.f40) rfl hs ha ?_ site
    refine (f40.b_eq L N some d.1).trans ?_
    refine ((f40.b_nat (fun y => (some (.tv (.sl i64) y) : Option AV)) L N some d.1)).trans ?_
    rw [show f40.b L N some d.1 = some y from hy]
    rfl
  · intro y hy
    cases hy
def Φ40 (L N : Nat) : Tells := (addT (Φ80 L N) 40 (f40.ent L N))
theorem Φ40_ok (L N : Nat) : TellsOk Try.prog (Φ40 L N) := addT_ok (Φ80_ok L N) (f40.ok L N (Φ80_ok L N))
def f72.b' {R : Type} (L N : Nat) (k : Bool → Option R) (x0 : Int) : Option R :=
  bif (decide (x0 ≥ (-4 : Int))) then
    k (decide (x0 ≤ (4 : Int)))
  else k false
def f72.b {R : Type} (L N : Nat) (k : Bool → Option R) (x0 : Int) : Option R :=
  f72.b' L N k x0
def f72 (L N : Nat) (x0 : Int) : Option (Bool) := f72.b L N some x0
def f72.ent (L N : Nat) (args : List AV) (vw : View) (site : Nat) : Ans := match roD [i64] vw args with
  | some d => ⟨Bool, f72 L N d.1, fun y => ((.tv .bool y), [], [])⟩
  | none => Ans.no
noncomputable def E72 (L N : Nat) : Env := { P := Try.prog, ty := tyOf, Φ := (Φ40 L N), inl := inlT, live := lives, liveX := livesX, L := L, dp := none, prom := promT, heal := healT, ren := renT }
theorem f72.b_pre {R : Type} (L N : Nat) (κ : AV → Option R) (x0 : Int) :
    evBody (E72 L N) (evCallI (E72 L N) 1 2000) 1000 72 Try.f72 [(.tv i64 x0)] [] [] (finC (.one .bool) κ)
    = f72.b' L N (fun a0 => κ (.tv .bool a0)) x0 := by kernel_rfl
theorem f72.b_eq {R : Type} (L N : Nat) (κ : AV → Option R) (x0 : Int) :
    evBody (E72 L N) (evCallI (E72 L N) 1 2000) 1000 72 Try.f72 [(.tv i64 x0)] [] [] (finC (.one .bool) κ)
    = f72.b L N (fun a0 => κ (.tv .bool a0)) x0 := by
  rw [f72.b_pre]
  unfold f72.b
  rfl
theorem f72.b'_nat {R R' : Type} (j : R → Option R') (L N : Nat) (k : Bool → Option R) (x0 : Int) :
    f72.b' L N (fun a0 => (k a0).bind j) x0 = (f72.b' L N k x0).bind j := by
  unfold f72.b'
  repeat' (first | (with_reducible refine cond_nat ?_ ?_) | (with_reducible refine bind_nat fun _ => ?_) | rfl)
theorem f72.b_nat {R R' : Type} (j : R → Option R') (L N : Nat) (k : Bool → Option R) (x0 : Int) :
    f72.b L N (fun a0 => (k a0).bind j) x0 = (f72.b L N k x0).bind j := by
  unfold f72.b
  exact f72.b'_nat ..
theorem f72.ok (L N : Nat) (hΦ : TellsOk Try.prog ((Φ40 L N))) : EntOk Try.prog 72 (f72.ent L N) := by
  intro args vw site h
  unfold f72.ent
  split
  · rename_i d ha
    intro y hy hs
    refine call_ro (dep := 1000) (E := (E72 L N)) (rs := (.one .bool)) (v := (.tv .bool y)) (sound_of hΦ) okP (callI_sound (sound_of hΦ) okP 1 2000) (f := Try.f72) rfl hs ha ?_ rfl site
    refine (f72.b_eq L N some d.1).trans ?_
    refine ((f72.b_nat (fun y => (some (.tv .bool y) : Option AV)) L N some d.1)).trans ?_
    rw [show f72.b L N some d.1 = some y from hy]
    rfl
  · intro y hy
    cases hy
def Φ72 (L N : Nat) : Tells := (addT (Φ40 L N) 72 (f72.ent L N))
theorem Φ72_ok (L N : Nat) : TellsOk Try.prog (Φ72 L N) := addT_ok (Φ40_ok L N) (f72.ok L N (Φ40_ok L N))
def f136.b' {R : Type} (L N : Nat) (k : Bool → Option R) (x0 : Int) : Option R :=
  k (x0 != x0)
def f136.b {R : Type} (L N : Nat) (k : Bool → Option R) (x0 : Int) : Option R :=
  f136.b' L N k x0
def f136 (L N : Nat) (x0 : Int) : Option (Bool) := f136.b L N some x0
def f136.ent (L N : Nat) (args : List AV) (vw : View) (site : Nat) : Ans := match roD [i64] vw args with
  | some d => ⟨Bool, f136 L N d.1, fun y => ((.tv .bool y), [], [])⟩
  | none => Ans.no
noncomputable def E136 (L N : Nat) : Env := { P := Try.prog, ty := tyOf, Φ := (Φ72 L N), inl := inlT, live := lives, liveX := livesX, L := L, dp := none, prom := promT, heal := healT, ren := renT }
theorem f136.b_pre {R : Type} (L N : Nat) (κ : AV → Option R) (x0 : Int) :
    evBody (E136 L N) (evCallI (E136 L N) 1 2000) 1000 136 Try.f136 [(.tv i64 x0)] [] [] (finC (.one .bool) κ)
    = f136.b' L N (fun a0 => κ (.tv .bool a0)) x0 := by kernel_rfl
theorem f136.b_eq {R : Type} (L N : Nat) (κ : AV → Option R) (x0 : Int) :
    evBody (E136 L N) (evCallI (E136 L N) 1 2000) 1000 136 Try.f136 [(.tv i64 x0)] [] [] (finC (.one .bool) κ)
    = f136.b L N (fun a0 => κ (.tv .bool a0)) x0 := by
  rw [f136.b_pre]
  unfold f136.b
  rfl
theorem f136.b'_nat {R R' : Type} (j : R → Option R') (L N : Nat) (k : Bool → Option R) (x0 : Int) :
    f136.b' L N (fun a0 => (k a0).bind j) x0 = (f136.b' L N k x0).bind j := by
  unfold f136.b'
  repeat' (first | (with_reducible refine cond_nat ?_ ?_) | (with_reducible refine bind_nat fun _ => ?_) | rfl)
theorem f136.b_nat {R R' : Type} (j : R → Option R') (L N : Nat) (k : Bool → Option R) (x0 : Int) :
    f136.b L N (fun a0 => (k a0).bind j) x0 = (f136.b L N k x0).bind j := by
  unfold f136.b
  exact f136.b'_nat ..
theorem f136.ok (L N : Nat) (hΦ : TellsOk Try.prog ((Φ72 L N))) : EntOk Try.prog 136 (f136.ent L N) := by
  intro args vw site h
  unfold f136.ent
  split
  · rename_i d ha
    intro y hy hs
    refine call_ro (dep := 1000) (E := (E136 L N)) (rs := (.one .bool)) (v := (.tv .bool y)) (sound_of hΦ) okP (callI_sound (sound_of hΦ) okP 1 2000) (f := Try.f136) rfl hs ha ?_ rfl site
    refine (f136.b_eq L N some d.1).trans ?_
    refine ((f136.b_nat (fun y => (some (.tv .bool y) : Option AV)) L N some d.1)).trans ?_
    rw [show f136.b L N some d.1 = some y from hy]
    rfl
  · intro y hy
    cases hy
def Φ136 (L N : Nat) : Tells := (addT (Φ72 L N) 136 (f136.ent L N))
theorem Φ136_ok (L N : Nat) : TellsOk Try.prog (Φ136 L N) := addT_ok (Φ72_ok L N) (f136.ok L N (Φ72_ok L N))
def f108.b' {R : Type} (L N : Nat) (k : Int → Option R) (x0 : Int) (x1 : Int) : Option R :=
  (f136 L N x0).bind fun y0 =>
  (f136 L N x1).bind fun y1 =>
  bif y0 then
    bif y1 then
      k (0 : Int)
    else k (-1 : Int)
  else bif y1 then
    k (1 : Int)
  else bif (decide (x0 < x1)) then
    k (-1 : Int)
  else bif (decide (x0 > x1)) then
    k (1 : Int)
  else k (0 : Int)
def f108.b {R : Type} (L N : Nat) (k : Int → Option R) (x0 : Int) (x1 : Int) : Option R :=
  f108.b' L N k x0 x1
def f108 (L N : Nat) (x0 : Int) (x1 : Int) : Option (Int) := f108.b L N some x0 x1
def f108.ent (L N : Nat) (args : List AV) (vw : View) (site : Nat) : Ans := match roD [i64, i64] vw args with
  | some d => ⟨Int, f108 L N d.1 d.2.1, fun y => ((.tv i64 y), [], [])⟩
  | none => Ans.no
noncomputable def E108 (L N : Nat) : Env := { P := Try.prog, ty := tyOf, Φ := (Φ136 L N), inl := inlT, live := lives, liveX := livesX, L := L, dp := none, prom := promT, heal := healT, ren := renT }
theorem f108.b_pre {R : Type} (L N : Nat) (κ : AV → Option R) (x0 : Int) (x1 : Int) :
    evBody (E108 L N) (evCallI (E108 L N) 1 2000) 1000 108 Try.f108 [(.tv i64 x0), (.tv i64 x1)] [] [] (finC (.one i64) κ)
    = f108.b' L N (fun a0 => κ (.tv i64 a0)) x0 x1 := by kernel_rfl
theorem f108.b_eq {R : Type} (L N : Nat) (κ : AV → Option R) (x0 : Int) (x1 : Int) :
    evBody (E108 L N) (evCallI (E108 L N) 1 2000) 1000 108 Try.f108 [(.tv i64 x0), (.tv i64 x1)] [] [] (finC (.one i64) κ)
    = f108.b L N (fun a0 => κ (.tv i64 a0)) x0 x1 := by
  rw [f108.b_pre]
  unfold f108.b
  rfl
theorem f108.b'_nat {R R' : Type} (j : R → Option R') (L N : Nat) (k : Int → Option R) (x0 : Int) (x1 : Int) :
    f108.b' L N (fun a0 => (k a0).bind j) x0 x1 = (f108.b' L N k x0 x1).bind j := by
  unfold f108.b'
  repeat' (first | (with_reducible refine cond_nat ?_ ?_) | (with_reducible refine bind_nat fun _ => ?_) | rfl)
theorem f108.b_nat {R R' : Type} (j : R → Option R') (L N : Nat) (k : Int → Option R) (x0 : Int) (x1 : Int) :
    f108.b L N (fun a0 => (k a0).bind j) x0 x1 = (f108.b L N k x0 x1).bind j := by
  unfold f108.b
  exact f108.b'_nat ..
theorem f108.ok (L N : Nat) (hΦ : TellsOk Try.prog ((Φ136 L N))) : EntOk Try.prog 108 (f108.ent L N) := by
  intro args vw site h
  unfold f108.ent
  split
  · rename_i d ha
    intro y hy hs
    refine call_ro (dep := 1000) (E := (E108 L N)) (rs := (.one i64)) (v := (.tv i64 y)) (sound_of hΦ) okP (callI_sound (sound_of hΦ) okP 1 2000) (f := Try.f108) rfl hs ha ?_ rfl site
    refine (f108.b_eq L N some d.1 d.2.1).trans ?_
    refine ((f108.b_nat (fun y => (some (.tv i64 y) : Option AV)) L N some d.1 d.2.1)).trans ?_
    rw [show f108.b L N some d.1 d.2.1 = some y from hy]
    rfl
  · intro y hy
    cases hy
def Φ108 (L N : Nat) : Tells := (addT (Φ136 L N) 108 (f108.ent L N))
theorem Φ108_ok (L N : Nat) : TellsOk Try.prog (Φ108 L N) := addT_ok (Φ136_ok L N) (f108.ok L N (Φ136_ok L N))
def f73.b' {R : Type} (L N : Nat) (k : Int → Option R) (x0 : Move) (x1 : Move) : Option R :=
  (f108 L N x0.act x1.act).bind fun y0 =>
  bif (y0 != (0 : Int)) then
    k y0
  else (f108 L N x0.to x1.to).bind fun y1 =>
  k y1
def f73.b {R : Type} (L N : Nat) (k : Int → Option R) (x0 : Move) (x1 : Move) : Option R :=
  f73.b' L N k x0 x1
def f73 (L N : Nat) (x0 : Move) (x1 : Move) : Option (Int) := f73.b L N some x0 x1
def f73.ent (L N : Nat) (args : List AV) (vw : View) (site : Nat) : Ans := match roD [(.st 0), (.st 0)] vw args with
  | some d => ⟨Int, f73 L N d.1 d.2.1, fun y => ((.tv i64 y), [], [])⟩
  | none => Ans.no
noncomputable def E73 (L N : Nat) : Env := { P := Try.prog, ty := tyOf, Φ := (Φ108 L N), inl := inlT, live := lives, liveX := livesX, L := L, dp := none, prom := promT, heal := healT, ren := renT }
theorem f73.b_pre {R : Type} (L N : Nat) (κ : AV → Option R) (x0 : Move) (x1 : Move) :
    evBody (E73 L N) (evCallI (E73 L N) 1 2000) 1000 73 Try.f73 [(.tv (.st 0) x0), (.tv (.st 0) x1)] [] [] (finC (.one i64) κ)
    = f73.b' L N (fun a0 => κ (.tv i64 a0)) x0 x1 := by kernel_rfl
theorem f73.b_eq {R : Type} (L N : Nat) (κ : AV → Option R) (x0 : Move) (x1 : Move) :
    evBody (E73 L N) (evCallI (E73 L N) 1 2000) 1000 73 Try.f73 [(.tv (.st 0) x0), (.tv (.st 0) x1)] [] [] (finC (.one i64) κ)
    = f73.b L N (fun a0 => κ (.tv i64 a0)) x0 x1 := by
  rw [f73.b_pre]
  unfold f73.b
  rfl
theorem f73.b'_nat {R R' : Type} (j : R → Option R') (L N : Nat) (k : Int → Option R) (x0 : Move) (x1 : Move) :
    f73.b' L N (fun a0 => (k a0).bind j) x0 x1 = (f73.b' L N k x0 x1).bind j := by
  unfold f73.b'
  repeat' (first | (with_reducible refine cond_nat ?_ ?_) | (with_reducible refine bind_nat fun _ => ?_) | rfl)
theorem f73.b_nat {R R' : Type} (j : R → Option R') (L N : Nat) (k : Int → Option R) (x0 : Move) (x1 : Move) :
    f73.b L N (fun a0 => (k a0).bind j) x0 x1 = (f73.b L N k x0 x1).bind j := by
  unfold f73.b
  exact f73.b'_nat ..
theorem f73.ok (L N : Nat) (hΦ : TellsOk Try.prog ((Φ108 L N))) : EntOk Try.prog 73 (f73.ent L N) := by
  intro args vw site h
  unfold f73.ent
  split
  · rename_i d ha
    intro y hy hs
    refine call_ro (dep := 1000) (E := (E73 L N)) (rs := (.one i64)) (v := (.tv i64 y)) (sound_of hΦ) okP (callI_sound (sound_of hΦ) okP 1 2000) (f := Try.f73) rfl hs ha ?_ rfl site
    refine (f73.b_eq L N some d.1 d.2.1).trans ?_
    refine ((f73.b_nat (fun y => (some (.tv i64 y) : Option AV)) L N some d.1 d.2.1)).trans ?_
    rw [show f73.b L N some d.1 d.2.1 = some y from hy]
    rfl
  · intro y hy
    cases hy
def Φ73 (L N : Nat) : Tells := (addT (Φ108 L N) 73 (f73.ent L N))
theorem Φ73_ok (L N : Nat) : TellsOk Try.prog (Φ73 L N) := addT_ok (Φ108_ok L N) (f73.ok L N (Φ108_ok L N))
def f32.s1' {R : Type} (L N : Nat) (k1_e2 : LLM → Int → Int → LLM → Option R) (k1_r : Bool → LLM → Int → Int → LLM → Option R) (rec1 : LM → LLM → Int → Int → LM → Int → Int → LLM → Option R) (s7 : LM) (s8 : LLM) (s9 : Int) (s10 : Int) (s11 : LM) (s12 : Int) (s13 : Int) (s14 : LLM) : Option R :=
  bif (decide (s13 < s12)) then
    bif (decide (0 ≤ s13) && decide (s13 < (s11.length : Int))) then
      (f72 L N ((listAt s11 (Ty.dflt (.st 0)) s13.toNat).act)).bind fun y19 =>
      bif (!y19) then
        k1_r false s8 s9 s10 s14
      else bif (decide ((listAt s11 (Ty.dflt (.st 0)) s13.toNat).to < (0 : Int))) then
        k1_r false s8 s9 s10 s14
      else bif (decide ((listAt s11 (Ty.dflt (.st 0)) s13.toNat).to ≥ (s14.length : Int))) then
        k1_r false s8 s9 s10 s14
      else bif (decide (s13 > (0 : Int))) then
        bif (decide (0 ≤ (wi (s13 - (1 : Int)))) && decide ((wi (s13 - (1 : Int))) < (s7.length : Int))) then
          (f73 L N (listAt s7 (Ty.dflt (.st 0)) (wi (s13 - (1 : Int))).toNat) (Move.mk ((listAt s11 (Ty.dflt (.st 0)) s13.toNat).act) ((listAt s11 (Ty.dflt (.st 0)) s13.toNat).to))).bind fun y20 =>
          bif (decide (y20 ≥ (0 : Int))) then
            k1_r false s8 s9 s10 s14
          else rec1 s7 s8 s9 s10 s11 s12 (wi (s13 + (1 : Int))) s14
        else none
      else rec1 s7 s8 s9 s10 s11 s12 (wi (s13 + (1 : Int))) s14
    else none
  else k1_e2 s8 s9 s10 s14
def f32.s1 {R : Type} (L N : Nat) (k1_e2 : LLM → Int → Int → LLM → Option R) (k1_r : Bool → LLM → Int → Int → LLM → Option R) (rec1 : LM → LLM → Int → Int → LM → Int → Int → LLM → Option R) (s7 : LM) (s8 : LLM) (s9 : Int) (s10 : Int) (s11 : LM) (s12 : Int) (s13 : Int) (s14 : LLM) : Option R :=
  f32.s1' L N k1_e2 k1_r rec1 s7 s8 s9 s10 s11 s12 s13 s14
def f32.l1 {R : Type} (L N : Nat) (k1_e2 : LLM → Int → Int → LLM → Option R) (k1_r : Bool → LLM → Int → Int → LLM → Option R) : Nat → LM → LLM → Int → Int → LM → Int → Int → LLM → Option R
  | 0, _, _, _, _, _, _, _, _ => none
  | n + 1, s7, s8, s9, s10, s11, s12, s13, s14 => f32.s1 L N k1_e2 k1_r (f32.l1 L N k1_e2 k1_r n) s7 s8 s9 s10 s11 s12 s13 s14
def f32.T1 (s7 : LM) (s8 : LLM) (s9 : Int) (s10 : Int) (s11 : LM) (s12 : Int) (s13 : Int) (s14 : LLM) : T := mkT 64 [(1, (.ptr 1001 0)), (4, (.tv (.sl (.st 0)) s7)), (18, (.tv (.sl (.sl (.st 0))) s8)), (19, (.tv i64 s9)), (20, (.tv i64 s10)), (24, (.tv (.sl (.st 0)) s11)), (25, (.tv i64 s12)), (26, (.tv i64 s13))]
def f32.H1 (s7 : LM) (s8 : LLM) (s9 : Int) (s10 : Int) (s11 : LM) (s12 : Int) (s13 : Int) (s14 : LLM) : H := [(1001, (.box [(.tv (.sl (.sl (.st 0))) s14)]))]
def f32.T1_e2 (z15 : LLM) (z16 : Int) (z17 : Int) (z18 : LLM) : T := mkT 64 [(1, (.ptr 1001 0)), (18, (.tv (.sl (.sl (.st 0))) z15)), (19, (.tv i64 z16)), (20, (.tv i64 z17))]
def f32.H1_e2 (z15 : LLM) (z16 : Int) (z17 : Int) (z18 : LLM) : H := [(1001, (.box [(.tv (.sl (.sl (.st 0))) z18)]))]
def f32.T1_r (z30 : Bool) (z31 : LLM) (z32 : Int) (z33 : Int) (z34 : LLM) : T := mkT 64 [(1, (.ptr 1001 0)), (2, (.tv .bool z30)), (18, (.tv (.sl (.sl (.st 0))) z31)), (19, (.tv i64 z32)), (20, (.tv i64 z33))]
def f32.H1_r (z30 : Bool) (z31 : LLM) (z32 : Int) (z33 : Int) (z34 : LLM) : H := [(1001, (.box [(.tv (.sl (.sl (.st 0))) z34)]))]
def f32.p1_e2' {R : Type} (L N : Nat) (k0_e0 : Option R) (k0_r : Bool → Option R) (rec0 : LLM → Int → Int → LLM → Option R) (z15 : LLM) (z16 : Int) (z17 : Int) (z18 : LLM) : Option R :=
  rec0 z15 z16 (wi (z17 + (1 : Int))) z18
def f32.p1_e2 {R : Type} (L N : Nat) (k0_e0 : Option R) (k0_r : Bool → Option R) (rec0 : LLM → Int → Int → LLM → Option R) (z15 : LLM) (z16 : Int) (z17 : Int) (z18 : LLM) : Option R :=
  f32.p1_e2' L N k0_e0 k0_r rec0 z15 z16 z17 z18
def f32.p1_r' {R : Type} (L N : Nat) (k0_e0 : Option R) (k0_r : Bool → Option R) (rec0 : LLM → Int → Int → LLM → Option R) (z30 : Bool) (z31 : LLM) (z32 : Int) (z33 : Int) (z34 : LLM) : Option R :=
  k0_r z30
def f32.p1_r {R : Type} (L N : Nat) (k0_e0 : Option R) (k0_r : Bool → Option R) (rec0 : LLM → Int → Int → LLM → Option R) (z30 : Bool) (z31 : LLM) (z32 : Int) (z33 : Int) (z34 : LLM) : Option R :=
  f32.p1_r' L N k0_e0 k0_r rec0 z30 z31 z32 z33 z34
def f32.s0' {R : Type} (L N : Nat) (k0_e0 : Option R) (k0_r : Bool → Option R) (rec0 : LLM → Int → Int → LLM → Option R) (w1 : LM → LLM → Int → Int → LM → Int → Int → LLM → Option R) (s3 : LLM) (s4 : Int) (s5 : Int) (s6 : LLM) : Option R :=
  bif (decide (s5 < s4)) then
    bif (decide (0 ≤ s5) && decide (s5 < (s3.length : Int))) then
      w1 (listAt s3 [] s5.toNat) s3 s4 s5 (listAt s3 [] s5.toNat) ((listAt s3 [] s5.toNat).length : Int) (0 : Int) s6
    else none
  else k0_e0
def f32.s0 {R : Type} (L N : Nat) (k0_e0 : Option R) (k0_r : Bool → Option R) (rec0 : LLM → Int → Int → LLM → Option R) (s3 : LLM) (s4 : Int) (s5 : Int) (s6 : LLM) : Option R :=
  f32.s0' L N k0_e0 k0_r rec0 (fun s7 s8 s9 s10 s11 s12 s13 s14 => f32.l1 L N (fun z15 z16 z17 z18 => f32.p1_e2 L N k0_e0 k0_r rec0 z15 z16 z17 z18) (fun z30 z31 z32 z33 z34 => f32.p1_r L N k0_e0 k0_r rec0 z30 z31 z32 z33 z34) L s7 s8 s9 s10 s11 s12 s13 s14) s3 s4 s5 s6
def f32.l0 {R : Type} (L N : Nat) (k0_e0 : Option R) (k0_r : Bool → Option R) : Nat → LLM → Int → Int → LLM → Option R
  | 0, _, _, _, _ => none
  | n + 1, s3, s4, s5, s6 => f32.s0 L N k0_e0 k0_r (f32.l0 L N k0_e0 k0_r n) s3 s4 s5 s6
def f32.T0 (s3 : LLM) (s4 : Int) (s5 : Int) (s6 : LLM) : T := mkT 64 [(1, (.ptr 1001 0)), (18, (.tv (.sl (.sl (.st 0))) s3)), (19, (.tv i64 s4)), (20, (.tv i64 s5))]
def f32.H0 (s3 : LLM) (s4 : Int) (s5 : Int) (s6 : LLM) : H := [(1001, (.box [(.tv (.sl (.sl (.st 0))) s6)]))]
def f32.T0_e0 : T := mkT 64 []
def f32.H0_e0 : H := []
def f32.T0_r (z43 : Bool) : T := mkT 64 [(2, (.tv .bool z43))]
def f32.H0_r (z43 : Bool) : H := []
def f32.p0_e0' {R : Type} (L N : Nat) (k : Bool → Option R) : Option R :=
  k true
def f32.p0_e0 {R : Type} (L N : Nat) (k : Bool → Option R) : Option R :=
  f32.p0_e0' L N k
def f32.p0_r' {R : Type} (L N : Nat) (k : Bool → Option R) (z43 : Bool) : Option R :=
  k z43
def f32.p0_r {R : Type} (L N : Nat) (k : Bool → Option R) (z43 : Bool) : Option R :=
  f32.p0_r' L N k z43
def f32.j0' {R : Type} (L N : Nat) (k : Bool → Option R) (w0 : LLM → Int → Int → LLM → Option R) (v2 : LLM) : Option R :=
  w0 v2 (v2.length : Int) (0 : Int) v2
def f32.b' {R : Type} (L N : Nat) (k : Bool → Option R) (w0 : LLM → Int → Int → LLM → Option R) (x0 : Graph) : Option R :=
  bif (decide ((x0.moves.length : Int) < (1 : Int))) then
    k false
  else bif (decide ((x0.moves.length : Int) > (60 : Int))) then
    k false
  else f32.j0' L N k w0 x0.moves
def f32.b {R : Type} (L N : Nat) (k : Bool → Option R) (x0 : Graph) : Option R :=
  f32.b' L N k (fun s3 s4 s5 s6 => f32.l0 L N (f32.p0_e0 L N k) (fun z43 => f32.p0_r L N k z43) L s3 s4 s5 s6) x0
def f32 (L N : Nat) (x0 : Graph) : Option (Bool) := f32.b L N some x0
def f32.ent (L N : Nat) (args : List AV) (vw : View) (site : Nat) : Ans := match roD [(.st 2)] vw args with
  | some d => ⟨Bool, f32 L N d.1, fun y => ((.tv .bool y), [], [])⟩
  | none => Ans.no
noncomputable def E32 (L N : Nat) : Env := { P := Try.prog, ty := tyOf, Φ := (Φ73 L N), inl := inlT, live := lives, liveX := livesX, L := L, dp := none, prom := promT, heal := healT, ren := renT }
noncomputable def f32.c0 : Code := loopAt 0 (codeOf Try.f32)
noncomputable def f32.c1 : Code := loopAt 2 f32.c0
theorem f32.s1_pre {R : Type} (L N : Nat) (κ : Ex → T → H → Option R) (rec : T → H → Option R) (s7 : LM) (s8 : LLM) (s9 : Int) (s10 : Int) (s11 : LM) (s12 : Int) (s13 : Int) (s14 : LLM) :
    evRd (E32 L N) (evCallI (E32 L N) 1 2000) 1000 32 64 2 f32.c1 κ rec (f32.T1 s7 s8 s9 s10 s11 s12 s13 s14) (f32.H1 s7 s8 s9 s10 s11 s12 s13 s14)
    = f32.s1' L N (fun z15 z16 z17 z18 => κ (.exit 2) (f32.T1_e2 z15 z16 z17 z18) (f32.H1_e2 z15 z16 z17 z18)) (fun z30 z31 z32 z33 z34 => κ .ret (f32.T1_r z30 z31 z32 z33 z34) (f32.H1_r z30 z31 z32 z33 z34)) (fun s7 s8 s9 s10 s11 s12 s13 s14 => rec (f32.T1 s7 s8 s9 s10 s11 s12 s13 s14) (f32.H1 s7 s8 s9 s10 s11 s12 s13 s14)) s7 s8 s9 s10 s11 s12 s13 s14 := by kernel_rfl
theorem f32.s1_eq {R : Type} (L N : Nat) (κ : Ex → T → H → Option R) (rec : T → H → Option R) (s7 : LM) (s8 : LLM) (s9 : Int) (s10 : Int) (s11 : LM) (s12 : Int) (s13 : Int) (s14 : LLM) :
    evRd (E32 L N) (evCallI (E32 L N) 1 2000) 1000 32 64 2 f32.c1 κ rec (f32.T1 s7 s8 s9 s10 s11 s12 s13 s14) (f32.H1 s7 s8 s9 s10 s11 s12 s13 s14)
    = f32.s1 L N (fun z15 z16 z17 z18 => κ (.exit 2) (f32.T1_e2 z15 z16 z17 z18) (f32.H1_e2 z15 z16 z17 z18)) (fun z30 z31 z32 z33 z34 => κ .ret (f32.T1_r z30 z31 z32 z33 z34) (f32.H1_r z30 z31 z32 z33 z34)) (fun s7 s8 s9 s10 s11 s12 s13 s14 => rec (f32.T1 s7 s8 s9 s10 s11 s12 s13 s14) (f32.H1 s7 s8 s9 s10 s11 s12 s13 s14)) s7 s8 s9 s10 s11 s12 s13 s14 := by
  rw [f32.s1_pre]
  unfold f32.s1
  rfl
theorem f32.l1_eq {R : Type} (L N : Nat) (κ : Ex → T → H → Option R) : ∀ (n : Nat) (s7 : LM) (s8 : LLM) (s9 : Int) (s10 : Int) (s11 : LM) (s12 : Int) (s13 : Int) (s14 : LLM),
    evLp (E32 L N) (evCallI (E32 L N) 1 2000) 1000 32 64 2 f32.c1 κ n (f32.T1 s7 s8 s9 s10 s11 s12 s13 s14) (f32.H1 s7 s8 s9 s10 s11 s12 s13 s14)
    = f32.l1 L N (fun z15 z16 z17 z18 => κ (.exit 2) (f32.T1_e2 z15 z16 z17 z18) (f32.H1_e2 z15 z16 z17 z18)) (fun z30 z31 z32 z33 z34 => κ .ret (f32.T1_r z30 z31 z32 z33 z34) (f32.H1_r z30 z31 z32 z33 z34)) n s7 s8 s9 s10 s11 s12 s13 s14 := by
  intro n
  induction n with
  | zero => intros; rfl
  | succ n ih =>
    intro s7 s8 s9 s10 s11 s12 s13 s14
    rw [evLp_succ, f32.s1_eq]
    simp only [ih]
    rfl
theorem f32.p1_e2_pre {R : Type} (L N : Nat) (κ : Ex → T → H → Option R) (rec : T → H → Option R) (z15 : LLM) (z16 : Int) (z17 : Int) (z18 : LLM) :
    (contAt (E32 L N) (evCallI (E32 L N) 1 2000) 1000 32 64 2 f32.c0 (stepK (outK (keepT 64 ((E32 L N).liveX 32 0).1) (keepH 1000 ((E32 L N).liveX 32 0).2) κ) fun t h => rec (backK 1000 64 ((E32 L N).live 32 0).1 ((E32 L N).live 32 0).2 ((E32 L N).heal 32 0) ((E32 L N).ren 32 0) t h).1 (backK 1000 64 ((E32 L N).live 32 0).1 ((E32 L N).live 32 0).2 ((E32 L N).heal 32 0) ((E32 L N).ren 32 0) t h).2)) (.exit 2) (f32.T1_e2 z15 z16 z17 z18) (f32.H1_e2 z15 z16 z17 z18)
    = f32.p1_e2' L N (κ (.exit 0) f32.T0_e0 f32.H0_e0) (fun z43 => κ .ret (f32.T0_r z43) (f32.H0_r z43)) (fun s3 s4 s5 s6 => rec (f32.T0 s3 s4 s5 s6) (f32.H0 s3 s4 s5 s6)) z15 z16 z17 z18 := by kernel_rfl
theorem f32.p1_e2_eq {R : Type} (L N : Nat) (κ : Ex → T → H → Option R) (rec : T → H → Option R) (z15 : LLM) (z16 : Int) (z17 : Int) (z18 : LLM) :
    (contAt (E32 L N) (evCallI (E32 L N) 1 2000) 1000 32 64 2 f32.c0 (stepK (outK (keepT 64 ((E32 L N).liveX 32 0).1) (keepH 1000 ((E32 L N).liveX 32 0).2) κ) fun t h => rec (backK 1000 64 ((E32 L N).live 32 0).1 ((E32 L N).live 32 0).2 ((E32 L N).heal 32 0) ((E32 L N).ren 32 0) t h).1 (backK 1000 64 ((E32 L N).live 32 0).1 ((E32 L N).live 32 0).2 ((E32 L N).heal 32 0) ((E32 L N).ren 32 0) t h).2)) (.exit 2) (f32.T1_e2 z15 z16 z17 z18) (f32.H1_e2 z15 z16 z17 z18)
    = f32.p1_e2 L N (κ (.exit 0) f32.T0_e0 f32.H0_e0) (fun z43 => κ .ret (f32.T0_r z43) (f32.H0_r z43)) (fun s3 s4 s5 s6 => rec (f32.T0 s3 s4 s5 s6) (f32.H0 s3 s4 s5 s6)) z15 z16 z17 z18 := by
  rw [f32.p1_e2_pre]
  unfold f32.p1_e2
  rfl
theorem f32.p1_r_pre {R : Type} (L N : Nat) (κ : Ex → T → H → Option R) (rec : T → H → Option R) (z30 : Bool) (z31 : LLM) (z32 : Int) (z33 : Int) (z34 : LLM) :
    (contAt (E32 L N) (evCallI (E32 L N) 1 2000) 1000 32 64 2 f32.c0 (stepK (outK (keepT 64 ((E32 L N).liveX 32 0).1) (keepH 1000 ((E32 L N).liveX 32 0).2) κ) fun t h => rec (backK 1000 64 ((E32 L N).live 32 0).1 ((E32 L N).live 32 0).2 ((E32 L N).heal 32 0) ((E32 L N).ren 32 0) t h).1 (backK 1000 64 ((E32 L N).live 32 0).1 ((E32 L N).live 32 0).2 ((E32 L N).heal 32 0) ((E32 L N).ren 32 0) t h).2)) .ret (f32.T1_r z30 z31 z32 z33 z34) (f32.H1_r z30 z31 z32 z33 z34)
    = f32.p1_r' L N (κ (.exit 0) f32.T0_e0 f32.H0_e0) (fun z43 => κ .ret (f32.T0_r z43) (f32.H0_r z43)) (fun s3 s4 s5 s6 => rec (f32.T0 s3 s4 s5 s6) (f32.H0 s3 s4 s5 s6)) z30 z31 z32 z33 z34 := by kernel_rfl
theorem f32.p1_r_eq {R : Type} (L N : Nat) (κ : Ex → T → H → Option R) (rec : T → H → Option R) (z30 : Bool) (z31 : LLM) (z32 : Int) (z33 : Int) (z34 : LLM) :
    (contAt (E32 L N) (evCallI (E32 L N) 1 2000) 1000 32 64 2 f32.c0 (stepK (outK (keepT 64 ((E32 L N).liveX 32 0).1) (keepH 1000 ((E32 L N).liveX 32 0).2) κ) fun t h => rec (backK 1000 64 ((E32 L N).live 32 0).1 ((E32 L N).live 32 0).2 ((E32 L N).heal 32 0) ((E32 L N).ren 32 0) t h).1 (backK 1000 64 ((E32 L N).live 32 0).1 ((E32 L N).live 32 0).2 ((E32 L N).heal 32 0) ((E32 L N).ren 32 0) t h).2)) .ret (f32.T1_r z30 z31 z32 z33 z34) (f32.H1_r z30 z31 z32 z33 z34)
    = f32.p1_r L N (κ (.exit 0) f32.T0_e0 f32.H0_e0) (fun z43 => κ .ret (f32.T0_r z43) (f32.H0_r z43)) (fun s3 s4 s5 s6 => rec (f32.T0 s3 s4 s5 s6) (f32.H0 s3 s4 s5 s6)) z30 z31 z32 z33 z34 := by
  rw [f32.p1_r_pre]
  unfold f32.p1_r
  rfl
theorem f32.s0_pre {R : Type} (L N : Nat) (κ : Ex → T → H → Option R) (rec : T → H → Option R) (s3 : LLM) (s4 : Int) (s5 : Int) (s6 : LLM) :
    evRd (E32 L N) (evCallI (E32 L N) 1 2000) 1000 32 64 0 f32.c0 κ rec (f32.T0 s3 s4 s5 s6) (f32.H0 s3 s4 s5 s6)
    = f32.s0' L N (κ (.exit 0) f32.T0_e0 f32.H0_e0) (fun z43 => κ .ret (f32.T0_r z43) (f32.H0_r z43)) (fun s3 s4 s5 s6 => rec (f32.T0 s3 s4 s5 s6) (f32.H0 s3 s4 s5 s6)) (fun s7 s8 s9 s10 s11 s12 s13 s14 => evLp (E32 L N) (evCallI (E32 L N) 1 2000) 1000 32 64 2 f32.c1 (contAt (E32 L N) (evCallI (E32 L N) 1 2000) 1000 32 64 2 f32.c0 (stepK (outK (keepT 64 ((E32 L N).liveX 32 0).1) (keepH 1000 ((E32 L N).liveX 32 0).2) κ) fun t h => rec (backK 1000 64 ((E32 L N).live 32 0).1 ((E32 L N).live 32 0).2 ((E32 L N).heal 32 0) ((E32 L N).ren 32 0) t h).1 (backK 1000 64 ((E32 L N).live 32 0).1 ((E32 L N).live 32 0).2 ((E32 L N).heal 32 0) ((E32 L N).ren 32 0) t h).2)) L (f32.T1 s7 s8 s9 s10 s11 s12 s13 s14) (f32.H1 s7 s8 s9 s10 s11 s12 s13 s14)) s3 s4 s5 s6 := by kernel_rfl
theorem f32.s0_eq {R : Type} (L N : Nat) (κ : Ex → T → H → Option R) (rec : T → H → Option R) (s3 : LLM) (s4 : Int) (s5 : Int) (s6 : LLM) :
    evRd (E32 L N) (evCallI (E32 L N) 1 2000) 1000 32 64 0 f32.c0 κ rec (f32.T0 s3 s4 s5 s6) (f32.H0 s3 s4 s5 s6)
    = f32.s0 L N (κ (.exit 0) f32.T0_e0 f32.H0_e0) (fun z43 => κ .ret (f32.T0_r z43) (f32.H0_r z43)) (fun s3 s4 s5 s6 => rec (f32.T0 s3 s4 s5 s6) (f32.H0 s3 s4 s5 s6)) s3 s4 s5 s6 := by
  rw [f32.s0_pre]
  unfold f32.s0
  simp only [f32.l1_eq, f32.p1_e2_eq, f32.p1_r_eq]
theorem f32.l0_eq {R : Type} (L N : Nat) (κ : Ex → T → H → Option R) : ∀ (n : Nat) (s3 : LLM) (s4 : Int) (s5 : Int) (s6 : LLM),
    evLp (E32 L N) (evCallI (E32 L N) 1 2000) 1000 32 64 0 f32.c0 κ n (f32.T0 s3 s4 s5 s6) (f32.H0 s3 s4 s5 s6)
    = f32.l0 L N (κ (.exit 0) f32.T0_e0 f32.H0_e0) (fun z43 => κ .ret (f32.T0_r z43) (f32.H0_r z43)) n s3 s4 s5 s6 := by
  intro n
  induction n with
  | zero => intros; rfl
  | succ n ih =>
    intro s3 s4 s5 s6
    rw [evLp_succ, f32.s0_eq]
    simp only [ih]
    rfl
theorem f32.p0_e0_pre {R : Type} (L N : Nat) (κ : AV → Option R) :
    (contAt (E32 L N) (evCallI (E32 L N) 1 2000) 1000 32 64 0 (codeOf Try.f32) (finK (E32 L N) 1000 Try.f32 (finC (.one .bool) κ))) (.exit 0) f32.T0_e0 f32.H0_e0
    = f32.p0_e0' L N (fun a0 => κ (.tv .bool a0)) := by kernel_rfl
theorem f32.p0_e0_eq {R : Type} (L N : Nat) (κ : AV → Option R) :
    (contAt (E32 L N) (evCallI (E32 L N) 1 2000) 1000 32 64 0 (codeOf Try.f32) (finK (E32 L N) 1000 Try.f32 (finC (.one .bool) κ))) (.exit 0) f32.T0_e0 f32.H0_e0
    = f32.p0_e0 L N (fun a0 => κ (.tv .bool a0)) := by
  rw [f32.p0_e0_pre]
  unfold f32.p0_e0
  rfl
theorem f32.p0_r_pre {R : Type} (L N : Nat) (κ : AV → Option R) (z43 : Bool) :
    (contAt (E32 L N) (evCallI (E32 L N) 1 2000) 1000 32 64 0 (codeOf Try.f32) (finK (E32 L N) 1000 Try.f32 (finC (.one .bool) κ))) .ret (f32.T0_r z43) (f32.H0_r z43)
    = f32.p0_r' L N (fun a0 => κ (.tv .bool a0)) z43 := by kernel_rfl
theorem f32.p0_r_eq {R : Type} (L N : Nat) (κ : AV → Option R) (z43 : Bool) :
    (contAt (E32 L N) (evCallI (E32 L N) 1 2000) 1000 32 64 0 (codeOf Try.f32) (finK (E32 L N) 1000 Try.f32 (finC (.one .bool) κ))) .ret (f32.T0_r z43) (f32.H0_r z43)
    = f32.p0_r L N (fun a0 => κ (.tv .bool a0)) z43 := by
  rw [f32.p0_r_pre]
  unfold f32.p0_r
  rfl
theorem f32.b_pre {R : Type} (L N : Nat) (κ : AV → Option R) (x0 : Graph) :
    evBody (E32 L N) (evCallI (E32 L N) 1 2000) 1000 32 Try.f32 [(.tv (.st 2) x0)] [] [] (finC (.one .bool) κ)
    = f32.b' L N (fun a0 => κ (.tv .bool a0)) (fun s3 s4 s5 s6 => evLp (E32 L N) (evCallI (E32 L N) 1 2000) 1000 32 64 0 f32.c0 (contAt (E32 L N) (evCallI (E32 L N) 1 2000) 1000 32 64 0 (codeOf Try.f32) (finK (E32 L N) 1000 Try.f32 (finC (.one .bool) κ))) L (f32.T0 s3 s4 s5 s6) (f32.H0 s3 s4 s5 s6)) x0 := by kernel_rfl
theorem f32.b_eq {R : Type} (L N : Nat) (κ : AV → Option R) (x0 : Graph) :
    evBody (E32 L N) (evCallI (E32 L N) 1 2000) 1000 32 Try.f32 [(.tv (.st 2) x0)] [] [] (finC (.one .bool) κ)
    = f32.b L N (fun a0 => κ (.tv .bool a0)) x0 := by
  rw [f32.b_pre]
  unfold f32.b
  simp only [f32.l0_eq, f32.p0_e0_eq, f32.p0_r_eq]
theorem f32.s1'_nat {R R' : Type} (j : R → Option R') (L N : Nat) (k1_e2 : LLM → Int → Int → LLM → Option R) (k1_r : Bool → LLM → Int → Int → LLM → Option R) (rec1 : LM → LLM → Int → Int → LM → Int → Int → LLM → Option R) (s7 : LM) (s8 : LLM) (s9 : Int) (s10 : Int) (s11 : LM) (s12 : Int) (s13 : Int) (s14 : LLM) :
    f32.s1' L N (fun a0 a1 a2 a3 => (k1_e2 a0 a1 a2 a3).bind j) (fun a0 a1 a2 a3 a4 => (k1_r a0 a1 a2 a3 a4).bind j) (fun a0 a1 a2 a3 a4 a5 a6 a7 => (rec1 a0 a1 a2 a3 a4 a5 a6 a7).bind j) s7 s8 s9 s10 s11 s12 s13 s14 = (f32.s1' L N k1_e2 k1_r rec1 s7 s8 s9 s10 s11 s12 s13 s14).bind j := by
  unfold f32.s1'
  repeat' (first | (with_reducible refine cond_nat ?_ ?_) | (with_reducible refine bind_nat fun _ => ?_) | rfl)
theorem f32.s1_nat {R R' : Type} (j : R → Option R') (L N : Nat) (k1_e2 : LLM → Int → Int → LLM → Option R) (k1_r : Bool → LLM → Int → Int → LLM → Option R) (rec1 : LM → LLM → Int → Int → LM → Int → Int → LLM → Option R) (s7 : LM) (s8 : LLM) (s9 : Int) (s10 : Int) (s11 : LM) (s12 : Int) (s13 : Int) (s14 : LLM) :
    f32.s1 L N (fun a0 a1 a2 a3 => (k1_e2 a0 a1 a2 a3).bind j) (fun a0 a1 a2 a3 a4 => (k1_r a0 a1 a2 a3 a4).bind j) (fun a0 a1 a2 a3 a4 a5 a6 a7 => (rec1 a0 a1 a2 a3 a4 a5 a6 a7).bind j) s7 s8 s9 s10 s11 s12 s13 s14 = (f32.s1 L N k1_e2 k1_r rec1 s7 s8 s9 s10 s11 s12 s13 s14).bind j := by
  unfold f32.s1
  exact f32.s1'_nat ..
theorem f32.l1_nat {R R' : Type} (j : R → Option R') (L N : Nat) (k1_e2 : LLM → Int → Int → LLM → Option R) (k1_r : Bool → LLM → Int → Int → LLM → Option R) : ∀ (n : Nat) (s7 : LM) (s8 : LLM) (s9 : Int) (s10 : Int) (s11 : LM) (s12 : Int) (s13 : Int) (s14 : LLM),
    f32.l1 L N (fun a0 a1 a2 a3 => (k1_e2 a0 a1 a2 a3).bind j) (fun a0 a1 a2 a3 a4 => (k1_r a0 a1 a2 a3 a4).bind j) n s7 s8 s9 s10 s11 s12 s13 s14 = (f32.l1 L N k1_e2 k1_r n s7 s8 s9 s10 s11 s12 s13 s14).bind j := by
  intro n
  induction n with
  | zero => intros; rfl
  | succ n ih =>
    intro s7 s8 s9 s10 s11 s12 s13 s14
    show f32.s1 L N (fun a0 a1 a2 a3 => (k1_e2 a0 a1 a2 a3).bind j) (fun a0 a1 a2 a3 a4 => (k1_r a0 a1 a2 a3 a4).bind j) (f32.l1 L N (fun a0 a1 a2 a3 => (k1_e2 a0 a1 a2 a3).bind j) (fun a0 a1 a2 a3 a4 => (k1_r a0 a1 a2 a3 a4).bind j) n) s7 s8 s9 s10 s11 s12 s13 s14 = _
    rw [show f32.l1 L N (fun a0 a1 a2 a3 => (k1_e2 a0 a1 a2 a3).bind j) (fun a0 a1 a2 a3 a4 => (k1_r a0 a1 a2 a3 a4).bind j) n = (fun s7 s8 s9 s10 s11 s12 s13 s14 => (f32.l1 L N k1_e2 k1_r n s7 s8 s9 s10 s11 s12 s13 s14).bind j) from funext fun s7 => funext fun s8 => funext fun s9 => funext fun s10 => funext fun s11 => funext fun s12 => funext fun s13 => funext fun s14 => ih s7 s8 s9 s10 s11 s12 s13 s14]
    exact f32.s1_nat ..
theorem f32.p1_e2'_nat {R R' : Type} (j : R → Option R') (L N : Nat) (k0_e0 : Option R) (k0_r : Bool → Option R) (rec0 : LLM → Int → Int → LLM → Option R) (z15 : LLM) (z16 : Int) (z17 : Int) (z18 : LLM) :
    f32.p1_e2' L N (k0_e0.bind j) (fun a0 => (k0_r a0).bind j) (fun a0 a1 a2 a3 => (rec0 a0 a1 a2 a3).bind j) z15 z16 z17 z18 = (f32.p1_e2' L N k0_e0 k0_r rec0 z15 z16 z17 z18).bind j := by
  unfold f32.p1_e2'
  repeat' (first | (with_reducible refine cond_nat ?_ ?_) | (with_reducible refine bind_nat fun _ => ?_) | rfl)
theorem f32.p1_e2_nat {R R' : Type} (j : R → Option R') (L N : Nat) (k0_e0 : Option R) (k0_r : Bool → Option R) (rec0 : LLM → Int → Int → LLM → Option R) (z15 : LLM) (z16 : Int) (z17 : Int) (z18 : LLM) :
    f32.p1_e2 L N (k0_e0.bind j) (fun a0 => (k0_r a0).bind j) (fun a0 a1 a2 a3 => (rec0 a0 a1 a2 a3).bind j) z15 z16 z17 z18 = (f32.p1_e2 L N k0_e0 k0_r rec0 z15 z16 z17 z18).bind j := by
  unfold f32.p1_e2
  exact f32.p1_e2'_nat ..
theorem f32.p1_r'_nat {R R' : Type} (j : R → Option R') (L N : Nat) (k0_e0 : Option R) (k0_r : Bool → Option R) (rec0 : LLM → Int → Int → LLM → Option R) (z30 : Bool) (z31 : LLM) (z32 : Int) (z33 : Int) (z34 : LLM) :
    f32.p1_r' L N (k0_e0.bind j) (fun a0 => (k0_r a0).bind j) (fun a0 a1 a2 a3 => (rec0 a0 a1 a2 a3).bind j) z30 z31 z32 z33 z34 = (f32.p1_r' L N k0_e0 k0_r rec0 z30 z31 z32 z33 z34).bind j := by
  unfold f32.p1_r'
  repeat' (first | (with_reducible refine cond_nat ?_ ?_) | (with_reducible refine bind_nat fun _ => ?_) | rfl)
theorem f32.p1_r_nat {R R' : Type} (j : R → Option R') (L N : Nat) (k0_e0 : Option R) (k0_r : Bool → Option R) (rec0 : LLM → Int → Int → LLM → Option R) (z30 : Bool) (z31 : LLM) (z32 : Int) (z33 : Int) (z34 : LLM) :
    f32.p1_r L N (k0_e0.bind j) (fun a0 => (k0_r a0).bind j) (fun a0 a1 a2 a3 => (rec0 a0 a1 a2 a3).bind j) z30 z31 z32 z33 z34 = (f32.p1_r L N k0_e0 k0_r rec0 z30 z31 z32 z33 z34).bind j := by
  unfold f32.p1_r
  exact f32.p1_r'_nat ..
theorem f32.s0'_nat {R R' : Type} (j : R → Option R') (L N : Nat) (k0_e0 : Option R) (k0_r : Bool → Option R) (rec0 : LLM → Int → Int → LLM → Option R) (w1 : LM → LLM → Int → Int → LM → Int → Int → LLM → Option R) (s3 : LLM) (s4 : Int) (s5 : Int) (s6 : LLM) :
    f32.s0' L N (k0_e0.bind j) (fun a0 => (k0_r a0).bind j) (fun a0 a1 a2 a3 => (rec0 a0 a1 a2 a3).bind j) (fun a0 a1 a2 a3 a4 a5 a6 a7 => (w1 a0 a1 a2 a3 a4 a5 a6 a7).bind j) s3 s4 s5 s6 = (f32.s0' L N k0_e0 k0_r rec0 w1 s3 s4 s5 s6).bind j := by
  unfold f32.s0'
  repeat' (first | (with_reducible refine cond_nat ?_ ?_) | (with_reducible refine bind_nat fun _ => ?_) | rfl)
theorem f32.s0_nat {R R' : Type} (j : R → Option R') (L N : Nat) (k0_e0 : Option R) (k0_r : Bool → Option R) (rec0 : LLM → Int → Int → LLM → Option R) (s3 : LLM) (s4 : Int) (s5 : Int) (s6 : LLM) :
    f32.s0 L N (k0_e0.bind j) (fun a0 => (k0_r a0).bind j) (fun a0 a1 a2 a3 => (rec0 a0 a1 a2 a3).bind j) s3 s4 s5 s6 = (f32.s0 L N k0_e0 k0_r rec0 s3 s4 s5 s6).bind j := by
  unfold f32.s0
  simp only [f32.l1_nat, f32.p1_e2_nat, f32.p1_r_nat]
  exact f32.s0'_nat ..
theorem f32.l0_nat {R R' : Type} (j : R → Option R') (L N : Nat) (k0_e0 : Option R) (k0_r : Bool → Option R) : ∀ (n : Nat) (s3 : LLM) (s4 : Int) (s5 : Int) (s6 : LLM),
    f32.l0 L N (k0_e0.bind j) (fun a0 => (k0_r a0).bind j) n s3 s4 s5 s6 = (f32.l0 L N k0_e0 k0_r n s3 s4 s5 s6).bind j := by
  intro n
  induction n with
  | zero => intros; rfl
  | succ n ih =>
    intro s3 s4 s5 s6
    show f32.s0 L N (k0_e0.bind j) (fun a0 => (k0_r a0).bind j) (f32.l0 L N (k0_e0.bind j) (fun a0 => (k0_r a0).bind j) n) s3 s4 s5 s6 = _
    rw [show f32.l0 L N (k0_e0.bind j) (fun a0 => (k0_r a0).bind j) n = (fun s3 s4 s5 s6 => (f32.l0 L N k0_e0 k0_r n s3 s4 s5 s6).bind j) from funext fun s3 => funext fun s4 => funext fun s5 => funext fun s6 => ih s3 s4 s5 s6]
    exact f32.s0_nat ..
theorem f32.p0_e0'_nat {R R' : Type} (j : R → Option R') (L N : Nat) (k : Bool → Option R) :
    f32.p0_e0' L N (fun a0 => (k a0).bind j) = (f32.p0_e0' L N k).bind j := by
  unfold f32.p0_e0'
  repeat' (first | (with_reducible refine cond_nat ?_ ?_) | (with_reducible refine bind_nat fun _ => ?_) | rfl)
theorem f32.p0_e0_nat {R R' : Type} (j : R → Option R') (L N : Nat) (k : Bool → Option R) :
    f32.p0_e0 L N (fun a0 => (k a0).bind j) = (f32.p0_e0 L N k).bind j := by
  unfold f32.p0_e0
  exact f32.p0_e0'_nat ..
theorem f32.p0_r'_nat {R R' : Type} (j : R → Option R') (L N : Nat) (k : Bool → Option R) (z43 : Bool) :
    f32.p0_r' L N (fun a0 => (k a0).bind j) z43 = (f32.p0_r' L N k z43).bind j := by
  unfold f32.p0_r'
  repeat' (first | (with_reducible refine cond_nat ?_ ?_) | (with_reducible refine bind_nat fun _ => ?_) | rfl)
theorem f32.p0_r_nat {R R' : Type} (j : R → Option R') (L N : Nat) (k : Bool → Option R) (z43 : Bool) :
    f32.p0_r L N (fun a0 => (k a0).bind j) z43 = (f32.p0_r L N k z43).bind j := by
  unfold f32.p0_r
  exact f32.p0_r'_nat ..
theorem f32.j0'_nat {R R' : Type} (j : R → Option R') (L N : Nat) (k : Bool → Option R) (w0 : LLM → Int → Int → LLM → Option R) (v2 : LLM) :
    f32.j0' L N (fun a0 => (k a0).bind j) (fun a0 a1 a2 a3 => (w0 a0 a1 a2 a3).bind j) v2 = (f32.j0' L N k w0 v2).bind j := by
  unfold f32.j0'
  repeat' (first | (with_reducible refine cond_nat ?_ ?_) | (with_reducible refine bind_nat fun _ => ?_) | rfl)
theorem f32.b'_nat {R R' : Type} (j : R → Option R') (L N : Nat) (k : Bool → Option R) (w0 : LLM → Int → Int → LLM → Option R) (x0 : Graph) :
    f32.b' L N (fun a0 => (k a0).bind j) (fun a0 a1 a2 a3 => (w0 a0 a1 a2 a3).bind j) x0 = (f32.b' L N k w0 x0).bind j := by
  unfold f32.b'
  repeat' (first | (with_reducible refine cond_nat ?_ ?_) | (with_reducible refine bind_nat fun _ => ?_) | exact f32.j0'_nat .. | rfl)
theorem f32.b_nat {R R' : Type} (j : R → Option R') (L N : Nat) (k : Bool → Option R) (x0 : Graph) :
    f32.b L N (fun a0 => (k a0).bind j) x0 = (f32.b L N k x0).bind j := by
  unfold f32.b
  simp only [f32.l0_nat, f32.p0_e0_nat, f32.p0_r_nat]
  exact f32.b'_nat ..
theorem f32.ok (L N : Nat) (hΦ : TellsOk Try.prog ((Φ73 L N))) : EntOk Try.prog 32 (f32.ent L N) := by
  intro args vw site h
  unfold f32.ent
  split
  · rename_i d ha
    intro y hy hs
    refine call_ro (dep := 1000) (E := (E32 L N)) (rs := (.one .bool)) (v := (.tv .bool y)) (sound_of hΦ) okP (callI_sound (sound_of hΦ) okP 1 2000) (f := Try.f32) rfl hs ha ?_ rfl site
    refine (f32.b_eq L N some d.1).trans ?_
    refine ((f32.b_nat (fun y => (some (.tv .bool y) : Option AV)) L N some d.1)).trans ?_
    rw [show f32.b L N some d.1 = some y from hy]
    rfl
  · intro y hy
    cases hy
def Φ32 (L N : Nat) : Tells := (addT (Φ73 L N) 32 (f32.ent L N))
theorem Φ32_ok (L N : Nat) : TellsOk Try.prog (Φ32 L N) := addT_ok (Φ73_ok L N) (f32.ok L N (Φ73_ok L N))
def f119.s0' {R : Type} (L N : Nat) (k0_e0 : Option R) (k0_r : Bool → Option R) (rec0 : LI → LI → Int → Int → Option R) (s0 : LI) (s1 : LI) (s2 : Int) (s3 : Int) : Option R :=
  bif (decide (s3 < s2)) then
    bif (decide (0 ≤ s3) && decide (s3 < (s0.length : Int))) then
      bif (decide (0 ≤ s3) && decide (s3 < (s1.length : Int))) then
        bif ((listAt s0 (0 : Int) s3.toNat) != (listAt s1 (0 : Int) s3.toNat)) then
          k0_r false
        else rec0 s0 s1 s2 (wi (s3 + (1 : Int)))
      else none
    else none
  else k0_e0
def f119.s0 {R : Type} (L N : Nat) (k0_e0 : Option R) (k0_r : Bool → Option R) (rec0 : LI → LI → Int → Int → Option R) (s0 : LI) (s1 : LI) (s2 : Int) (s3 : Int) : Option R :=
  f119.s0' L N k0_e0 k0_r rec0 s0 s1 s2 s3
def f119.l0 {R : Type} (L N : Nat) (k0_e0 : Option R) (k0_r : Bool → Option R) : Nat → LI → LI → Int → Int → Option R
  | 0, _, _, _, _ => none
  | n + 1, s0, s1, s2, s3 => f119.s0 L N k0_e0 k0_r (f119.l0 L N k0_e0 k0_r n) s0 s1 s2 s3
def f119.T0 (s0 : LI) (s1 : LI) (s2 : Int) (s3 : Int) : T := mkT 26 [(0, (.tv (.sl i64) s0)), (1, (.tv (.sl i64) s1)), (12, (.tv i64 s2)), (13, (.tv i64 s3))]
def f119.H0 (s0 : LI) (s1 : LI) (s2 : Int) (s3 : Int) : H := []
def f119.T0_e0 : T := mkT 26 []
def f119.H0_e0 : H := []
def f119.T0_r (z4 : Bool) : T := mkT 26 [(4, (.tv .bool z4))]
def f119.H0_r (z4 : Bool) : H := []
def f119.p0_e0' {R : Type} (L N : Nat) (k : Bool → Option R) : Option R :=
  k true
def f119.p0_e0 {R : Type} (L N : Nat) (k : Bool → Option R) : Option R :=
  f119.p0_e0' L N k
def f119.p0_r' {R : Type} (L N : Nat) (k : Bool → Option R) (z4 : Bool) : Option R :=
  k z4
def f119.p0_r {R : Type} (L N : Nat) (k : Bool → Option R) (z4 : Bool) : Option R :=
  f119.p0_r' L N k z4
def f119.b' {R : Type} (L N : Nat) (k : Bool → Option R) (w0 : LI → LI → Int → Int → Option R) (x0 : LI) (x1 : LI) : Option R :=
  bif ((x0.length : Int) != (x1.length : Int)) then
    k false
  else w0 x0 x1 (x0.length : Int) (0 : Int)
def f119.b {R : Type} (L N : Nat) (k : Bool → Option R) (x0 : LI) (x1 : LI) : Option R :=
  f119.b' L N k (fun s0 s1 s2 s3 => f119.l0 L N (f119.p0_e0 L N k) (fun z4 => f119.p0_r L N k z4) L s0 s1 s2 s3) x0 x1
def f119 (L N : Nat) (x0 : LI) (x1 : LI) : Option (Bool) := f119.b L N some x0 x1
def f119.ent (L N : Nat) (args : List AV) (vw : View) (site : Nat) : Ans := match roD [(.sl i64), (.sl i64)] vw args with
  | some d => ⟨Bool, f119 L N d.1 d.2.1, fun y => ((.tv .bool y), [], [])⟩
  | none => Ans.no
noncomputable def E119 (L N : Nat) : Env := { P := Try.prog, ty := tyOf, Φ := (Φ32 L N), inl := inlT, live := lives, liveX := livesX, L := L, dp := none, prom := promT, heal := healT, ren := renT }
noncomputable def f119.c0 : Code := loopAt 0 (codeOf Try.f119)
theorem f119.s0_pre {R : Type} (L N : Nat) (κ : Ex → T → H → Option R) (rec : T → H → Option R) (s0 : LI) (s1 : LI) (s2 : Int) (s3 : Int) :
    evRd (E119 L N) (evCallI (E119 L N) 1 2000) 1000 119 26 0 f119.c0 κ rec (f119.T0 s0 s1 s2 s3) (f119.H0 s0 s1 s2 s3)
    = f119.s0' L N (κ (.exit 0) f119.T0_e0 f119.H0_e0) (fun z4 => κ .ret (f119.T0_r z4) (f119.H0_r z4)) (fun s0 s1 s2 s3 => rec (f119.T0 s0 s1 s2 s3) (f119.H0 s0 s1 s2 s3)) s0 s1 s2 s3 := by kernel_rfl
theorem f119.s0_eq {R : Type} (L N : Nat) (κ : Ex → T → H → Option R) (rec : T → H → Option R) (s0 : LI) (s1 : LI) (s2 : Int) (s3 : Int) :
    evRd (E119 L N) (evCallI (E119 L N) 1 2000) 1000 119 26 0 f119.c0 κ rec (f119.T0 s0 s1 s2 s3) (f119.H0 s0 s1 s2 s3)
    = f119.s0 L N (κ (.exit 0) f119.T0_e0 f119.H0_e0) (fun z4 => κ .ret (f119.T0_r z4) (f119.H0_r z4)) (fun s0 s1 s2 s3 => rec (f119.T0 s0 s1 s2 s3) (f119.H0 s0 s1 s2 s3)) s0 s1 s2 s3 := by
  rw [f119.s0_pre]
  unfold f119.s0
  rfl
theorem f119.l0_eq {R : Type} (L N : Nat) (κ : Ex → T → H → Option R) : ∀ (n : Nat) (s0 : LI) (s1 : LI) (s2 : Int) (s3 : Int),
    evLp (E119 L N) (evCallI (E119 L N) 1 2000) 1000 119 26 0 f119.c0 κ n (f119.T0 s0 s1 s2 s3) (f119.H0 s0 s1 s2 s3)
    = f119.l0 L N (κ (.exit 0) f119.T0_e0 f119.H0_e0) (fun z4 => κ .ret (f119.T0_r z4) (f119.H0_r z4)) n s0 s1 s2 s3 := by
  intro n
  induction n with
  | zero => intros; rfl
  | succ n ih =>
    intro s0 s1 s2 s3
    rw [evLp_succ, f119.s0_eq]
    simp only [ih]
    rfl
theorem f119.p0_e0_pre {R : Type} (L N : Nat) (κ : AV → Option R) :
    (contAt (E119 L N) (evCallI (E119 L N) 1 2000) 1000 119 26 0 (codeOf Try.f119) (finK (E119 L N) 1000 Try.f119 (finC (.one .bool) κ))) (.exit 0) f119.T0_e0 f119.H0_e0
    = f119.p0_e0' L N (fun a0 => κ (.tv .bool a0)) := by kernel_rfl
theorem f119.p0_e0_eq {R : Type} (L N : Nat) (κ : AV → Option R) :
    (contAt (E119 L N) (evCallI (E119 L N) 1 2000) 1000 119 26 0 (codeOf Try.f119) (finK (E119 L N) 1000 Try.f119 (finC (.one .bool) κ))) (.exit 0) f119.T0_e0 f119.H0_e0
    = f119.p0_e0 L N (fun a0 => κ (.tv .bool a0)) := by
  rw [f119.p0_e0_pre]
  unfold f119.p0_e0
  rfl
theorem f119.p0_r_pre {R : Type} (L N : Nat) (κ : AV → Option R) (z4 : Bool) :
    (contAt (E119 L N) (evCallI (E119 L N) 1 2000) 1000 119 26 0 (codeOf Try.f119) (finK (E119 L N) 1000 Try.f119 (finC (.one .bool) κ))) .ret (f119.T0_r z4) (f119.H0_r z4)
    = f119.p0_r' L N (fun a0 => κ (.tv .bool a0)) z4 := by kernel_rfl
theorem f119.p0_r_eq {R : Type} (L N : Nat) (κ : AV → Option R) (z4 : Bool) :
    (contAt (E119 L N) (evCallI (E119 L N) 1 2000) 1000 119 26 0 (codeOf Try.f119) (finK (E119 L N) 1000 Try.f119 (finC (.one .bool) κ))) .ret (f119.T0_r z4) (f119.H0_r z4)
    = f119.p0_r L N (fun a0 => κ (.tv .bool a0)) z4 := by
  rw [f119.p0_r_pre]
  unfold f119.p0_r
  rfl
theorem f119.b_pre {R : Type} (L N : Nat) (κ : AV → Option R) (x0 : LI) (x1 : LI) :
    evBody (E119 L N) (evCallI (E119 L N) 1 2000) 1000 119 Try.f119 [(.tv (.sl i64) x0), (.tv (.sl i64) x1)] [] [] (finC (.one .bool) κ)
    = f119.b' L N (fun a0 => κ (.tv .bool a0)) (fun s0 s1 s2 s3 => evLp (E119 L N) (evCallI (E119 L N) 1 2000) 1000 119 26 0 f119.c0 (contAt (E119 L N) (evCallI (E119 L N) 1 2000) 1000 119 26 0 (codeOf Try.f119) (finK (E119 L N) 1000 Try.f119 (finC (.one .bool) κ))) L (f119.T0 s0 s1 s2 s3) (f119.H0 s0 s1 s2 s3)) x0 x1 := by kernel_rfl
theorem f119.b_eq {R : Type} (L N : Nat) (κ : AV → Option R) (x0 : LI) (x1 : LI) :
    evBody (E119 L N) (evCallI (E119 L N) 1 2000) 1000 119 Try.f119 [(.tv (.sl i64) x0), (.tv (.sl i64) x1)] [] [] (finC (.one .bool) κ)
    = f119.b L N (fun a0 => κ (.tv .bool a0)) x0 x1 := by
  rw [f119.b_pre]
  unfold f119.b
  simp only [f119.l0_eq, f119.p0_e0_eq, f119.p0_r_eq]
theorem f119.s0'_nat {R R' : Type} (j : R → Option R') (L N : Nat) (k0_e0 : Option R) (k0_r : Bool → Option R) (rec0 : LI → LI → Int → Int → Option R) (s0 : LI) (s1 : LI) (s2 : Int) (s3 : Int) :
    f119.s0' L N (k0_e0.bind j) (fun a0 => (k0_r a0).bind j) (fun a0 a1 a2 a3 => (rec0 a0 a1 a2 a3).bind j) s0 s1 s2 s3 = (f119.s0' L N k0_e0 k0_r rec0 s0 s1 s2 s3).bind j := by
  unfold f119.s0'
  repeat' (first | (with_reducible refine cond_nat ?_ ?_) | (with_reducible refine bind_nat fun _ => ?_) | rfl)
theorem f119.s0_nat {R R' : Type} (j : R → Option R') (L N : Nat) (k0_e0 : Option R) (k0_r : Bool → Option R) (rec0 : LI → LI → Int → Int → Option R) (s0 : LI) (s1 : LI) (s2 : Int) (s3 : Int) :
    f119.s0 L N (k0_e0.bind j) (fun a0 => (k0_r a0).bind j) (fun a0 a1 a2 a3 => (rec0 a0 a1 a2 a3).bind j) s0 s1 s2 s3 = (f119.s0 L N k0_e0 k0_r rec0 s0 s1 s2 s3).bind j := by
  unfold f119.s0
  exact f119.s0'_nat ..
theorem f119.l0_nat {R R' : Type} (j : R → Option R') (L N : Nat) (k0_e0 : Option R) (k0_r : Bool → Option R) : ∀ (n : Nat) (s0 : LI) (s1 : LI) (s2 : Int) (s3 : Int),
    f119.l0 L N (k0_e0.bind j) (fun a0 => (k0_r a0).bind j) n s0 s1 s2 s3 = (f119.l0 L N k0_e0 k0_r n s0 s1 s2 s3).bind j := by
  intro n
  induction n with
  | zero => intros; rfl
  | succ n ih =>
    intro s0 s1 s2 s3
    show f119.s0 L N (k0_e0.bind j) (fun a0 => (k0_r a0).bind j) (f119.l0 L N (k0_e0.bind j) (fun a0 => (k0_r a0).bind j) n) s0 s1 s2 s3 = _
    rw [show f119.l0 L N (k0_e0.bind j) (fun a0 => (k0_r a0).bind j) n = (fun s0 s1 s2 s3 => (f119.l0 L N k0_e0 k0_r n s0 s1 s2 s3).bind j) from funext fun s0 => funext fun s1 => funext fun s2 => funext fun s3 => ih s0 s1 s2 s3]
    exact f119.s0_nat ..
theorem f119.p0_e0'_nat {R R' : Type} (j : R → Option R') (L N : Nat) (k : Bool → Option R) :
    f119.p0_e0' L N (fun a0 => (k a0).bind j) = (f119.p0_e0' L N k).bind j := by
  unfold f119.p0_e0'
  repeat' (first | (with_reducible refine cond_nat ?_ ?_) | (with_reducible refine bind_nat fun _ => ?_) | rfl)
theorem f119.p0_e0_nat {R R' : Type} (j : R → Option R') (L N : Nat) (k : Bool → Option R) :
    f119.p0_e0 L N (fun a0 => (k a0).bind j) = (f119.p0_e0 L N k).bind j := by
  unfold f119.p0_e0
  exact f119.p0_e0'_nat ..
theorem f119.p0_r'_nat {R R' : Type} (j : R → Option R') (L N : Nat) (k : Bool → Option R) (z4 : Bool) :
    f119.p0_r' L N (fun a0 => (k a0).bind j) z4 = (f119.p0_r' L N k z4).bind j := by
  unfold f119.p0_r'
  repeat' (first | (with_reducible refine cond_nat ?_ ?_) | (with_reducible refine bind_nat fun _ => ?_) | rfl)
theorem f119.p0_r_nat {R R' : Type} (j : R → Option R') (L N : Nat) (k : Bool → Option R) (z4 : Bool) :
    f119.p0_r L N (fun a0 => (k a0).bind j) z4 = (f119.p0_r L N k z4).bind j := by
  unfold f119.p0_r
  exact f119.p0_r'_nat ..
theorem f119.b'_nat {R R' : Type} (j : R → Option R') (L N : Nat) (k : Bool → Option R) (w0 : LI → LI → Int → Int → Option R) (x0 : LI) (x1 : LI) :
    f119.b' L N (fun a0 => (k a0).bind j) (fun a0 a1 a2 a3 => (w0 a0 a1 a2 a3).bind j) x0 x1 = (f119.b' L N k w0 x0 x1).bind j := by
  unfold f119.b'
  repeat' (first | (with_reducible refine cond_nat ?_ ?_) | (with_reducible refine bind_nat fun _ => ?_) | rfl)
theorem f119.b_nat {R R' : Type} (j : R → Option R') (L N : Nat) (k : Bool → Option R) (x0 : LI) (x1 : LI) :
    f119.b L N (fun a0 => (k a0).bind j) x0 x1 = (f119.b L N k x0 x1).bind j := by
  unfold f119.b
  simp only [f119.l0_nat, f119.p0_e0_nat, f119.p0_r_nat]
  exact f119.b'_nat ..
theorem f119.ok (L N : Nat) (hΦ : TellsOk Try.prog ((Φ32 L N))) : EntOk Try.prog 119 (f119.ent L N) := by
  intro args vw site h
  unfold f119.ent
  split
  · rename_i d ha
    intro y hy hs
    refine call_ro (dep := 1000) (E := (E119 L N)) (rs := (.one .bool)) (v := (.tv .bool y)) (sound_of hΦ) okP (callI_sound (sound_of hΦ) okP 1 2000) (f := Try.f119) rfl hs ha ?_ rfl site
    refine (f119.b_eq L N some d.1 d.2.1).trans ?_
    refine ((f119.b_nat (fun y => (some (.tv .bool y) : Option AV)) L N some d.1 d.2.1)).trans ?_
    rw [show f119.b L N some d.1 d.2.1 = some y from hy]
    rfl
  · intro y hy
    cases hy
def Φ119 (L N : Nat) : Tells := (addT (Φ32 L N) 119 (f119.ent L N))
theorem Φ119_ok (L N : Nat) : TellsOk Try.prog (Φ119 L N) := addT_ok (Φ32_ok L N) (f119.ok L N (Φ32_ok L N))
def f142.s0' {R : Type} (L N : Nat) (k0_e0 : Option R) (k0_r : Bool → Option R) (rec0 : LM → LM → Int → Int → Option R) (s0 : LM) (s1 : LM) (s2 : Int) (s3 : Int) : Option R :=
  bif (decide (s3 < s2)) then
    bif (decide (0 ≤ s3) && decide (s3 < (s0.length : Int))) then
      bif (decide (0 ≤ s3) && decide (s3 < (s1.length : Int))) then
        bif (!(Move.eqb (listAt s0 (Ty.dflt (.st 0)) s3.toNat) (listAt s1 (Ty.dflt (.st 0)) s3.toNat))) then
          k0_r false
        else rec0 s0 s1 s2 (wi (s3 + (1 : Int)))
      else none
    else none
  else k0_e0
def f142.s0 {R : Type} (L N : Nat) (k0_e0 : Option R) (k0_r : Bool → Option R) (rec0 : LM → LM → Int → Int → Option R) (s0 : LM) (s1 : LM) (s2 : Int) (s3 : Int) : Option R :=
  f142.s0' L N k0_e0 k0_r rec0 s0 s1 s2 s3
def f142.l0 {R : Type} (L N : Nat) (k0_e0 : Option R) (k0_r : Bool → Option R) : Nat → LM → LM → Int → Int → Option R
  | 0, _, _, _, _ => none
  | n + 1, s0, s1, s2, s3 => f142.s0 L N k0_e0 k0_r (f142.l0 L N k0_e0 k0_r n) s0 s1 s2 s3
def f142.T0 (s0 : LM) (s1 : LM) (s2 : Int) (s3 : Int) : T := mkT 26 [(0, (.tv (.sl (.st 0)) s0)), (1, (.tv (.sl (.st 0)) s1)), (12, (.tv i64 s2)), (13, (.tv i64 s3))]
def f142.H0 (s0 : LM) (s1 : LM) (s2 : Int) (s3 : Int) : H := []
def f142.T0_e0 : T := mkT 26 []
def f142.H0_e0 : H := []
def f142.T0_r (z4 : Bool) : T := mkT 26 [(4, (.tv .bool z4))]
def f142.H0_r (z4 : Bool) : H := []
def f142.p0_e0' {R : Type} (L N : Nat) (k : Bool → Option R) : Option R :=
  k true
def f142.p0_e0 {R : Type} (L N : Nat) (k : Bool → Option R) : Option R :=
  f142.p0_e0' L N k
def f142.p0_r' {R : Type} (L N : Nat) (k : Bool → Option R) (z4 : Bool) : Option R :=
  k z4
def f142.p0_r {R : Type} (L N : Nat) (k : Bool → Option R) (z4 : Bool) : Option R :=
  f142.p0_r' L N k z4
def f142.b' {R : Type} (L N : Nat) (k : Bool → Option R) (w0 : LM → LM → Int → Int → Option R) (x0 : LM) (x1 : LM) : Option R :=
  bif ((x0.length : Int) != (x1.length : Int)) then
    k false
  else w0 x0 x1 (x0.length : Int) (0 : Int)
def f142.b {R : Type} (L N : Nat) (k : Bool → Option R) (x0 : LM) (x1 : LM) : Option R :=
  f142.b' L N k (fun s0 s1 s2 s3 => f142.l0 L N (f142.p0_e0 L N k) (fun z4 => f142.p0_r L N k z4) L s0 s1 s2 s3) x0 x1
def f142 (L N : Nat) (x0 : LM) (x1 : LM) : Option (Bool) := f142.b L N some x0 x1
def f142.ent (L N : Nat) (args : List AV) (vw : View) (site : Nat) : Ans := match roD [(.sl (.st 0)), (.sl (.st 0))] vw args with
  | some d => ⟨Bool, f142 L N d.1 d.2.1, fun y => ((.tv .bool y), [], [])⟩
  | none => Ans.no
noncomputable def E142 (L N : Nat) : Env := { P := Try.prog, ty := tyOf, Φ := (Φ119 L N), inl := inlT, live := lives, liveX := livesX, L := L, dp := none, prom := promT, heal := healT, ren := renT }
noncomputable def f142.c0 : Code := loopAt 0 (codeOf Try.f142)
theorem f142.s0_pre {R : Type} (L N : Nat) (κ : Ex → T → H → Option R) (rec : T → H → Option R) (s0 : LM) (s1 : LM) (s2 : Int) (s3 : Int) :
    evRd (E142 L N) (evCallI (E142 L N) 1 2000) 1000 142 26 0 f142.c0 κ rec (f142.T0 s0 s1 s2 s3) (f142.H0 s0 s1 s2 s3)
    = f142.s0' L N (κ (.exit 0) f142.T0_e0 f142.H0_e0) (fun z4 => κ .ret (f142.T0_r z4) (f142.H0_r z4)) (fun s0 s1 s2 s3 => rec (f142.T0 s0 s1 s2 s3) (f142.H0 s0 s1 s2 s3)) s0 s1 s2 s3 := by kernel_rfl
theorem f142.s0_eq {R : Type} (L N : Nat) (κ : Ex → T → H → Option R) (rec : T → H → Option R) (s0 : LM) (s1 : LM) (s2 : Int) (s3 : Int) :
    evRd (E142 L N) (evCallI (E142 L N) 1 2000) 1000 142 26 0 f142.c0 κ rec (f142.T0 s0 s1 s2 s3) (f142.H0 s0 s1 s2 s3)
    = f142.s0 L N (κ (.exit 0) f142.T0_e0 f142.H0_e0) (fun z4 => κ .ret (f142.T0_r z4) (f142.H0_r z4)) (fun s0 s1 s2 s3 => rec (f142.T0 s0 s1 s2 s3) (f142.H0 s0 s1 s2 s3)) s0 s1 s2 s3 := by
  rw [f142.s0_pre]
  unfold f142.s0
  rfl
theorem f142.l0_eq {R : Type} (L N : Nat) (κ : Ex → T → H → Option R) : ∀ (n : Nat) (s0 : LM) (s1 : LM) (s2 : Int) (s3 : Int),
    evLp (E142 L N) (evCallI (E142 L N) 1 2000) 1000 142 26 0 f142.c0 κ n (f142.T0 s0 s1 s2 s3) (f142.H0 s0 s1 s2 s3)
    = f142.l0 L N (κ (.exit 0) f142.T0_e0 f142.H0_e0) (fun z4 => κ .ret (f142.T0_r z4) (f142.H0_r z4)) n s0 s1 s2 s3 := by
  intro n
  induction n with
  | zero => intros; rfl
  | succ n ih =>
    intro s0 s1 s2 s3
    rw [evLp_succ, f142.s0_eq]
    simp only [ih]
    rfl
theorem f142.p0_e0_pre {R : Type} (L N : Nat) (κ : AV → Option R) :
    (contAt (E142 L N) (evCallI (E142 L N) 1 2000) 1000 142 26 0 (codeOf Try.f142) (finK (E142 L N) 1000 Try.f142 (finC (.one .bool) κ))) (.exit 0) f142.T0_e0 f142.H0_e0
    = f142.p0_e0' L N (fun a0 => κ (.tv .bool a0)) := by kernel_rfl
theorem f142.p0_e0_eq {R : Type} (L N : Nat) (κ : AV → Option R) :
    (contAt (E142 L N) (evCallI (E142 L N) 1 2000) 1000 142 26 0 (codeOf Try.f142) (finK (E142 L N) 1000 Try.f142 (finC (.one .bool) κ))) (.exit 0) f142.T0_e0 f142.H0_e0
    = f142.p0_e0 L N (fun a0 => κ (.tv .bool a0)) := by
  rw [f142.p0_e0_pre]
  unfold f142.p0_e0
  rfl
theorem f142.p0_r_pre {R : Type} (L N : Nat) (κ : AV → Option R) (z4 : Bool) :
    (contAt (E142 L N) (evCallI (E142 L N) 1 2000) 1000 142 26 0 (codeOf Try.f142) (finK (E142 L N) 1000 Try.f142 (finC (.one .bool) κ))) .ret (f142.T0_r z4) (f142.H0_r z4)
    = f142.p0_r' L N (fun a0 => κ (.tv .bool a0)) z4 := by kernel_rfl
theorem f142.p0_r_eq {R : Type} (L N : Nat) (κ : AV → Option R) (z4 : Bool) :
    (contAt (E142 L N) (evCallI (E142 L N) 1 2000) 1000 142 26 0 (codeOf Try.f142) (finK (E142 L N) 1000 Try.f142 (finC (.one .bool) κ))) .ret (f142.T0_r z4) (f142.H0_r z4)
    = f142.p0_r L N (fun a0 => κ (.tv .bool a0)) z4 := by
  rw [f142.p0_r_pre]
  unfold f142.p0_r
  rfl
theorem f142.b_pre {R : Type} (L N : Nat) (κ : AV → Option R) (x0 : LM) (x1 : LM) :
    evBody (E142 L N) (evCallI (E142 L N) 1 2000) 1000 142 Try.f142 [(.tv (.sl (.st 0)) x0), (.tv (.sl (.st 0)) x1)] [] [] (finC (.one .bool) κ)
    = f142.b' L N (fun a0 => κ (.tv .bool a0)) (fun s0 s1 s2 s3 => evLp (E142 L N) (evCallI (E142 L N) 1 2000) 1000 142 26 0 f142.c0 (contAt (E142 L N) (evCallI (E142 L N) 1 2000) 1000 142 26 0 (codeOf Try.f142) (finK (E142 L N) 1000 Try.f142 (finC (.one .bool) κ))) L (f142.T0 s0 s1 s2 s3) (f142.H0 s0 s1 s2 s3)) x0 x1 := by kernel_rfl
theorem f142.b_eq {R : Type} (L N : Nat) (κ : AV → Option R) (x0 : LM) (x1 : LM) :
    evBody (E142 L N) (evCallI (E142 L N) 1 2000) 1000 142 Try.f142 [(.tv (.sl (.st 0)) x0), (.tv (.sl (.st 0)) x1)] [] [] (finC (.one .bool) κ)
    = f142.b L N (fun a0 => κ (.tv .bool a0)) x0 x1 := by
  rw [f142.b_pre]
  unfold f142.b
  simp only [f142.l0_eq, f142.p0_e0_eq, f142.p0_r_eq]
theorem f142.s0'_nat {R R' : Type} (j : R → Option R') (L N : Nat) (k0_e0 : Option R) (k0_r : Bool → Option R) (rec0 : LM → LM → Int → Int → Option R) (s0 : LM) (s1 : LM) (s2 : Int) (s3 : Int) :
    f142.s0' L N (k0_e0.bind j) (fun a0 => (k0_r a0).bind j) (fun a0 a1 a2 a3 => (rec0 a0 a1 a2 a3).bind j) s0 s1 s2 s3 = (f142.s0' L N k0_e0 k0_r rec0 s0 s1 s2 s3).bind j := by
  unfold f142.s0'
  repeat' (first | (with_reducible refine cond_nat ?_ ?_) | (with_reducible refine bind_nat fun _ => ?_) | rfl)
theorem f142.s0_nat {R R' : Type} (j : R → Option R') (L N : Nat) (k0_e0 : Option R) (k0_r : Bool → Option R) (rec0 : LM → LM → Int → Int → Option R) (s0 : LM) (s1 : LM) (s2 : Int) (s3 : Int) :
    f142.s0 L N (k0_e0.bind j) (fun a0 => (k0_r a0).bind j) (fun a0 a1 a2 a3 => (rec0 a0 a1 a2 a3).bind j) s0 s1 s2 s3 = (f142.s0 L N k0_e0 k0_r rec0 s0 s1 s2 s3).bind j := by
  unfold f142.s0
  exact f142.s0'_nat ..
theorem f142.l0_nat {R R' : Type} (j : R → Option R') (L N : Nat) (k0_e0 : Option R) (k0_r : Bool → Option R) : ∀ (n : Nat) (s0 : LM) (s1 : LM) (s2 : Int) (s3 : Int),
    f142.l0 L N (k0_e0.bind j) (fun a0 => (k0_r a0).bind j) n s0 s1 s2 s3 = (f142.l0 L N k0_e0 k0_r n s0 s1 s2 s3).bind j := by
  intro n
  induction n with
  | zero => intros; rfl
  | succ n ih =>
    intro s0 s1 s2 s3
    show f142.s0 L N (k0_e0.bind j) (fun a0 => (k0_r a0).bind j) (f142.l0 L N (k0_e0.bind j) (fun a0 => (k0_r a0).bind j) n) s0 s1 s2 s3 = _
    rw [show f142.l0 L N (k0_e0.bind j) (fun a0 => (k0_r a0).bind j) n = (fun s0 s1 s2 s3 => (f142.l0 L N k0_e0 k0_r n s0 s1 s2 s3).bind j) from funext fun s0 => funext fun s1 => funext fun s2 => funext fun s3 => ih s0 s1 s2 s3]
    exact f142.s0_nat ..
theorem f142.p0_e0'_nat {R R' : Type} (j : R → Option R') (L N : Nat) (k : Bool → Option R) :
    f142.p0_e0' L N (fun a0 => (k a0).bind j) = (f142.p0_e0' L N k).bind j := by
  unfold f142.p0_e0'
  repeat' (first | (with_reducible refine cond_nat ?_ ?_) | (with_reducible refine bind_nat fun _ => ?_) | rfl)
theorem f142.p0_e0_nat {R R' : Type} (j : R → Option R') (L N : Nat) (k : Bool → Option R) :
    f142.p0_e0 L N (fun a0 => (k a0).bind j) = (f142.p0_e0 L N k).bind j := by
  unfold f142.p0_e0
  exact f142.p0_e0'_nat ..
theorem f142.p0_r'_nat {R R' : Type} (j : R → Option R') (L N : Nat) (k : Bool → Option R) (z4 : Bool) :
    f142.p0_r' L N (fun a0 => (k a0).bind j) z4 = (f142.p0_r' L N k z4).bind j := by
  unfold f142.p0_r'
  repeat' (first | (with_reducible refine cond_nat ?_ ?_) | (with_reducible refine bind_nat fun _ => ?_) | rfl)
theorem f142.p0_r_nat {R R' : Type} (j : R → Option R') (L N : Nat) (k : Bool → Option R) (z4 : Bool) :
    f142.p0_r L N (fun a0 => (k a0).bind j) z4 = (f142.p0_r L N k z4).bind j := by
  unfold f142.p0_r
  exact f142.p0_r'_nat ..
theorem f142.b'_nat {R R' : Type} (j : R → Option R') (L N : Nat) (k : Bool → Option R) (w0 : LM → LM → Int → Int → Option R) (x0 : LM) (x1 : LM) :
    f142.b' L N (fun a0 => (k a0).bind j) (fun a0 a1 a2 a3 => (w0 a0 a1 a2 a3).bind j) x0 x1 = (f142.b' L N k w0 x0 x1).bind j := by
  unfold f142.b'
  repeat' (first | (with_reducible refine cond_nat ?_ ?_) | (with_reducible refine bind_nat fun _ => ?_) | rfl)
theorem f142.b_nat {R R' : Type} (j : R → Option R') (L N : Nat) (k : Bool → Option R) (x0 : LM) (x1 : LM) :
    f142.b L N (fun a0 => (k a0).bind j) x0 x1 = (f142.b L N k x0 x1).bind j := by
  unfold f142.b
  simp only [f142.l0_nat, f142.p0_e0_nat, f142.p0_r_nat]
  exact f142.b'_nat ..
theorem f142.ok (L N : Nat) (hΦ : TellsOk Try.prog ((Φ119 L N))) : EntOk Try.prog 142 (f142.ent L N) := by
  intro args vw site h
  unfold f142.ent
  split
  · rename_i d ha
    intro y hy hs
    refine call_ro (dep := 1000) (E := (E142 L N)) (rs := (.one .bool)) (v := (.tv .bool y)) (sound_of hΦ) okP (callI_sound (sound_of hΦ) okP 1 2000) (f := Try.f142) rfl hs ha ?_ rfl site
    refine (f142.b_eq L N some d.1 d.2.1).trans ?_
    refine ((f142.b_nat (fun y => (some (.tv .bool y) : Option AV)) L N some d.1 d.2.1)).trans ?_
    rw [show f142.b L N some d.1 d.2.1 = some y from hy]
    rfl
  · intro y hy
    cases hy
def Φ142 (L N : Nat) : Tells := (addT (Φ119 L N) 142 (f142.ent L N))
theorem Φ142_ok (L N : Nat) : TellsOk Try.prog (Φ142 L N) := addT_ok (Φ119_ok L N) (f142.ok L N (Φ119_ok L N))
def f83.j0' {R : Type} (L N : Nat) (k1_e2 : LI → Int → Int → LLM → LM → (List (Int × Bool)) → LI → Option R) (rec1 : LI → Int → Int → LM → Int → Int → LLM → LM → (List (Int × Bool)) → LI → Option R) (v25 : LI) (v26 : Int) (v27 : Int) (v28 : LM) (v29 : Int) (v30 : Int) (v31 : Bool) (v32 : LLM) (v33 : Int) (v34 : Int) (v35 : LM) (v36 : (List (Int × Bool))) (v37 : LI) : Option R :=
  bif v31 then
    bif (decide (0 ≤ v34) && decide (v34 < (v25.length : Int))) then
      bif (decide (v35.length + ([(Move.mk v33 (listAt v25 (0 : Int) v34.toNat))] : LM).length ≤ lim)) then
        rec1 v25 v26 v27 v28 v29 (wi (v30 + (1 : Int))) v32 (v35 ++ ([(Move.mk v33 (listAt v25 (0 : Int) v34.toNat))] : LM)) v36 v37
      else none
    else none
  else bif (!((mapFind i64 .bool v34 v36).getD (Ty.dflt .bool))) then
    bif (decide (v37.length + ([v34] : LI).length ≤ lim)) then
      rec1 v25 v26 v27 v28 v29 (wi (v30 + (1 : Int))) v32 v35 (mapPut i64 .bool v34 true v36) (v37 ++ ([v34] : LI))
    else none
  else rec1 v25 v26 v27 v28 v29 (wi (v30 + (1 : Int))) v32 v35 v36 v37
def f83.s1' {R : Type} (L N : Nat) (k1_e2 : LI → Int → Int → LLM → LM → (List (Int × Bool)) → LI → Option R) (rec1 : LI → Int → Int → LM → Int → Int → LLM → LM → (List (Int × Bool)) → LI → Option R) (s8 : LI) (s9 : Int) (s10 : Int) (s11 : LM) (s12 : Int) (s13 : Int) (s14 : LLM) (s15 : LM) (s16 : (List (Int × Bool))) (s17 : LI) : Option R :=
  bif (decide (s13 < s12)) then
    bif (decide (0 ≤ s13) && decide (s13 < (s11.length : Int))) then
      bif ((listAt s11 (Ty.dflt (.st 0)) s13.toNat).act != (0 : Int)) then
        f83.j0' L N k1_e2 rec1 s8 s9 s10 s11 s12 s13 true s14 ((listAt s11 (Ty.dflt (.st 0)) s13.toNat).act) ((listAt s11 (Ty.dflt (.st 0)) s13.toNat).to) s15 s16 s17
      else bif (decide (0 ≤ (listAt s11 (Ty.dflt (.st 0)) s13.toNat).to) && decide ((listAt s11 (Ty.dflt (.st 0)) s13.toNat).to < (s8.length : Int))) then
        bif (decide (0 ≤ s9) && decide (s9 < (s8.length : Int))) then
          f83.j0' L N k1_e2 rec1 s8 s9 s10 s11 s12 s13 ((listAt s8 (0 : Int) ((listAt s11 (Ty.dflt (.st 0)) s13.toNat).to).toNat) != (listAt s8 (0 : Int) s9.toNat)) s14 ((listAt s11 (Ty.dflt (.st 0)) s13.toNat).act) ((listAt s11 (Ty.dflt (.st 0)) s13.toNat).to) s15 s16 s17
        else none
      else none
    else none
  else k1_e2 s8 s9 s10 s14 s15 s16 s17
def f83.s1 {R : Type} (L N : Nat) (k1_e2 : LI → Int → Int → LLM → LM → (List (Int × Bool)) → LI → Option R) (rec1 : LI → Int → Int → LM → Int → Int → LLM → LM → (List (Int × Bool)) → LI → Option R) (s8 : LI) (s9 : Int) (s10 : Int) (s11 : LM) (s12 : Int) (s13 : Int) (s14 : LLM) (s15 : LM) (s16 : (List (Int × Bool))) (s17 : LI) : Option R :=
  f83.s1' L N k1_e2 rec1 s8 s9 s10 s11 s12 s13 s14 s15 s16 s17
def f83.l1 {R : Type} (L N : Nat) (k1_e2 : LI → Int → Int → LLM → LM → (List (Int × Bool)) → LI → Option R) : Nat → LI → Int → Int → LM → Int → Int → LLM → LM → (List (Int × Bool)) → LI → Option R
  | 0, _, _, _, _, _, _, _, _, _, _ => none
  | n + 1, s8, s9, s10, s11, s12, s13, s14, s15, s16, s17 => f83.s1 L N k1_e2 (f83.l1 L N k1_e2 n) s8 s9 s10 s11 s12 s13 s14 s15 s16 s17
def f83.T1 (s8 : LI) (s9 : Int) (s10 : Int) (s11 : LM) (s12 : Int) (s13 : Int) (s14 : LLM) (s15 : LM) (s16 : (List (Int × Bool))) (s17 : LI) : T := mkT 80 [(1, (.tv (.sl i64) s8)), (2, (.tv i64 s9)), (3, (.ptr 1003 0)), (7, (.row 1013)), (8, (.mp 1014)), (9, (.row 1018)), (10, (.tv i64 s10)), (32, (.tv (.sl (.st 0)) s11)), (33, (.tv i64 s12)), (34, (.tv i64 s13))]
def f83.H1 (s8 : LI) (s9 : Int) (s10 : Int) (s11 : LM) (s12 : Int) (s13 : Int) (s14 : LLM) (s15 : LM) (s16 : (List (Int × Bool))) (s17 : LI) : H := [(1003, (.box [(.tv (.sl (.sl (.st 0))) s14)])), (1013, (.row 53 (.st 0) s15)), (1014, (.map i64 .bool s16)), (1018, (.row 3 i64 s17))]
def f83.T1_e2 (z18 : LI) (z19 : Int) (z20 : Int) (z21 : LLM) (z22 : LM) (z23 : (List (Int × Bool))) (z24 : LI) : T := mkT 80 [(1, (.tv (.sl i64) z18)), (2, (.tv i64 z19)), (3, (.ptr 1003 0)), (7, (.row 1013)), (8, (.mp 1014)), (9, (.row 1018)), (10, (.tv i64 z20))]
def f83.H1_e2 (z18 : LI) (z19 : Int) (z20 : Int) (z21 : LLM) (z22 : LM) (z23 : (List (Int × Bool))) (z24 : LI) : H := [(1003, (.box [(.tv (.sl (.sl (.st 0))) z21)])), (1013, (.row 53 (.st 0) z22)), (1014, (.map i64 .bool z23)), (1018, (.row 3 i64 z24))]
def f83.p1_e2' {R : Type} (L N : Nat) (k0_e0 : LM → Option R) (rec0 : LI → Int → Int → LLM → LM → (List (Int × Bool)) → LI → Option R) (z18 : LI) (z19 : Int) (z20 : Int) (z21 : LLM) (z22 : LM) (z23 : (List (Int × Bool))) (z24 : LI) : Option R :=
  rec0 z18 z19 (wi (z20 + (1 : Int))) z21 z22 z23 z24
def f83.p1_e2 {R : Type} (L N : Nat) (k0_e0 : LM → Option R) (rec0 : LI → Int → Int → LLM → LM → (List (Int × Bool)) → LI → Option R) (z18 : LI) (z19 : Int) (z20 : Int) (z21 : LLM) (z22 : LM) (z23 : (List (Int × Bool))) (z24 : LI) : Option R :=
  f83.p1_e2' L N k0_e0 rec0 z18 z19 z20 z21 z22 z23 z24
def f83.s0' {R : Type} (L N : Nat) (k0_e0 : LM → Option R) (rec0 : LI → Int → Int → LLM → LM → (List (Int × Bool)) → LI → Option R) (w1 : LI → Int → Int → LM → Int → Int → LLM → LM → (List (Int × Bool)) → LI → Option R) (s0 : LI) (s1 : Int) (s2 : Int) (s3 : LLM) (s4 : LM) (s5 : (List (Int × Bool))) (s6 : LI) : Option R :=
  bif (decide (s2 < (s6.length : Int))) then
    bif (decide (0 ≤ s2) && decide (s2 < (s6.length : Int))) then
      bif (decide (0 ≤ (listAt s6 (0 : Int) s2.toNat)) && decide ((listAt s6 (0 : Int) s2.toNat) < (s3.length : Int))) then
        w1 s0 s1 s2 (listAt s3 [] (listAt s6 (0 : Int) s2.toNat).toNat) ((listAt s3 [] (listAt s6 (0 : Int) s2.toNat).toNat).length : Int) (0 : Int) s3 s4 s5 s6
      else none
    else none
  else k0_e0 s4
def f83.s0 {R : Type} (L N : Nat) (k0_e0 : LM → Option R) (rec0 : LI → Int → Int → LLM → LM → (List (Int × Bool)) → LI → Option R) (s0 : LI) (s1 : Int) (s2 : Int) (s3 : LLM) (s4 : LM) (s5 : (List (Int × Bool))) (s6 : LI) : Option R :=
  f83.s0' L N k0_e0 rec0 (fun s8 s9 s10 s11 s12 s13 s14 s15 s16 s17 => f83.l1 L N (fun z18 z19 z20 z21 z22 z23 z24 => f83.p1_e2 L N k0_e0 rec0 z18 z19 z20 z21 z22 z23 z24) L s8 s9 s10 s11 s12 s13 s14 s15 s16 s17) s0 s1 s2 s3 s4 s5 s6
def f83.l0 {R : Type} (L N : Nat) (k0_e0 : LM → Option R) : Nat → LI → Int → Int → LLM → LM → (List (Int × Bool)) → LI → Option R
  | 0, _, _, _, _, _, _, _ => none
  | n + 1, s0, s1, s2, s3, s4, s5, s6 => f83.s0 L N k0_e0 (f83.l0 L N k0_e0 n) s0 s1 s2 s3 s4 s5 s6
def f83.T0 (s0 : LI) (s1 : Int) (s2 : Int) (s3 : LLM) (s4 : LM) (s5 : (List (Int × Bool))) (s6 : LI) : T := mkT 80 [(1, (.tv (.sl i64) s0)), (2, (.tv i64 s1)), (3, (.ptr 1003 0)), (7, (.row 1013)), (8, (.mp 1014)), (9, (.row 1018)), (10, (.tv i64 s2))]
def f83.H0 (s0 : LI) (s1 : Int) (s2 : Int) (s3 : LLM) (s4 : LM) (s5 : (List (Int × Bool))) (s6 : LI) : H := [(1003, (.box [(.tv (.sl (.sl (.st 0))) s3)])), (1013, (.row 53 (.st 0) s4)), (1014, (.map i64 .bool s5)), (1018, (.row 3 i64 s6))]
def f83.T0_e0 (z7 : LM) : T := mkT 80 [(7, (.row 1013))]
def f83.H0_e0 (z7 : LM) : H := [(1013, (.row 53 (.st 0) z7))]
def f83.p0_e0' {R : Type} (L N : Nat) (k : LM → Option R) (z7 : LM) : Option R :=
  ((fsortM z7)).bind fun y48 =>
  k (tidyM z7)
def f83.p0_e0 {R : Type} (L N : Nat) (k : LM → Option R) (z7 : LM) : Option R :=
  f83.p0_e0' L N k z7
def f83.b' {R : Type} (L N : Nat) (k : LM → Option R) (w0 : LI → Int → Int → LLM → LM → (List (Int × Bool)) → LI → Option R) (x0 : Graph) (x1 : LI) (x2 : Int) : Option R :=
  w0 x1 x2 (0 : Int) x0.moves ([] : LM) (mapPut i64 .bool x2 true ([] : (List (Int × Bool)))) ([x2] : LI)
def f83.b {R : Type} (L N : Nat) (k : LM → Option R) (x0 : Graph) (x1 : LI) (x2 : Int) : Option R :=
  f83.b' L N k (fun s0 s1 s2 s3 s4 s5 s6 => f83.l0 L N (fun z7 => f83.p0_e0 L N k z7) L s0 s1 s2 s3 s4 s5 s6) x0 x1 x2
def f83 (L N : Nat) (x0 : Graph) (x1 : LI) (x2 : Int) : Option (LM) := f83.b L N some x0 x1 x2
def f83.ent (L N : Nat) (args : List AV) (vw : View) (site : Nat) : Ans := match coeD [(.st 2), (.sl i64), i64] vw args with
  | some (d, u) => ⟨LM, f83 L N d.1 d.2.1 d.2.2.1, fun y => ((.tv (.sl (.st 0)) y), u, [])⟩
  | none => Ans.no
noncomputable def E83 (L N : Nat) : Env := { P := Try.prog, ty := tyOf, Φ := (Φ142 L N), inl := inlT, live := lives, liveX := livesX, L := L, dp := none, prom := promT, heal := healT, ren := renT }
noncomputable def f83.c0 : Code := loopAt 0 (codeOf Try.f83)
noncomputable def f83.c1 : Code := loopAt 2 f83.c0
theorem f83.s1_pre {R : Type} (L N : Nat) (κ : Ex → T → H → Option R) (rec : T → H → Option R) (s8 : LI) (s9 : Int) (s10 : Int) (s11 : LM) (s12 : Int) (s13 : Int) (s14 : LLM) (s15 : LM) (s16 : (List (Int × Bool))) (s17 : LI) :
    evRd (E83 L N) (evCallI (E83 L N) 1 2000) 1000 83 80 2 f83.c1 κ rec (f83.T1 s8 s9 s10 s11 s12 s13 s14 s15 s16 s17) (f83.H1 s8 s9 s10 s11 s12 s13 s14 s15 s16 s17)
    = f83.s1' L N (fun z18 z19 z20 z21 z22 z23 z24 => κ (.exit 2) (f83.T1_e2 z18 z19 z20 z21 z22 z23 z24) (f83.H1_e2 z18 z19 z20 z21 z22 z23 z24)) (fun s8 s9 s10 s11 s12 s13 s14 s15 s16 s17 => rec (f83.T1 s8 s9 s10 s11 s12 s13 s14 s15 s16 s17) (f83.H1 s8 s9 s10 s11 s12 s13 s14 s15 s16 s17)) s8 s9 s10 s11 s12 s13 s14 s15 s16 s17 := by kernel_rfl
theorem f83.s1_eq {R : Type} (L N : Nat) (κ : Ex → T → H → Option R) (rec : T → H → Option R) (s8 : LI) (s9 : Int) (s10 : Int) (s11 : LM) (s12 : Int) (s13 : Int) (s14 : LLM) (s15 : LM) (s16 : (List (Int × Bool))) (s17 : LI) :
    evRd (E83 L N) (evCallI (E83 L N) 1 2000) 1000 83 80 2 f83.c1 κ rec (f83.T1 s8 s9 s10 s11 s12 s13 s14 s15 s16 s17) (f83.H1 s8 s9 s10 s11 s12 s13 s14 s15 s16 s17)
    = f83.s1 L N (fun z18 z19 z20 z21 z22 z23 z24 => κ (.exit 2) (f83.T1_e2 z18 z19 z20 z21 z22 z23 z24) (f83.H1_e2 z18 z19 z20 z21 z22 z23 z24)) (fun s8 s9 s10 s11 s12 s13 s14 s15 s16 s17 => rec (f83.T1 s8 s9 s10 s11 s12 s13 s14 s15 s16 s17) (f83.H1 s8 s9 s10 s11 s12 s13 s14 s15 s16 s17)) s8 s9 s10 s11 s12 s13 s14 s15 s16 s17 := by
  rw [f83.s1_pre]
  unfold f83.s1
  rfl
theorem f83.l1_eq {R : Type} (L N : Nat) (κ : Ex → T → H → Option R) : ∀ (n : Nat) (s8 : LI) (s9 : Int) (s10 : Int) (s11 : LM) (s12 : Int) (s13 : Int) (s14 : LLM) (s15 : LM) (s16 : (List (Int × Bool))) (s17 : LI),
    evLp (E83 L N) (evCallI (E83 L N) 1 2000) 1000 83 80 2 f83.c1 κ n (f83.T1 s8 s9 s10 s11 s12 s13 s14 s15 s16 s17) (f83.H1 s8 s9 s10 s11 s12 s13 s14 s15 s16 s17)
    = f83.l1 L N (fun z18 z19 z20 z21 z22 z23 z24 => κ (.exit 2) (f83.T1_e2 z18 z19 z20 z21 z22 z23 z24) (f83.H1_e2 z18 z19 z20 z21 z22 z23 z24)) n s8 s9 s10 s11 s12 s13 s14 s15 s16 s17 := by
  intro n
  induction n with
  | zero => intros; rfl
  | succ n ih =>
    intro s8 s9 s10 s11 s12 s13 s14 s15 s16 s17
    rw [evLp_succ, f83.s1_eq]
    simp only [ih]
    rfl
theorem f83.p1_e2_pre {R : Type} (L N : Nat) (κ : Ex → T → H → Option R) (rec : T → H → Option R) (z18 : LI) (z19 : Int) (z20 : Int) (z21 : LLM) (z22 : LM) (z23 : (List (Int × Bool))) (z24 : LI) :
    (contAt (E83 L N) (evCallI (E83 L N) 1 2000) 1000 83 80 2 f83.c0 (stepK (outK (keepT 80 ((E83 L N).liveX 83 0).1) (keepH 1000 ((E83 L N).liveX 83 0).2) κ) fun t h => rec (backK 1000 80 ((E83 L N).live 83 0).1 ((E83 L N).live 83 0).2 ((E83 L N).heal 83 0) ((E83 L N).ren 83 0) t h).1 (backK 1000 80 ((E83 L N).live 83 0).1 ((E83 L N).live 83 0).2 ((E83 L N).heal 83 0) ((E83 L N).ren 83 0) t h).2)) (.exit 2) (f83.T1_e2 z18 z19 z20 z21 z22 z23 z24) (f83.H1_e2 z18 z19 z20 z21 z22 z23 z24)
    = f83.p1_e2' L N (fun z7 => κ (.exit 0) (f83.T0_e0 z7) (f83.H0_e0 z7)) (fun s0 s1 s2 s3 s4 s5 s6 => rec (f83.T0 s0 s1 s2 s3 s4 s5 s6) (f83.H0 s0 s1 s2 s3 s4 s5 s6)) z18 z19 z20 z21 z22 z23 z24 := by kernel_rfl
theorem f83.p1_e2_eq {R : Type} (L N : Nat) (κ : Ex → T → H → Option R) (rec : T → H → Option R) (z18 : LI) (z19 : Int) (z20 : Int) (z21 : LLM) (z22 : LM) (z23 : (List (Int × Bool))) (z24 : LI) :
    (contAt (E83 L N) (evCallI (E83 L N) 1 2000) 1000 83 80 2 f83.c0 (stepK (outK (keepT 80 ((E83 L N).liveX 83 0).1) (keepH 1000 ((E83 L N).liveX 83 0).2) κ) fun t h => rec (backK 1000 80 ((E83 L N).live 83 0).1 ((E83 L N).live 83 0).2 ((E83 L N).heal 83 0) ((E83 L N).ren 83 0) t h).1 (backK 1000 80 ((E83 L N).live 83 0).1 ((E83 L N).live 83 0).2 ((E83 L N).heal 83 0) ((E83 L N).ren 83 0) t h).2)) (.exit 2) (f83.T1_e2 z18 z19 z20 z21 z22 z23 z24) (f83.H1_e2 z18 z19 z20 z21 z22 z23 z24)
    = f83.p1_e2 L N (fun z7 => κ (.exit 0) (f83.T0_e0 z7) (f83.H0_e0 z7)) (fun s0 s1 s2 s3 s4 s5 s6 => rec (f83.T0 s0 s1 s2 s3 s4 s5 s6) (f83.H0 s0 s1 s2 s3 s4 s5 s6)) z18 z19 z20 z21 z22 z23 z24 := by
  rw [f83.p1_e2_pre]
  unfold f83.p1_e2
  rfl
theorem f83.s0_pre {R : Type} (L N : Nat) (κ : Ex → T → H → Option R) (rec : T → H → Option R) (s0 : LI) (s1 : Int) (s2 : Int) (s3 : LLM) (s4 : LM) (s5 : (List (Int × Bool))) (s6 : LI) :
    evRd (E83 L N) (evCallI (E83 L N) 1 2000) 1000 83 80 0 f83.c0 κ rec (f83.T0 s0 s1 s2 s3 s4 s5 s6) (f83.H0 s0 s1 s2 s3 s4 s5 s6)
    = f83.s0' L N (fun z7 => κ (.exit 0) (f83.T0_e0 z7) (f83.H0_e0 z7)) (fun s0 s1 s2 s3 s4 s5 s6 => rec (f83.T0 s0 s1 s2 s3 s4 s5 s6) (f83.H0 s0 s1 s2 s3 s4 s5 s6)) (fun s8 s9 s10 s11 s12 s13 s14 s15 s16 s17 => evLp (E83 L N) (evCallI (E83 L N) 1 2000) 1000 83 80 2 f83.c1 (contAt (E83 L N) (evCallI (E83 L N) 1 2000) 1000 83 80 2 f83.c0 (stepK (outK (keepT 80 ((E83 L N).liveX 83 0).1) (keepH 1000 ((E83 L N).liveX 83 0).2) κ) fun t h => rec (backK 1000 80 ((E83 L N).live 83 0).1 ((E83 L N).live 83 0).2 ((E83 L N).heal 83 0) ((E83 L N).ren 83 0) t h).1 (backK 1000 80 ((E83 L N).live 83 0).1 ((E83 L N).live 83 0).2 ((E83 L N).heal 83 0) ((E83 L N).ren 83 0) t h).2)) L (f83.T1 s8 s9 s10 s11 s12 s13 s14 s15 s16 s17) (f83.H1 s8 s9 s10 s11 s12 s13 s14 s15 s16 s17)) s0 s1 s2 s3 s4 s5 s6 := by kernel_rfl
theorem f83.s0_eq {R : Type} (L N : Nat) (κ : Ex → T → H → Option R) (rec : T → H → Option R) (s0 : LI) (s1 : Int) (s2 : Int) (s3 : LLM) (s4 : LM) (s5 : (List (Int × Bool))) (s6 : LI) :
    evRd (E83 L N) (evCallI (E83 L N) 1 2000) 1000 83 80 0 f83.c0 κ rec (f83.T0 s0 s1 s2 s3 s4 s5 s6) (f83.H0 s0 s1 s2 s3 s4 s5 s6)
    = f83.s0 L N (fun z7 => κ (.exit 0) (f83.T0_e0 z7) (f83.H0_e0 z7)) (fun s0 s1 s2 s3 s4 s5 s6 => rec (f83.T0 s0 s1 s2 s3 s4 s5 s6) (f83.H0 s0 s1 s2 s3 s4 s5 s6)) s0 s1 s2 s3 s4 s5 s6 := by
  rw [f83.s0_pre]
  unfold f83.s0
  simp only [f83.l1_eq, f83.p1_e2_eq]
theorem f83.l0_eq {R : Type} (L N : Nat) (κ : Ex → T → H → Option R) : ∀ (n : Nat) (s0 : LI) (s1 : Int) (s2 : Int) (s3 : LLM) (s4 : LM) (s5 : (List (Int × Bool))) (s6 : LI),
    evLp (E83 L N) (evCallI (E83 L N) 1 2000) 1000 83 80 0 f83.c0 κ n (f83.T0 s0 s1 s2 s3 s4 s5 s6) (f83.H0 s0 s1 s2 s3 s4 s5 s6)
    = f83.l0 L N (fun z7 => κ (.exit 0) (f83.T0_e0 z7) (f83.H0_e0 z7)) n s0 s1 s2 s3 s4 s5 s6 := by
  intro n
  induction n with
  | zero => intros; rfl
  | succ n ih =>
    intro s0 s1 s2 s3 s4 s5 s6
    rw [evLp_succ, f83.s0_eq]
    simp only [ih]
    rfl
theorem f83.p0_e0_pre {R : Type} (L N : Nat) (κ : AV → Option R) (z7 : LM) :
    (contAt (E83 L N) (evCallI (E83 L N) 1 2000) 1000 83 80 0 (codeOf Try.f83) (finK (E83 L N) 1000 Try.f83 (finC (.one (.sl (.st 0))) κ))) (.exit 0) (f83.T0_e0 z7) (f83.H0_e0 z7)
    = f83.p0_e0' L N (fun a0 => κ (.tv (.sl (.st 0)) a0)) z7 := by kernel_rfl
theorem f83.p0_e0_eq {R : Type} (L N : Nat) (κ : AV → Option R) (z7 : LM) :
    (contAt (E83 L N) (evCallI (E83 L N) 1 2000) 1000 83 80 0 (codeOf Try.f83) (finK (E83 L N) 1000 Try.f83 (finC (.one (.sl (.st 0))) κ))) (.exit 0) (f83.T0_e0 z7) (f83.H0_e0 z7)
    = f83.p0_e0 L N (fun a0 => κ (.tv (.sl (.st 0)) a0)) z7 := by
  rw [f83.p0_e0_pre]
  unfold f83.p0_e0
  rfl
theorem f83.b_pre {R : Type} (L N : Nat) (κ : AV → Option R) (x0 : Graph) (x1 : LI) (x2 : Int) :
    evBody (E83 L N) (evCallI (E83 L N) 1 2000) 1000 83 Try.f83 [(.tv (.st 2) x0), (.tv (.sl i64) x1), (.tv i64 x2)] [] [] (finC (.one (.sl (.st 0))) κ)
    = f83.b' L N (fun a0 => κ (.tv (.sl (.st 0)) a0)) (fun s0 s1 s2 s3 s4 s5 s6 => evLp (E83 L N) (evCallI (E83 L N) 1 2000) 1000 83 80 0 f83.c0 (contAt (E83 L N) (evCallI (E83 L N) 1 2000) 1000 83 80 0 (codeOf Try.f83) (finK (E83 L N) 1000 Try.f83 (finC (.one (.sl (.st 0))) κ))) L (f83.T0 s0 s1 s2 s3 s4 s5 s6) (f83.H0 s0 s1 s2 s3 s4 s5 s6)) x0 x1 x2 := by kernel_rfl
theorem f83.b_eq {R : Type} (L N : Nat) (κ : AV → Option R) (x0 : Graph) (x1 : LI) (x2 : Int) :
    evBody (E83 L N) (evCallI (E83 L N) 1 2000) 1000 83 Try.f83 [(.tv (.st 2) x0), (.tv (.sl i64) x1), (.tv i64 x2)] [] [] (finC (.one (.sl (.st 0))) κ)
    = f83.b L N (fun a0 => κ (.tv (.sl (.st 0)) a0)) x0 x1 x2 := by
  rw [f83.b_pre]
  unfold f83.b
  simp only [f83.l0_eq, f83.p0_e0_eq]
theorem f83.j0'_nat {R R' : Type} (j : R → Option R') (L N : Nat) (k1_e2 : LI → Int → Int → LLM → LM → (List (Int × Bool)) → LI → Option R) (rec1 : LI → Int → Int → LM → Int → Int → LLM → LM → (List (Int × Bool)) → LI → Option R) (v25 : LI) (v26 : Int) (v27 : Int) (v28 : LM) (v29 : Int) (v30 : Int) (v31 : Bool) (v32 : LLM) (v33 : Int) (v34 : Int) (v35 : LM) (v36 : (List (Int × Bool))) (v37 : LI) :
    f83.j0' L N (fun a0 a1 a2 a3 a4 a5 a6 => (k1_e2 a0 a1 a2 a3 a4 a5 a6).bind j) (fun a0 a1 a2 a3 a4 a5 a6 a7 a8 a9 => (rec1 a0 a1 a2 a3 a4 a5 a6 a7 a8 a9).bind j) v25 v26 v27 v28 v29 v30 v31 v32 v33 v34 v35 v36 v37 = (f83.j0' L N k1_e2 rec1 v25 v26 v27 v28 v29 v30 v31 v32 v33 v34 v35 v36 v37).bind j := by
  unfold f83.j0'
  repeat' (first | (with_reducible refine cond_nat ?_ ?_) | (with_reducible refine bind_nat fun _ => ?_) | rfl)
theorem f83.s1'_nat {R R' : Type} (j : R → Option R') (L N : Nat) (k1_e2 : LI → Int → Int → LLM → LM → (List (Int × Bool)) → LI → Option R) (rec1 : LI → Int → Int → LM → Int → Int → LLM → LM → (List (Int × Bool)) → LI → Option R) (s8 : LI) (s9 : Int) (s10 : Int) (s11 : LM) (s12 : Int) (s13 : Int) (s14 : LLM) (s15 : LM) (s16 : (List (Int × Bool))) (s17 : LI) :
    f83.s1' L N (fun a0 a1 a2 a3 a4 a5 a6 => (k1_e2 a0 a1 a2 a3 a4 a5 a6).bind j) (fun a0 a1 a2 a3 a4 a5 a6 a7 a8 a9 => (rec1 a0 a1 a2 a3 a4 a5 a6 a7 a8 a9).bind j) s8 s9 s10 s11 s12 s13 s14 s15 s16 s17 = (f83.s1' L N k1_e2 rec1 s8 s9 s10 s11 s12 s13 s14 s15 s16 s17).bind j := by
  unfold f83.s1'
  repeat' (first | (with_reducible refine cond_nat ?_ ?_) | (with_reducible refine bind_nat fun _ => ?_) | exact f83.j0'_nat .. | rfl)
theorem f83.s1_nat {R R' : Type} (j : R → Option R') (L N : Nat) (k1_e2 : LI → Int → Int → LLM → LM → (List (Int × Bool)) → LI → Option R) (rec1 : LI → Int → Int → LM → Int → Int → LLM → LM → (List (Int × Bool)) → LI → Option R) (s8 : LI) (s9 : Int) (s10 : Int) (s11 : LM) (s12 : Int) (s13 : Int) (s14 : LLM) (s15 : LM) (s16 : (List (Int × Bool))) (s17 : LI) :
    f83.s1 L N (fun a0 a1 a2 a3 a4 a5 a6 => (k1_e2 a0 a1 a2 a3 a4 a5 a6).bind j) (fun a0 a1 a2 a3 a4 a5 a6 a7 a8 a9 => (rec1 a0 a1 a2 a3 a4 a5 a6 a7 a8 a9).bind j) s8 s9 s10 s11 s12 s13 s14 s15 s16 s17 = (f83.s1 L N k1_e2 rec1 s8 s9 s10 s11 s12 s13 s14 s15 s16 s17).bind j := by
  unfold f83.s1
  exact f83.s1'_nat ..
theorem f83.l1_nat {R R' : Type} (j : R → Option R') (L N : Nat) (k1_e2 : LI → Int → Int → LLM → LM → (List (Int × Bool)) → LI → Option R) : ∀ (n : Nat) (s8 : LI) (s9 : Int) (s10 : Int) (s11 : LM) (s12 : Int) (s13 : Int) (s14 : LLM) (s15 : LM) (s16 : (List (Int × Bool))) (s17 : LI),
    f83.l1 L N (fun a0 a1 a2 a3 a4 a5 a6 => (k1_e2 a0 a1 a2 a3 a4 a5 a6).bind j) n s8 s9 s10 s11 s12 s13 s14 s15 s16 s17 = (f83.l1 L N k1_e2 n s8 s9 s10 s11 s12 s13 s14 s15 s16 s17).bind j := by
  intro n
  induction n with
  | zero => intros; rfl
  | succ n ih =>
    intro s8 s9 s10 s11 s12 s13 s14 s15 s16 s17
    show f83.s1 L N (fun a0 a1 a2 a3 a4 a5 a6 => (k1_e2 a0 a1 a2 a3 a4 a5 a6).bind j) (f83.l1 L N (fun a0 a1 a2 a3 a4 a5 a6 => (k1_e2 a0 a1 a2 a3 a4 a5 a6).bind j) n) s8 s9 s10 s11 s12 s13 s14 s15 s16 s17 = _
    rw [show f83.l1 L N (fun a0 a1 a2 a3 a4 a5 a6 => (k1_e2 a0 a1 a2 a3 a4 a5 a6).bind j) n = (fun s8 s9 s10 s11 s12 s13 s14 s15 s16 s17 => (f83.l1 L N k1_e2 n s8 s9 s10 s11 s12 s13 s14 s15 s16 s17).bind j) from funext fun s8 => funext fun s9 => funext fun s10 => funext fun s11 => funext fun s12 => funext fun s13 => funext fun s14 => funext fun s15 => funext fun s16 => funext fun s17 => ih s8 s9 s10 s11 s12 s13 s14 s15 s16 s17]
    exact f83.s1_nat ..
theorem f83.p1_e2'_nat {R R' : Type} (j : R → Option R') (L N : Nat) (k0_e0 : LM → Option R) (rec0 : LI → Int → Int → LLM → LM → (List (Int × Bool)) → LI → Option R) (z18 : LI) (z19 : Int) (z20 : Int) (z21 : LLM) (z22 : LM) (z23 : (List (Int × Bool))) (z24 : LI) :
    f83.p1_e2' L N (fun a0 => (k0_e0 a0).bind j) (fun a0 a1 a2 a3 a4 a5 a6 => (rec0 a0 a1 a2 a3 a4 a5 a6).bind j) z18 z19 z20 z21 z22 z23 z24 = (f83.p1_e2' L N k0_e0 rec0 z18 z19 z20 z21 z22 z23 z24).bind j := by
  unfold f83.p1_e2'
  repeat' (first | (with_reducible refine cond_nat ?_ ?_) | (with_reducible refine bind_nat fun _ => ?_) | rfl)
theorem f83.p1_e2_nat {R R' : Type} (j : R → Option R') (L N : Nat) (k0_e0 : LM → Option R) (rec0 : LI → Int → Int → LLM → LM → (List (Int × Bool)) → LI → Option R) (z18 : LI) (z19 : Int) (z20 : Int) (z21 : LLM) (z22 : LM) (z23 : (List (Int × Bool))) (z24 : LI) :
    f83.p1_e2 L N (fun a0 => (k0_e0 a0).bind j) (fun a0 a1 a2 a3 a4 a5 a6 => (rec0 a0 a1 a2 a3 a4 a5 a6).bind j) z18 z19 z20 z21 z22 z23 z24 = (f83.p1_e2 L N k0_e0 rec0 z18 z19 z20 z21 z22 z23 z24).bind j := by
  unfold f83.p1_e2
  exact f83.p1_e2'_nat ..
theorem f83.s0'_nat {R R' : Type} (j : R → Option R') (L N : Nat) (k0_e0 : LM → Option R) (rec0 : LI → Int → Int → LLM → LM → (List (Int × Bool)) → LI → Option R) (w1 : LI → Int → Int → LM → Int → Int → LLM → LM → (List (Int × Bool)) → LI → Option R) (s0 : LI) (s1 : Int) (s2 : Int) (s3 : LLM) (s4 : LM) (s5 : (List (Int × Bool))) (s6 : LI) :
    f83.s0' L N (fun a0 => (k0_e0 a0).bind j) (fun a0 a1 a2 a3 a4 a5 a6 => (rec0 a0 a1 a2 a3 a4 a5 a6).bind j) (fun a0 a1 a2 a3 a4 a5 a6 a7 a8 a9 => (w1 a0 a1 a2 a3 a4 a5 a6 a7 a8 a9).bind j) s0 s1 s2 s3 s4 s5 s6 = (f83.s0' L N k0_e0 rec0 w1 s0 s1 s2 s3 s4 s5 s6).bind j := by
  unfold f83.s0'
  repeat' (first | (with_reducible refine cond_nat ?_ ?_) | (with_reducible refine bind_nat fun _ => ?_) | rfl)
theorem f83.s0_nat {R R' : Type} (j : R → Option R') (L N : Nat) (k0_e0 : LM → Option R) (rec0 : LI → Int → Int → LLM → LM → (List (Int × Bool)) → LI → Option R) (s0 : LI) (s1 : Int) (s2 : Int) (s3 : LLM) (s4 : LM) (s5 : (List (Int × Bool))) (s6 : LI) :
    f83.s0 L N (fun a0 => (k0_e0 a0).bind j) (fun a0 a1 a2 a3 a4 a5 a6 => (rec0 a0 a1 a2 a3 a4 a5 a6).bind j) s0 s1 s2 s3 s4 s5 s6 = (f83.s0 L N k0_e0 rec0 s0 s1 s2 s3 s4 s5 s6).bind j := by
  unfold f83.s0
  simp only [f83.l1_nat, f83.p1_e2_nat]
  exact f83.s0'_nat ..
theorem f83.l0_nat {R R' : Type} (j : R → Option R') (L N : Nat) (k0_e0 : LM → Option R) : ∀ (n : Nat) (s0 : LI) (s1 : Int) (s2 : Int) (s3 : LLM) (s4 : LM) (s5 : (List (Int × Bool))) (s6 : LI),
    f83.l0 L N (fun a0 => (k0_e0 a0).bind j) n s0 s1 s2 s3 s4 s5 s6 = (f83.l0 L N k0_e0 n s0 s1 s2 s3 s4 s5 s6).bind j := by
  intro n
  induction n with
  | zero => intros; rfl
  | succ n ih =>
    intro s0 s1 s2 s3 s4 s5 s6
    show f83.s0 L N (fun a0 => (k0_e0 a0).bind j) (f83.l0 L N (fun a0 => (k0_e0 a0).bind j) n) s0 s1 s2 s3 s4 s5 s6 = _
    rw [show f83.l0 L N (fun a0 => (k0_e0 a0).bind j) n = (fun s0 s1 s2 s3 s4 s5 s6 => (f83.l0 L N k0_e0 n s0 s1 s2 s3 s4 s5 s6).bind j) from funext fun s0 => funext fun s1 => funext fun s2 => funext fun s3 => funext fun s4 => funext fun s5 => funext fun s6 => ih s0 s1 s2 s3 s4 s5 s6]
    exact f83.s0_nat ..
theorem f83.p0_e0'_nat {R R' : Type} (j : R → Option R') (L N : Nat) (k : LM → Option R) (z7 : LM) :
    f83.p0_e0' L N (fun a0 => (k a0).bind j) z7 = (f83.p0_e0' L N k z7).bind j := by
  unfold f83.p0_e0'
  repeat' (first | (with_reducible refine cond_nat ?_ ?_) | (with_reducible refine bind_nat fun _ => ?_) | rfl)
theorem f83.p0_e0_nat {R R' : Type} (j : R → Option R') (L N : Nat) (k : LM → Option R) (z7 : LM) :
    f83.p0_e0 L N (fun a0 => (k a0).bind j) z7 = (f83.p0_e0 L N k z7).bind j := by
  unfold f83.p0_e0
  exact f83.p0_e0'_nat ..
theorem f83.b'_nat {R R' : Type} (j : R → Option R') (L N : Nat) (k : LM → Option R) (w0 : LI → Int → Int → LLM → LM → (List (Int × Bool)) → LI → Option R) (x0 : Graph) (x1 : LI) (x2 : Int) :
    f83.b' L N (fun a0 => (k a0).bind j) (fun a0 a1 a2 a3 a4 a5 a6 => (w0 a0 a1 a2 a3 a4 a5 a6).bind j) x0 x1 x2 = (f83.b' L N k w0 x0 x1 x2).bind j := by
  unfold f83.b'
  repeat' (first | (with_reducible refine cond_nat ?_ ?_) | (with_reducible refine bind_nat fun _ => ?_) | rfl)
theorem f83.b_nat {R R' : Type} (j : R → Option R') (L N : Nat) (k : LM → Option R) (x0 : Graph) (x1 : LI) (x2 : Int) :
    f83.b L N (fun a0 => (k a0).bind j) x0 x1 x2 = (f83.b L N k x0 x1 x2).bind j := by
  unfold f83.b
  simp only [f83.l0_nat, f83.p0_e0_nat]
  exact f83.b'_nat ..
theorem f83.ok (L N : Nat) (hΦ : TellsOk Try.prog ((Φ142 L N))) : EntOk Try.prog 83 (f83.ent L N) := by
  intro args vw site h
  unfold f83.ent
  split
  · rename_i d u ha
    intro y hy hs
    refine call_data (dep := 1000) (E := (E83 L N)) (rs := (.one (.sl (.st 0)))) (v' := (.tv (.sl (.st 0)) y)) (sound_of hΦ) okP (callI_sound (sound_of hΦ) okP 1 2000) (f := Try.f83) rfl hs ha ?_ site
    refine (f83.b_eq L N some d.1 d.2.1 d.2.2.1).trans ?_
    refine ((f83.b_nat (fun y => (some (.tv (.sl (.st 0)) y) : Option AV)) L N some d.1 d.2.1 d.2.2.1)).trans ?_
    rw [show f83.b L N some d.1 d.2.1 d.2.2.1 = some y from hy]
    rfl
  · intro y hy
    cases hy
def Φ83 (L N : Nat) : Tells := (addT (Φ142 L N) 83 (f83.ent L N))
theorem Φ83_ok (L N : Nat) : TellsOk Try.prog (Φ83 L N) := addT_ok (Φ142_ok L N) (f83.ok L N (Φ142_ok L N))
def f82_1.b' {R : Type} (L N : Nat) (k : LM → Option R) (x0 : LI) (x1 : Int) (x2 : LLM) : Option R :=
  (f83 L N (Graph.mk x2) x0 x1).bind fun y0 =>
  k y0
def f82_1.b {R : Type} (L N : Nat) (k : LM → Option R) (x0 : LI) (x1 : Int) (x2 : LLM) : Option R :=
  f82_1.b' L N k x0 x1 x2
def f82_1 (L N : Nat) (x0 : LI) (x1 : Int) (x2 : LLM) : Option (LM) := f82_1.b L N some x0 x1 x2
def f82_1.ent (L N : Nat) (args : List AV) (vw : View) (site : Nat) : Option Ans := match shsC [(.dat (.sl i64)), (.dat i64), (.imp (.sl (.sl (.st 0))) 0)] vw args with
  | some (d, u) => some ⟨LM, f82_1 L N d.1 d.2.1 d.2.2.1, fun y => ((.tv (.sl (.st 0)) y), u, [])⟩
  | none => none
noncomputable def E82_1 (L N : Nat) : Env := { P := Try.prog, ty := tyOf, Φ := (Φ83 L N), inl := inlT, live := lives, liveX := livesX, L := L, dp := none, prom := promT, heal := healT, ren := renT }
theorem f82_1.b_pre {R : Type} (L N : Nat) (κ : AV → Option R) (x0 : LI) (x1 : Int) (x2 : LLM) :
    evBody (E82_1 L N) (evCallI (E82_1 L N) 1 2000) 1000 82 Try.f82 [(.tv (.sl i64) x0), (.tv i64 x1), (.imp (.sl (.sl (.st 0))) x2 0)] [] [] (finC (.one (.sl (.st 0))) κ)
    = f82_1.b' L N (fun a0 => κ (.tv (.sl (.st 0)) a0)) x0 x1 x2 := by kernel_rfl
theorem f82_1.b_eq {R : Type} (L N : Nat) (κ : AV → Option R) (x0 : LI) (x1 : Int) (x2 : LLM) :
    evBody (E82_1 L N) (evCallI (E82_1 L N) 1 2000) 1000 82 Try.f82 [(.tv (.sl i64) x0), (.tv i64 x1), (.imp (.sl (.sl (.st 0))) x2 0)] [] [] (finC (.one (.sl (.st 0))) κ)
    = f82_1.b L N (fun a0 => κ (.tv (.sl (.st 0)) a0)) x0 x1 x2 := by
  rw [f82_1.b_pre]
  unfold f82_1.b
  rfl
theorem f82_1.b'_nat {R R' : Type} (j : R → Option R') (L N : Nat) (k : LM → Option R) (x0 : LI) (x1 : Int) (x2 : LLM) :
    f82_1.b' L N (fun a0 => (k a0).bind j) x0 x1 x2 = (f82_1.b' L N k x0 x1 x2).bind j := by
  unfold f82_1.b'
  repeat' (first | (with_reducible refine cond_nat ?_ ?_) | (with_reducible refine bind_nat fun _ => ?_) | rfl)
theorem f82_1.b_nat {R R' : Type} (j : R → Option R') (L N : Nat) (k : LM → Option R) (x0 : LI) (x1 : Int) (x2 : LLM) :
    f82_1.b L N (fun a0 => (k a0).bind j) x0 x1 x2 = (f82_1.b L N k x0 x1 x2).bind j := by
  unfold f82_1.b
  exact f82_1.b'_nat ..
theorem f82_1.ok (L N : Nat) (hΦ : TellsOk Try.prog ((Φ83 L N))) : EntOkO Try.prog 82 (f82_1.ent L N) := by
  intro args vw site h a ha
  unfold f82_1.ent at ha
  split at ha
  · rename_i d u hd
    obtain rfl := Option.some.inj ha
    intro y hy hs
    refine call_dof (dep := 1000) (E := (E82_1 L N)) (rs := (.one (.sl (.st 0)))) (v' := (.tv (.sl (.st 0)) y)) (sound_of hΦ) okP (callI_sound (sound_of hΦ) okP 1 2000) (f := Try.f82) rfl hs hd ?_ site
    refine (f82_1.b_eq L N some d.1 d.2.1 d.2.2.1).trans ?_
    refine (f82_1.b_nat (fun y => (some (.tv (.sl (.st 0)) y) : Option AV)) L N some d.1 d.2.1 d.2.2.1).trans ?_
    rw [show f82_1.b L N some d.1 d.2.1 d.2.2.1 = some y from hy]
    rfl
  · cases ha
def Φ82_1 (L N : Nat) : Tells := (addO (Φ83 L N) 82 (f82_1.ent L N))
theorem Φ82_1_ok (L N : Nat) : TellsOk Try.prog (Φ82_1 L N) := addO_ok (Φ83_ok L N) (f82_1.ok L N (Φ83_ok L N))
def f118_1.b' {R : Type} (L N : Nat) (k : LM → Option R) (x0 : Int) (x1 : LLM) (x2 : LI) : Option R :=
  (f82_1 L N x2 x0 x1).bind fun y0 =>
  k y0
def f118_1.b {R : Type} (L N : Nat) (k : LM → Option R) (x0 : Int) (x1 : LLM) (x2 : LI) : Option R :=
  f118_1.b' L N k x0 x1 x2
def f118_1 (L N : Nat) (x0 : Int) (x1 : LLM) (x2 : LI) : Option (LM) := f118_1.b L N some x0 x1 x2
def f118_1.ent (L N : Nat) (args : List AV) (vw : View) (site : Nat) : Option Ans := match shsC [(.dat i64), (.pfn 82 [(.imp (.sl (.sl (.st 0))) 0)]), (.imp (.sl i64) 0)] vw args with
  | some (d, u) => some ⟨LM, f118_1 L N d.1 d.2.1.1 d.2.2.1, fun y => ((.tv (.sl (.st 0)) y), u, [])⟩
  | none => none
noncomputable def E118_1 (L N : Nat) : Env := { P := Try.prog, ty := tyOf, Φ := (Φ82_1 L N), inl := inlT, live := lives, liveX := livesX, L := L, dp := none, prom := promT, heal := healT, ren := renT }
theorem f118_1.b_pre {R : Type} (L N : Nat) (κ : AV → Option R) (x0 : Int) (x1 : LLM) (x2 : LI) :
    evBody (E118_1 L N) (evCallI (E118_1 L N) 1 2000) 1000 118 Try.f118 [(.tv i64 x0), (.imf 82 [(.imp (.sl (.sl (.st 0))) x1 0)]), (.imp (.sl i64) x2 0)] [] [] (finC (.one (.sl (.st 0))) κ)
    = f118_1.b' L N (fun a0 => κ (.tv (.sl (.st 0)) a0)) x0 x1 x2 := by kernel_rfl
theorem f118_1.b_eq {R : Type} (L N : Nat) (κ : AV → Option R) (x0 : Int) (x1 : LLM) (x2 : LI) :
    evBody (E118_1 L N) (evCallI (E118_1 L N) 1 2000) 1000 118 Try.f118 [(.tv i64 x0), (.imf 82 [(.imp (.sl (.sl (.st 0))) x1 0)]), (.imp (.sl i64) x2 0)] [] [] (finC (.one (.sl (.st 0))) κ)
    = f118_1.b L N (fun a0 => κ (.tv (.sl (.st 0)) a0)) x0 x1 x2 := by
  rw [f118_1.b_pre]
  unfold f118_1.b
  rfl
theorem f118_1.b'_nat {R R' : Type} (j : R → Option R') (L N : Nat) (k : LM → Option R) (x0 : Int) (x1 : LLM) (x2 : LI) :
    f118_1.b' L N (fun a0 => (k a0).bind j) x0 x1 x2 = (f118_1.b' L N k x0 x1 x2).bind j := by
  unfold f118_1.b'
  repeat' (first | (with_reducible refine cond_nat ?_ ?_) | (with_reducible refine bind_nat fun _ => ?_) | rfl)
theorem f118_1.b_nat {R R' : Type} (j : R → Option R') (L N : Nat) (k : LM → Option R) (x0 : Int) (x1 : LLM) (x2 : LI) :
    f118_1.b L N (fun a0 => (k a0).bind j) x0 x1 x2 = (f118_1.b L N k x0 x1 x2).bind j := by
  unfold f118_1.b
  exact f118_1.b'_nat ..
theorem f118_1.ok (L N : Nat) (hΦ : TellsOk Try.prog ((Φ82_1 L N))) : EntOkO Try.prog 118 (f118_1.ent L N) := by
  intro args vw site h a ha
  unfold f118_1.ent at ha
  split at ha
  · rename_i d u hd
    obtain rfl := Option.some.inj ha
    intro y hy hs
    refine call_dof (dep := 1000) (E := (E118_1 L N)) (rs := (.one (.sl (.st 0)))) (v' := (.tv (.sl (.st 0)) y)) (sound_of hΦ) okP (callI_sound (sound_of hΦ) okP 1 2000) (f := Try.f118) rfl hs hd ?_ site
    refine (f118_1.b_eq L N some d.1 d.2.1.1 d.2.2.1).trans ?_
    refine (f118_1.b_nat (fun y => (some (.tv (.sl (.st 0)) y) : Option AV)) L N some d.1 d.2.1.1 d.2.2.1).trans ?_
    rw [show f118_1.b L N some d.1 d.2.1.1 d.2.2.1 = some y from hy]
    rfl
  · cases ha
def Φ118_1 (L N : Nat) : Tells := (addO (Φ82_1 L N) 118 (f118_1.ent L N))
theorem Φ118_1_ok (L N : Nat) : TellsOk Try.prog (Φ118_1 L N) := addO_ok (Φ82_1_ok L N) (f118_1.ok L N (Φ82_1_ok L N))
def f117_1.j0' {R : Type} (L N : Nat) (k1_e2 : LI → LLM → LI → Int → Int → LI → LLM → Option R) (rec1 : LI → LLM → LI → Int → Int → Int → Int → LI → LLM → Option R) (v26 : LI) (v27 : LLM) (v28 : LI) (v29 : Int) (v30 : Int) (v31 : Int) (v32 : Int) (v33 : Bool) (v34 : LI) (v35 : LLM) : Option R :=
  bif v33 then
    bif (decide (0 ≤ v29) && decide (v29 < (v34.length : Int))) then
      k1_e2 v26 v27 v28 v31 v32 (v34.set v29.toNat v30) v35
    else none
  else rec1 v26 v27 v28 v29 (wi (v30 + (1 : Int))) v31 v32 v34 v35
def f117_1.s1' {R : Type} (L N : Nat) (k1_e2 : LI → LLM → LI → Int → Int → LI → LLM → Option R) (rec1 : LI → LLM → LI → Int → Int → Int → Int → LI → LLM → Option R) (s9 : LI) (s10 : LLM) (s11 : LI) (s12 : Int) (s13 : Int) (s14 : Int) (s15 : Int) (s16 : LI) (s17 : LLM) : Option R :=
  bif (decide (s13 < s12)) then
    bif (decide (0 ≤ s13) && decide (s13 < (s9.length : Int))) then
      bif (decide (0 ≤ s12) && decide (s12 < (s9.length : Int))) then
        bif ((listAt s9 (0 : Int) s13.toNat) == (listAt s9 (0 : Int) s12.toNat)) then
          bif (decide (0 ≤ s13) && decide (s13 < (s17.length : Int))) then
            bif (decide (0 ≤ s12) && decide (s12 < (s17.length : Int))) then
              (f142 L N (listAt s17 [] s13.toNat) (listAt s17 [] s12.toNat)).bind fun y25 =>
              f117_1.j0' L N k1_e2 rec1 s9 s10 s11 s12 s13 s14 s15 y25 s16 s17
            else none
          else none
        else f117_1.j0' L N k1_e2 rec1 s9 s10 s11 s12 s13 s14 s15 false s16 s17
      else none
    else none
  else k1_e2 s9 s10 s11 s14 s15 s16 s17
def f117_1.s1 {R : Type} (L N : Nat) (k1_e2 : LI → LLM → LI → Int → Int → LI → LLM → Option R) (rec1 : LI → LLM → LI → Int → Int → Int → Int → LI → LLM → Option R) (s9 : LI) (s10 : LLM) (s11 : LI) (s12 : Int) (s13 : Int) (s14 : Int) (s15 : Int) (s16 : LI) (s17 : LLM) : Option R :=
  f117_1.s1' L N k1_e2 rec1 s9 s10 s11 s12 s13 s14 s15 s16 s17
def f117_1.l1 {R : Type} (L N : Nat) (k1_e2 : LI → LLM → LI → Int → Int → LI → LLM → Option R) : Nat → LI → LLM → LI → Int → Int → Int → Int → LI → LLM → Option R
  | 0, _, _, _, _, _, _, _, _, _ => none
  | n + 1, s9, s10, s11, s12, s13, s14, s15, s16, s17 => f117_1.s1 L N k1_e2 (f117_1.l1 L N k1_e2 n) s9 s10 s11 s12 s13 s14 s15 s16 s17
def f117_1.T1 (s9 : LI) (s10 : LLM) (s11 : LI) (s12 : Int) (s13 : Int) (s14 : Int) (s15 : Int) (s16 : LI) (s17 : LLM) : T := mkT 61 [(0, (.tv (.sl i64) s9)), (1, (.fn 118 [(.imf 82 [(.imp (.sl (.sl (.st 0))) s10 0)]), (.imp (.sl i64) s11 0)])), (5, (.row 1011)), (6, (.row 1014)), (7, (.tv i64 s12)), (8, (.tv i64 s13)), (16, (.tv i64 s14)), (17, (.tv i64 s15))]
def f117_1.H1 (s9 : LI) (s10 : LLM) (s11 : LI) (s12 : Int) (s13 : Int) (s14 : Int) (s15 : Int) (s16 : LI) (s17 : LLM) : H := [(1011, (.row 3 i64 s16)), (1014, (.row 51 (.sl (.st 0)) s17))]
def f117_1.T1_e2 (z18 : LI) (z19 : LLM) (z20 : LI) (z21 : Int) (z22 : Int) (z23 : LI) (z24 : LLM) : T := mkT 61 [(0, (.tv (.sl i64) z18)), (1, (.fn 118 [(.imf 82 [(.imp (.sl (.sl (.st 0))) z19 0)]), (.imp (.sl i64) z20 0)])), (5, (.row 1011)), (6, (.row 1014)), (16, (.tv i64 z21)), (17, (.tv i64 z22))]
def f117_1.H1_e2 (z18 : LI) (z19 : LLM) (z20 : LI) (z21 : Int) (z22 : Int) (z23 : LI) (z24 : LLM) : H := [(1011, (.row 3 i64 z23)), (1014, (.row 51 (.sl (.st 0)) z24))]
def f117_1.p1_e2' {R : Type} (L N : Nat) (k0_e0 : LI → Option R) (rec0 : LI → LLM → LI → Int → Int → LI → LLM → Option R) (z18 : LI) (z19 : LLM) (z20 : LI) (z21 : Int) (z22 : Int) (z23 : LI) (z24 : LLM) : Option R :=
  rec0 z18 z19 z20 z21 (wi (z22 + (1 : Int))) z23 z24
def f117_1.p1_e2 {R : Type} (L N : Nat) (k0_e0 : LI → Option R) (rec0 : LI → LLM → LI → Int → Int → LI → LLM → Option R) (z18 : LI) (z19 : LLM) (z20 : LI) (z21 : Int) (z22 : Int) (z23 : LI) (z24 : LLM) : Option R :=
  f117_1.p1_e2' L N k0_e0 rec0 z18 z19 z20 z21 z22 z23 z24
def f117_1.s0' {R : Type} (L N : Nat) (k0_e0 : LI → Option R) (rec0 : LI → LLM → LI → Int → Int → LI → LLM → Option R) (w1 : LI → LLM → LI → Int → Int → Int → Int → LI → LLM → Option R) (s0 : LI) (s1 : LLM) (s2 : LI) (s3 : Int) (s4 : Int) (s5 : LI) (s6 : LLM) : Option R :=
  bif (decide (s4 < s3)) then
    (f118_1 L N s4 s1 s2).bind fun y8 =>
    bif (decide (0 ≤ s4) && decide (s4 < (s6.length : Int))) then
      bif (decide (0 ≤ s4) && decide (s4 < (s5.length : Int))) then
        w1 s0 s1 s2 s4 (0 : Int) s3 s4 (s5.set s4.toNat s4) (s6.set s4.toNat y8)
      else none
    else none
  else k0_e0 s5
def f117_1.s0 {R : Type} (L N : Nat) (k0_e0 : LI → Option R) (rec0 : LI → LLM → LI → Int → Int → LI → LLM → Option R) (s0 : LI) (s1 : LLM) (s2 : LI) (s3 : Int) (s4 : Int) (s5 : LI) (s6 : LLM) : Option R :=
  f117_1.s0' L N k0_e0 rec0 (fun s9 s10 s11 s12 s13 s14 s15 s16 s17 => f117_1.l1 L N (fun z18 z19 z20 z21 z22 z23 z24 => f117_1.p1_e2 L N k0_e0 rec0 z18 z19 z20 z21 z22 z23 z24) L s9 s10 s11 s12 s13 s14 s15 s16 s17) s0 s1 s2 s3 s4 s5 s6
def f117_1.l0 {R : Type} (L N : Nat) (k0_e0 : LI → Option R) : Nat → LI → LLM → LI → Int → Int → LI → LLM → Option R
  | 0, _, _, _, _, _, _, _ => none
  | n + 1, s0, s1, s2, s3, s4, s5, s6 => f117_1.s0 L N k0_e0 (f117_1.l0 L N k0_e0 n) s0 s1 s2 s3 s4 s5 s6
def f117_1.T0 (s0 : LI) (s1 : LLM) (s2 : LI) (s3 : Int) (s4 : Int) (s5 : LI) (s6 : LLM) : T := mkT 61 [(0, (.tv (.sl i64) s0)), (1, (.fn 118 [(.imf 82 [(.imp (.sl (.sl (.st 0))) s1 0)]), (.imp (.sl i64) s2 0)])), (5, (.row 1011)), (6, (.row 1014)), (16, (.tv i64 s3)), (17, (.tv i64 s4))]
def f117_1.H0 (s0 : LI) (s1 : LLM) (s2 : LI) (s3 : Int) (s4 : Int) (s5 : LI) (s6 : LLM) : H := [(1011, (.row 3 i64 s5)), (1014, (.row 51 (.sl (.st 0)) s6))]
def f117_1.T0_e0 (z7 : LI) : T := mkT 61 [(5, (.row 1011))]
def f117_1.H0_e0 (z7 : LI) : H := [(1011, (.row 3 i64 z7))]
def f117_1.p0_e0' {R : Type} (L N : Nat) (k : LI → Option R) (z7 : LI) : Option R :=
  k z7
def f117_1.p0_e0 {R : Type} (L N : Nat) (k : LI → Option R) (z7 : LI) : Option R :=
  f117_1.p0_e0' L N k z7
def f117_1.b' {R : Type} (L N : Nat) (k : LI → Option R) (w0 : LI → LLM → LI → Int → Int → LI → LLM → Option R) (x0 : LI) (x1 : LLM) (x2 : LI) : Option R :=
  bif (decide (0 ≤ (x0.length : Int)) && decide ((x0.length : Int) ≤ (lim : Int))) then
    bif (decide (0 ≤ (x0.length : Int)) && decide ((x0.length : Int) ≤ (lim : Int))) then
      w0 x0 x1 x2 (x0.length : Int) (0 : Int) (List.replicate (x0.length : Int).toNat (0 : Int)) (List.replicate (x0.length : Int).toNat [])
    else none
  else none
def f117_1.b {R : Type} (L N : Nat) (k : LI → Option R) (x0 : LI) (x1 : LLM) (x2 : LI) : Option R :=
  f117_1.b' L N k (fun s0 s1 s2 s3 s4 s5 s6 => f117_1.l0 L N (fun z7 => f117_1.p0_e0 L N k z7) L s0 s1 s2 s3 s4 s5 s6) x0 x1 x2
def f117_1 (L N : Nat) (x0 : LI) (x1 : LLM) (x2 : LI) : Option (LI) := f117_1.b L N some x0 x1 x2
def f117_1.ent (L N : Nat) (args : List AV) (vw : View) (site : Nat) : Option Ans := match shD [(.dat (.sl i64)), (.fn 118 [(.pfn 82 [(.imp (.sl (.sl (.st 0))) 0)]), (.imp (.sl i64) 0)])] vw args with
  | some d => some ⟨LI, f117_1 L N d.1 d.2.1.1.1 d.2.1.2.1, fun y => (RN.av site .row (), [(site, some (mkO none 3 i64 y))], [])⟩
  | none => none
noncomputable def E117_1 (L N : Nat) : Env := { P := Try.prog, ty := tyOf, Φ := (Φ118_1 L N), inl := inlT, live := lives, liveX := livesX, L := L, dp := none, prom := promT, heal := healT, ren := renT }
noncomputable def f117_1.c0 : Code := loopAt 0 (codeOf Try.f117)
noncomputable def f117_1.c1 : Code := loopAt 2 f117_1.c0
theorem f117_1.s1_pre {R : Type} (L N : Nat) (κ : Ex → T → H → Option R) (rec : T → H → Option R) (s9 : LI) (s10 : LLM) (s11 : LI) (s12 : Int) (s13 : Int) (s14 : Int) (s15 : Int) (s16 : LI) (s17 : LLM) :
    evRd (E117_1 L N) (evCallI (E117_1 L N) 1 2000) 1000 117 61 2 f117_1.c1 κ rec (f117_1.T1 s9 s10 s11 s12 s13 s14 s15 s16 s17) (f117_1.H1 s9 s10 s11 s12 s13 s14 s15 s16 s17)
    = f117_1.s1' L N (fun z18 z19 z20 z21 z22 z23 z24 => κ (.exit 2) (f117_1.T1_e2 z18 z19 z20 z21 z22 z23 z24) (f117_1.H1_e2 z18 z19 z20 z21 z22 z23 z24)) (fun s9 s10 s11 s12 s13 s14 s15 s16 s17 => rec (f117_1.T1 s9 s10 s11 s12 s13 s14 s15 s16 s17) (f117_1.H1 s9 s10 s11 s12 s13 s14 s15 s16 s17)) s9 s10 s11 s12 s13 s14 s15 s16 s17 := by kernel_rfl
theorem f117_1.s1_eq {R : Type} (L N : Nat) (κ : Ex → T → H → Option R) (rec : T → H → Option R) (s9 : LI) (s10 : LLM) (s11 : LI) (s12 : Int) (s13 : Int) (s14 : Int) (s15 : Int) (s16 : LI) (s17 : LLM) :
    evRd (E117_1 L N) (evCallI (E117_1 L N) 1 2000) 1000 117 61 2 f117_1.c1 κ rec (f117_1.T1 s9 s10 s11 s12 s13 s14 s15 s16 s17) (f117_1.H1 s9 s10 s11 s12 s13 s14 s15 s16 s17)
    = f117_1.s1 L N (fun z18 z19 z20 z21 z22 z23 z24 => κ (.exit 2) (f117_1.T1_e2 z18 z19 z20 z21 z22 z23 z24) (f117_1.H1_e2 z18 z19 z20 z21 z22 z23 z24)) (fun s9 s10 s11 s12 s13 s14 s15 s16 s17 => rec (f117_1.T1 s9 s10 s11 s12 s13 s14 s15 s16 s17) (f117_1.H1 s9 s10 s11 s12 s13 s14 s15 s16 s17)) s9 s10 s11 s12 s13 s14 s15 s16 s17 := by
  rw [f117_1.s1_pre]
  unfold f117_1.s1
  rfl
theorem f117_1.l1_eq {R : Type} (L N : Nat) (κ : Ex → T → H → Option R) : ∀ (n : Nat) (s9 : LI) (s10 : LLM) (s11 : LI) (s12 : Int) (s13 : Int) (s14 : Int) (s15 : Int) (s16 : LI) (s17 : LLM),
    evLp (E117_1 L N) (evCallI (E117_1 L N) 1 2000) 1000 117 61 2 f117_1.c1 κ n (f117_1.T1 s9 s10 s11 s12 s13 s14 s15 s16 s17) (f117_1.H1 s9 s10 s11 s12 s13 s14 s15 s16 s17)
    = f117_1.l1 L N (fun z18 z19 z20 z21 z22 z23 z24 => κ (.exit 2) (f117_1.T1_e2 z18 z19 z20 z21 z22 z23 z24) (f117_1.H1_e2 z18 z19 z20 z21 z22 z23 z24)) n s9 s10 s11 s12 s13 s14 s15 s16 s17 := by
  intro n
  induction n with
  | zero => intros; rfl
  | succ n ih =>
    intro s9 s10 s11 s12 s13 s14 s15 s16 s17
    rw [evLp_succ, f117_1.s1_eq]
    simp only [ih]
    rfl
theorem f117_1.p1_e2_pre {R : Type} (L N : Nat) (κ : Ex → T → H → Option R) (rec : T → H → Option R) (z18 : LI) (z19 : LLM) (z20 : LI) (z21 : Int) (z22 : Int) (z23 : LI) (z24 : LLM) :
    (contAt (E117_1 L N) (evCallI (E117_1 L N) 1 2000) 1000 117 61 2 f117_1.c0 (stepK (outK (keepT 61 ((E117_1 L N).liveX 117 0).1) (keepH 1000 ((E117_1 L N).liveX 117 0).2) κ) fun t h => rec (backK 1000 61 ((E117_1 L N).live 117 0).1 ((E117_1 L N).live 117 0).2 ((E117_1 L N).heal 117 0) ((E117_1 L N).ren 117 0) t h).1 (backK 1000 61 ((E117_1 L N).live 117 0).1 ((E117_1 L N).live 117 0).2 ((E117_1 L N).heal 117 0) ((E117_1 L N).ren 117 0) t h).2)) (.exit 2) (f117_1.T1_e2 z18 z19 z20 z21 z22 z23 z24) (f117_1.H1_e2 z18 z19 z20 z21 z22 z23 z24)
    = f117_1.p1_e2' L N (fun z7 => κ (.exit 0) (f117_1.T0_e0 z7) (f117_1.H0_e0 z7)) (fun s0 s1 s2 s3 s4 s5 s6 => rec (f117_1.T0 s0 s1 s2 s3 s4 s5 s6) (f117_1.H0 s0 s1 s2 s3 s4 s5 s6)) z18 z19 z20 z21 z22 z23 z24 := by kernel_rfl
theorem f117_1.p1_e2_eq {R : Type} (L N : Nat) (κ : Ex → T → H → Option R) (rec : T → H → Option R) (z18 : LI) (z19 : LLM) (z20 : LI) (z21 : Int) (z22 : Int) (z23 : LI) (z24 : LLM) :
    (contAt (E117_1 L N) (evCallI (E117_1 L N) 1 2000) 1000 117 61 2 f117_1.c0 (stepK (outK (keepT 61 ((E117_1 L N).liveX 117 0).1) (keepH 1000 ((E117_1 L N).liveX 117 0).2) κ) fun t h => rec (backK 1000 61 ((E117_1 L N).live 117 0).1 ((E117_1 L N).live 117 0).2 ((E117_1 L N).heal 117 0) ((E117_1 L N).ren 117 0) t h).1 (backK 1000 61 ((E117_1 L N).live 117 0).1 ((E117_1 L N).live 117 0).2 ((E117_1 L N).heal 117 0) ((E117_1 L N).ren 117 0) t h).2)) (.exit 2) (f117_1.T1_e2 z18 z19 z20 z21 z22 z23 z24) (f117_1.H1_e2 z18 z19 z20 z21 z22 z23 z24)
    = f117_1.p1_e2 L N (fun z7 => κ (.exit 0) (f117_1.T0_e0 z7) (f117_1.H0_e0 z7)) (fun s0 s1 s2 s3 s4 s5 s6 => rec (f117_1.T0 s0 s1 s2 s3 s4 s5 s6) (f117_1.H0 s0 s1 s2 s3 s4 s5 s6)) z18 z19 z20 z21 z22 z23 z24 := by
  rw [f117_1.p1_e2_pre]
  unfold f117_1.p1_e2
  rfl
theorem f117_1.s0_pre {R : Type} (L N : Nat) (κ : Ex → T → H → Option R) (rec : T → H → Option R) (s0 : LI) (s1 : LLM) (s2 : LI) (s3 : Int) (s4 : Int) (s5 : LI) (s6 : LLM) :
    evRd (E117_1 L N) (evCallI (E117_1 L N) 1 2000) 1000 117 61 0 f117_1.c0 κ rec (f117_1.T0 s0 s1 s2 s3 s4 s5 s6) (f117_1.H0 s0 s1 s2 s3 s4 s5 s6)
    = f117_1.s0' L N (fun z7 => κ (.exit 0) (f117_1.T0_e0 z7) (f117_1.H0_e0 z7)) (fun s0 s1 s2 s3 s4 s5 s6 => rec (f117_1.T0 s0 s1 s2 s3 s4 s5 s6) (f117_1.H0 s0 s1 s2 s3 s4 s5 s6)) (fun s9 s10 s11 s12 s13 s14 s15 s16 s17 => evLp (E117_1 L N) (evCallI (E117_1 L N) 1 2000) 1000 117 61 2 f117_1.c1 (contAt (E117_1 L N) (evCallI (E117_1 L N) 1 2000) 1000 117 61 2 f117_1.c0 (stepK (outK (keepT 61 ((E117_1 L N).liveX 117 0).1) (keepH 1000 ((E117_1 L N).liveX 117 0).2) κ) fun t h => rec (backK 1000 61 ((E117_1 L N).live 117 0).1 ((E117_1 L N).live 117 0).2 ((E117_1 L N).heal 117 0) ((E117_1 L N).ren 117 0) t h).1 (backK 1000 61 ((E117_1 L N).live 117 0).1 ((E117_1 L N).live 117 0).2 ((E117_1 L N).heal 117 0) ((E117_1 L N).ren 117 0) t h).2)) L (f117_1.T1 s9 s10 s11 s12 s13 s14 s15 s16 s17) (f117_1.H1 s9 s10 s11 s12 s13 s14 s15 s16 s17)) s0 s1 s2 s3 s4 s5 s6 := by kernel_rfl
theorem f117_1.s0_eq {R : Type} (L N : Nat) (κ : Ex → T → H → Option R) (rec : T → H → Option R) (s0 : LI) (s1 : LLM) (s2 : LI) (s3 : Int) (s4 : Int) (s5 : LI) (s6 : LLM) :
    evRd (E117_1 L N) (evCallI (E117_1 L N) 1 2000) 1000 117 61 0 f117_1.c0 κ rec (f117_1.T0 s0 s1 s2 s3 s4 s5 s6) (f117_1.H0 s0 s1 s2 s3 s4 s5 s6)
    = f117_1.s0 L N (fun z7 => κ (.exit 0) (f117_1.T0_e0 z7) (f117_1.H0_e0 z7)) (fun s0 s1 s2 s3 s4 s5 s6 => rec (f117_1.T0 s0 s1 s2 s3 s4 s5 s6) (f117_1.H0 s0 s1 s2 s3 s4 s5 s6)) s0 s1 s2 s3 s4 s5 s6 := by
  rw [f117_1.s0_pre]
  unfold f117_1.s0
  simp only [f117_1.l1_eq, f117_1.p1_e2_eq]
theorem f117_1.l0_eq {R : Type} (L N : Nat) (κ : Ex → T → H → Option R) : ∀ (n : Nat) (s0 : LI) (s1 : LLM) (s2 : LI) (s3 : Int) (s4 : Int) (s5 : LI) (s6 : LLM),
    evLp (E117_1 L N) (evCallI (E117_1 L N) 1 2000) 1000 117 61 0 f117_1.c0 κ n (f117_1.T0 s0 s1 s2 s3 s4 s5 s6) (f117_1.H0 s0 s1 s2 s3 s4 s5 s6)
    = f117_1.l0 L N (fun z7 => κ (.exit 0) (f117_1.T0_e0 z7) (f117_1.H0_e0 z7)) n s0 s1 s2 s3 s4 s5 s6 := by
  intro n
  induction n with
  | zero => intros; rfl
  | succ n ih =>
    intro s0 s1 s2 s3 s4 s5 s6
    rw [evLp_succ, f117_1.s0_eq]
    simp only [ih]
    rfl
theorem f117_1.p0_e0_pre {R : Type} (L N : Nat) (κ : RN.Den .row → List Int → Option R) (z7 : LI) :
    (contAt (E117_1 L N) (evCallI (E117_1 L N) 1 2000) 1000 117 61 0 (codeOf Try.f117) (finK (E117_1 L N) 1000 Try.f117 (finN .row none 3 i64 κ))) (.exit 0) (f117_1.T0_e0 z7) (f117_1.H0_e0 z7)
    = f117_1.p0_e0' L N (fun a0 => κ () a0) z7 := by kernel_rfl
theorem f117_1.p0_e0_eq {R : Type} (L N : Nat) (κ : RN.Den .row → List Int → Option R) (z7 : LI) :
    (contAt (E117_1 L N) (evCallI (E117_1 L N) 1 2000) 1000 117 61 0 (codeOf Try.f117) (finK (E117_1 L N) 1000 Try.f117 (finN .row none 3 i64 κ))) (.exit 0) (f117_1.T0_e0 z7) (f117_1.H0_e0 z7)
    = f117_1.p0_e0 L N (fun a0 => κ () a0) z7 := by
  rw [f117_1.p0_e0_pre]
  unfold f117_1.p0_e0
  rfl
theorem f117_1.b_pre {R : Type} (L N : Nat) (κ : RN.Den .row → List Int → Option R) (x0 : LI) (x1 : LLM) (x2 : LI) :
    evBody (E117_1 L N) (evCallI (E117_1 L N) 1 2000) 1000 117 Try.f117 [(.tv (.sl i64) x0), (.fn 118 [(.imf 82 [(.imp (.sl (.sl (.st 0))) x1 0)]), (.imp (.sl i64) x2 0)])] [] [] (finN .row none 3 i64 κ)
    = f117_1.b' L N (fun a0 => κ () a0) (fun s0 s1 s2 s3 s4 s5 s6 => evLp (E117_1 L N) (evCallI (E117_1 L N) 1 2000) 1000 117 61 0 f117_1.c0 (contAt (E117_1 L N) (evCallI (E117_1 L N) 1 2000) 1000 117 61 0 (codeOf Try.f117) (finK (E117_1 L N) 1000 Try.f117 (finN .row none 3 i64 κ))) L (f117_1.T0 s0 s1 s2 s3 s4 s5 s6) (f117_1.H0 s0 s1 s2 s3 s4 s5 s6)) x0 x1 x2 := by kernel_rfl
theorem f117_1.b_eq {R : Type} (L N : Nat) (κ : RN.Den .row → List Int → Option R) (x0 : LI) (x1 : LLM) (x2 : LI) :
    evBody (E117_1 L N) (evCallI (E117_1 L N) 1 2000) 1000 117 Try.f117 [(.tv (.sl i64) x0), (.fn 118 [(.imf 82 [(.imp (.sl (.sl (.st 0))) x1 0)]), (.imp (.sl i64) x2 0)])] [] [] (finN .row none 3 i64 κ)
    = f117_1.b L N (fun a0 => κ () a0) x0 x1 x2 := by
  rw [f117_1.b_pre]
  unfold f117_1.b
  simp only [f117_1.l0_eq, f117_1.p0_e0_eq]
theorem f117_1.j0'_nat {R R' : Type} (j : R → Option R') (L N : Nat) (k1_e2 : LI → LLM → LI → Int → Int → LI → LLM → Option R) (rec1 : LI → LLM → LI → Int → Int → Int → Int → LI → LLM → Option R) (v26 : LI) (v27 : LLM) (v28 : LI) (v29 : Int) (v30 : Int) (v31 : Int) (v32 : Int) (v33 : Bool) (v34 : LI) (v35 : LLM) :
    f117_1.j0' L N (fun a0 a1 a2 a3 a4 a5 a6 => (k1_e2 a0 a1 a2 a3 a4 a5 a6).bind j) (fun a0 a1 a2 a3 a4 a5 a6 a7 a8 => (rec1 a0 a1 a2 a3 a4 a5 a6 a7 a8).bind j) v26 v27 v28 v29 v30 v31 v32 v33 v34 v35 = (f117_1.j0' L N k1_e2 rec1 v26 v27 v28 v29 v30 v31 v32 v33 v34 v35).bind j := by
  unfold f117_1.j0'
  repeat' (first | (with_reducible refine cond_nat ?_ ?_) | (with_reducible refine bind_nat fun _ => ?_) | rfl)
theorem f117_1.s1'_nat {R R' : Type} (j : R → Option R') (L N : Nat) (k1_e2 : LI → LLM → LI → Int → Int → LI → LLM → Option R) (rec1 : LI → LLM → LI → Int → Int → Int → Int → LI → LLM → Option R) (s9 : LI) (s10 : LLM) (s11 : LI) (s12 : Int) (s13 : Int) (s14 : Int) (s15 : Int) (s16 : LI) (s17 : LLM) :
    f117_1.s1' L N (fun a0 a1 a2 a3 a4 a5 a6 => (k1_e2 a0 a1 a2 a3 a4 a5 a6).bind j) (fun a0 a1 a2 a3 a4 a5 a6 a7 a8 => (rec1 a0 a1 a2 a3 a4 a5 a6 a7 a8).bind j) s9 s10 s11 s12 s13 s14 s15 s16 s17 = (f117_1.s1' L N k1_e2 rec1 s9 s10 s11 s12 s13 s14 s15 s16 s17).bind j := by
  unfold f117_1.s1'
  repeat' (first | (with_reducible refine cond_nat ?_ ?_) | (with_reducible refine bind_nat fun _ => ?_) | exact f117_1.j0'_nat .. | rfl)
theorem f117_1.s1_nat {R R' : Type} (j : R → Option R') (L N : Nat) (k1_e2 : LI → LLM → LI → Int → Int → LI → LLM → Option R) (rec1 : LI → LLM → LI → Int → Int → Int → Int → LI → LLM → Option R) (s9 : LI) (s10 : LLM) (s11 : LI) (s12 : Int) (s13 : Int) (s14 : Int) (s15 : Int) (s16 : LI) (s17 : LLM) :
    f117_1.s1 L N (fun a0 a1 a2 a3 a4 a5 a6 => (k1_e2 a0 a1 a2 a3 a4 a5 a6).bind j) (fun a0 a1 a2 a3 a4 a5 a6 a7 a8 => (rec1 a0 a1 a2 a3 a4 a5 a6 a7 a8).bind j) s9 s10 s11 s12 s13 s14 s15 s16 s17 = (f117_1.s1 L N k1_e2 rec1 s9 s10 s11 s12 s13 s14 s15 s16 s17).bind j := by
  unfold f117_1.s1
  exact f117_1.s1'_nat ..
theorem f117_1.l1_nat {R R' : Type} (j : R → Option R') (L N : Nat) (k1_e2 : LI → LLM → LI → Int → Int → LI → LLM → Option R) : ∀ (n : Nat) (s9 : LI) (s10 : LLM) (s11 : LI) (s12 : Int) (s13 : Int) (s14 : Int) (s15 : Int) (s16 : LI) (s17 : LLM),
    f117_1.l1 L N (fun a0 a1 a2 a3 a4 a5 a6 => (k1_e2 a0 a1 a2 a3 a4 a5 a6).bind j) n s9 s10 s11 s12 s13 s14 s15 s16 s17 = (f117_1.l1 L N k1_e2 n s9 s10 s11 s12 s13 s14 s15 s16 s17).bind j := by
  intro n
  induction n with
  | zero => intros; rfl
  | succ n ih =>
    intro s9 s10 s11 s12 s13 s14 s15 s16 s17
    show f117_1.s1 L N (fun a0 a1 a2 a3 a4 a5 a6 => (k1_e2 a0 a1 a2 a3 a4 a5 a6).bind j) (f117_1.l1 L N (fun a0 a1 a2 a3 a4 a5 a6 => (k1_e2 a0 a1 a2 a3 a4 a5 a6).bind j) n) s9 s10 s11 s12 s13 s14 s15 s16 s17 = _
    rw [show f117_1.l1 L N (fun a0 a1 a2 a3 a4 a5 a6 => (k1_e2 a0 a1 a2 a3 a4 a5 a6).bind j) n = (fun s9 s10 s11 s12 s13 s14 s15 s16 s17 => (f117_1.l1 L N k1_e2 n s9 s10 s11 s12 s13 s14 s15 s16 s17).bind j) from funext fun s9 => funext fun s10 => funext fun s11 => funext fun s12 => funext fun s13 => funext fun s14 => funext fun s15 => funext fun s16 => funext fun s17 => ih s9 s10 s11 s12 s13 s14 s15 s16 s17]
    exact f117_1.s1_nat ..
theorem f117_1.p1_e2'_nat {R R' : Type} (j : R → Option R') (L N : Nat) (k0_e0 : LI → Option R) (rec0 : LI → LLM → LI → Int → Int → LI → LLM → Option R) (z18 : LI) (z19 : LLM) (z20 : LI) (z21 : Int) (z22 : Int) (z23 : LI) (z24 : LLM) :
    f117_1.p1_e2' L N (fun a0 => (k0_e0 a0).bind j) (fun a0 a1 a2 a3 a4 a5 a6 => (rec0 a0 a1 a2 a3 a4 a5 a6).bind j) z18 z19 z20 z21 z22 z23 z24 = (f117_1.p1_e2' L N k0_e0 rec0 z18 z19 z20 z21 z22 z23 z24).bind j := by
  unfold f117_1.p1_e2'
  repeat' (first | (with_reducible refine cond_nat ?_ ?_) | (with_reducible refine bind_nat fun _ => ?_) | rfl)
theorem f117_1.p1_e2_nat {R R' : Type} (j : R → Option R') (L N : Nat) (k0_e0 : LI → Option R) (rec0 : LI → LLM → LI → Int → Int → LI → LLM → Option R) (z18 : LI) (z19 : LLM) (z20 : LI) (z21 : Int) (z22 : Int) (z23 : LI) (z24 : LLM) :
    f117_1.p1_e2 L N (fun a0 => (k0_e0 a0).bind j) (fun a0 a1 a2 a3 a4 a5 a6 => (rec0 a0 a1 a2 a3 a4 a5 a6).bind j) z18 z19 z20 z21 z22 z23 z24 = (f117_1.p1_e2 L N k0_e0 rec0 z18 z19 z20 z21 z22 z23 z24).bind j := by
  unfold f117_1.p1_e2
  exact f117_1.p1_e2'_nat ..
theorem f117_1.s0'_nat {R R' : Type} (j : R → Option R') (L N : Nat) (k0_e0 : LI → Option R) (rec0 : LI → LLM → LI → Int → Int → LI → LLM → Option R) (w1 : LI → LLM → LI → Int → Int → Int → Int → LI → LLM → Option R) (s0 : LI) (s1 : LLM) (s2 : LI) (s3 : Int) (s4 : Int) (s5 : LI) (s6 : LLM) :
    f117_1.s0' L N (fun a0 => (k0_e0 a0).bind j) (fun a0 a1 a2 a3 a4 a5 a6 => (rec0 a0 a1 a2 a3 a4 a5 a6).bind j) (fun a0 a1 a2 a3 a4 a5 a6 a7 a8 => (w1 a0 a1 a2 a3 a4 a5 a6 a7 a8).bind j) s0 s1 s2 s3 s4 s5 s6 = (f117_1.s0' L N k0_e0 rec0 w1 s0 s1 s2 s3 s4 s5 s6).bind j := by
  unfold f117_1.s0'
  repeat' (first | (with_reducible refine cond_nat ?_ ?_) | (with_reducible refine bind_nat fun _ => ?_) | rfl)
theorem f117_1.s0_nat {R R' : Type} (j : R → Option R') (L N : Nat) (k0_e0 : LI → Option R) (rec0 : LI → LLM → LI → Int → Int → LI → LLM → Option R) (s0 : LI) (s1 : LLM) (s2 : LI) (s3 : Int) (s4 : Int) (s5 : LI) (s6 : LLM) :
    f117_1.s0 L N (fun a0 => (k0_e0 a0).bind j) (fun a0 a1 a2 a3 a4 a5 a6 => (rec0 a0 a1 a2 a3 a4 a5 a6).bind j) s0 s1 s2 s3 s4 s5 s6 = (f117_1.s0 L N k0_e0 rec0 s0 s1 s2 s3 s4 s5 s6).bind j := by
  unfold f117_1.s0
  simp only [f117_1.l1_nat, f117_1.p1_e2_nat]
  exact f117_1.s0'_nat ..
theorem f117_1.l0_nat {R R' : Type} (j : R → Option R') (L N : Nat) (k0_e0 : LI → Option R) : ∀ (n : Nat) (s0 : LI) (s1 : LLM) (s2 : LI) (s3 : Int) (s4 : Int) (s5 : LI) (s6 : LLM),
    f117_1.l0 L N (fun a0 => (k0_e0 a0).bind j) n s0 s1 s2 s3 s4 s5 s6 = (f117_1.l0 L N k0_e0 n s0 s1 s2 s3 s4 s5 s6).bind j := by
  intro n
  induction n with
  | zero => intros; rfl
  | succ n ih =>
    intro s0 s1 s2 s3 s4 s5 s6
    show f117_1.s0 L N (fun a0 => (k0_e0 a0).bind j) (f117_1.l0 L N (fun a0 => (k0_e0 a0).bind j) n) s0 s1 s2 s3 s4 s5 s6 = _
    rw [show f117_1.l0 L N (fun a0 => (k0_e0 a0).bind j) n = (fun s0 s1 s2 s3 s4 s5 s6 => (f117_1.l0 L N k0_e0 n s0 s1 s2 s3 s4 s5 s6).bind j) from funext fun s0 => funext fun s1 => funext fun s2 => funext fun s3 => funext fun s4 => funext fun s5 => funext fun s6 => ih s0 s1 s2 s3 s4 s5 s6]
    exact f117_1.s0_nat ..
theorem f117_1.p0_e0'_nat {R R' : Type} (j : R → Option R') (L N : Nat) (k : LI → Option R) (z7 : LI) :
    f117_1.p0_e0' L N (fun a0 => (k a0).bind j) z7 = (f117_1.p0_e0' L N k z7).bind j := by
  unfold f117_1.p0_e0'
  repeat' (first | (with_reducible refine cond_nat ?_ ?_) | (with_reducible refine bind_nat fun _ => ?_) | rfl)
theorem f117_1.p0_e0_nat {R R' : Type} (j : R → Option R') (L N : Nat) (k : LI → Option R) (z7 : LI) :
    f117_1.p0_e0 L N (fun a0 => (k a0).bind j) z7 = (f117_1.p0_e0 L N k z7).bind j := by
  unfold f117_1.p0_e0
  exact f117_1.p0_e0'_nat ..
theorem f117_1.b'_nat {R R' : Type} (j : R → Option R') (L N : Nat) (k : LI → Option R) (w0 : LI → LLM → LI → Int → Int → LI → LLM → Option R) (x0 : LI) (x1 : LLM) (x2 : LI) :
    f117_1.b' L N (fun a0 => (k a0).bind j) (fun a0 a1 a2 a3 a4 a5 a6 => (w0 a0 a1 a2 a3 a4 a5 a6).bind j) x0 x1 x2 = (f117_1.b' L N k w0 x0 x1 x2).bind j := by
  unfold f117_1.b'
  repeat' (first | (with_reducible refine cond_nat ?_ ?_) | (with_reducible refine bind_nat fun _ => ?_) | rfl)
theorem f117_1.b_nat {R R' : Type} (j : R → Option R') (L N : Nat) (k : LI → Option R) (x0 : LI) (x1 : LLM) (x2 : LI) :
    f117_1.b L N (fun a0 => (k a0).bind j) x0 x1 x2 = (f117_1.b L N k x0 x1 x2).bind j := by
  unfold f117_1.b
  simp only [f117_1.l0_nat, f117_1.p0_e0_nat]
  exact f117_1.b'_nat ..
theorem f117_1.ok (L N : Nat) (hΦ : TellsOk Try.prog ((Φ118_1 L N))) : EntOkO Try.prog 117 (f117_1.ent L N) := by
  intro args vw site h a ha
  unfold f117_1.ent at ha
  split at ha
  · rename_i d hd
    obtain rfl := Option.some.inj ha
    intro y hy hs
    refine call_ronF (dep := 1000) (E := (E117_1 L N)) (rn := .row) (q := none) (el := 3) (ty := i64) (d1 := ()) (xs := y) (sound_of hΦ) okP (callI_sound (sound_of hΦ) okP 1 2000) (f := Try.f117) rfl hs hd ?_ rfl site
    refine (f117_1.b_eq L N (fun d xs => some (d, xs)) d.1 d.2.1.1.1 d.2.1.2.1).trans ?_
    refine (f117_1.b_nat (fun y => (some ((), y) : Option (RN.Den .row × List Int))) L N some d.1 d.2.1.1.1 d.2.1.2.1).trans ?_
    rw [show f117_1.b L N some d.1 d.2.1.1.1 d.2.1.2.1 = some y from hy]
    rfl
  · cases ha
def Φ117_1 (L N : Nat) : Tells := (addO (Φ118_1 L N) 117 (f117_1.ent L N))
theorem Φ117_1_ok (L N : Nat) : TellsOk Try.prog (Φ117_1 L N) := addO_ok (Φ118_1_ok L N) (f117_1.ok L N (Φ118_1_ok L N))
def f81_1.s0' {R : Type} (L N : Nat) (k0_r : LLI → Option R) (rec0 : LLM → LLI → Option R) (s0 : LLM) (s1 : LLI) : Option R :=
  bif (decide (0 ≤ (wi ((s1.length : Int) - (1 : Int)))) && decide ((wi ((s1.length : Int) - (1 : Int))) < (s1.length : Int))) then
    (f117_1 L N (listAt s1 [] (wi ((s1.length : Int) - (1 : Int))).toNat) s0 (listAt s1 [] (wi ((s1.length : Int) - (1 : Int))).toNat)).bind fun y2 =>
    (f119 L N y2 (listAt s1 [] (wi ((s1.length : Int) - (1 : Int))).toNat)).bind fun y3 =>
    bif y3 then
      k0_r s1
    else bif (decide (s1.length + ([y2] : LLI).length ≤ lim)) then
      rec0 s0 (s1 ++ ([y2] : LLI))
    else none
  else none
def f81_1.s0 {R : Type} (L N : Nat) (k0_r : LLI → Option R) (rec0 : LLM → LLI → Option R) (s0 : LLM) (s1 : LLI) : Option R :=
  f81_1.s0' L N k0_r rec0 s0 s1
def f81_1.l0 {R : Type} (L N : Nat) (k0_r : LLI → Option R) : Nat → LLM → LLI → Option R
  | 0, _, _ => none
  | n + 1, s0, s1 => f81_1.s0 L N k0_r (f81_1.l0 L N k0_r n) s0 s1
def f81_1.T0 (s0 : LLM) (s1 : LLI) : T := mkT 28 [(3, (.ptr 1003 0)), (5, (.row 1010))]
def f81_1.H0 (s0 : LLM) (s1 : LLI) : H := [(1003, (.box [(.fn 82 [(.imp (.sl (.sl (.st 0))) s0 0)])])), (1010, (.row 30 (.sl i64) s1))]
def f81_1.T0_r (z4 : LLI) : T := mkT 28 [(4, (.row 1010))]
def f81_1.H0_r (z4 : LLI) : H := [(1010, (.row 30 (.sl i64) z4))]
def f81_1.p0_r' {R : Type} (L N : Nat) (k : LLI → Option R) (z4 : LLI) : Option R :=
  k z4
def f81_1.p0_r {R : Type} (L N : Nat) (k : LLI → Option R) (z4 : LLI) : Option R :=
  f81_1.p0_r' L N k z4
def f81_1.b' {R : Type} (L N : Nat) (k : LLI → Option R) (w0 : LLM → LLI → Option R) (x0 : Int) (x1 : LLM) : Option R :=
  bif (decide (0 ≤ x0) && decide (x0 ≤ (lim : Int))) then
    w0 x1 ([(List.replicate x0.toNat (0 : Int))] : LLI)
  else none
def f81_1.b {R : Type} (L N : Nat) (k : LLI → Option R) (x0 : Int) (x1 : LLM) : Option R :=
  f81_1.b' L N k (fun s0 s1 => f81_1.l0 L N (fun z4 => f81_1.p0_r L N k z4) L s0 s1) x0 x1
def f81_1 (L N : Nat) (x0 : Int) (x1 : LLM) : Option (LLI) := f81_1.b L N some x0 x1
def f81_1.ent (L N : Nat) (args : List AV) (vw : View) (site : Nat) : Option Ans := match shsC [(.dat i64), (.fn 82 [(.imp (.sl (.sl (.st 0))) 0)])] vw args with
  | some (d, u) => some ⟨LLI, f81_1 L N d.1 d.2.1.1, fun y => ((.tv (.sl (.sl i64)) y), u, [])⟩
  | none => none
noncomputable def E81_1 (L N : Nat) : Env := { P := Try.prog, ty := tyOf, Φ := (Φ117_1 L N), inl := inlT, live := lives, liveX := livesX, L := L, dp := none, prom := promT, heal := healT, ren := renT }
noncomputable def f81_1.c0 : Code := loopAt 0 (codeOf Try.f81)
theorem f81_1.s0_pre {R : Type} (L N : Nat) (κ : Ex → T → H → Option R) (rec : T → H → Option R) (s0 : LLM) (s1 : LLI) :
    evRd (E81_1 L N) (evCallI (E81_1 L N) 1 2000) 1000 81 28 0 f81_1.c0 κ rec (f81_1.T0 s0 s1) (f81_1.H0 s0 s1)
    = f81_1.s0' L N (fun z4 => κ .ret (f81_1.T0_r z4) (f81_1.H0_r z4)) (fun s0 s1 => rec (f81_1.T0 s0 s1) (f81_1.H0 s0 s1)) s0 s1 := by kernel_rfl
theorem f81_1.s0_eq {R : Type} (L N : Nat) (κ : Ex → T → H → Option R) (rec : T → H → Option R) (s0 : LLM) (s1 : LLI) :
    evRd (E81_1 L N) (evCallI (E81_1 L N) 1 2000) 1000 81 28 0 f81_1.c0 κ rec (f81_1.T0 s0 s1) (f81_1.H0 s0 s1)
    = f81_1.s0 L N (fun z4 => κ .ret (f81_1.T0_r z4) (f81_1.H0_r z4)) (fun s0 s1 => rec (f81_1.T0 s0 s1) (f81_1.H0 s0 s1)) s0 s1 := by
  rw [f81_1.s0_pre]
  unfold f81_1.s0
  rfl
theorem f81_1.l0_eq {R : Type} (L N : Nat) (κ : Ex → T → H → Option R) : ∀ (n : Nat) (s0 : LLM) (s1 : LLI),
    evLp (E81_1 L N) (evCallI (E81_1 L N) 1 2000) 1000 81 28 0 f81_1.c0 κ n (f81_1.T0 s0 s1) (f81_1.H0 s0 s1)
    = f81_1.l0 L N (fun z4 => κ .ret (f81_1.T0_r z4) (f81_1.H0_r z4)) n s0 s1 := by
  intro n
  induction n with
  | zero => intros; rfl
  | succ n ih =>
    intro s0 s1
    rw [evLp_succ, f81_1.s0_eq]
    simp only [ih]
    rfl
theorem f81_1.p0_r_pre {R : Type} (L N : Nat) (κ : AV → Option R) (z4 : LLI) :
    (contAt (E81_1 L N) (evCallI (E81_1 L N) 1 2000) 1000 81 28 0 (codeOf Try.f81) (finK (E81_1 L N) 1000 Try.f81 (finC (.one (.sl (.sl i64))) κ))) .ret (f81_1.T0_r z4) (f81_1.H0_r z4)
    = f81_1.p0_r' L N (fun a0 => κ (.tv (.sl (.sl i64)) a0)) z4 := by kernel_rfl
theorem f81_1.p0_r_eq {R : Type} (L N : Nat) (κ : AV → Option R) (z4 : LLI) :
    (contAt (E81_1 L N) (evCallI (E81_1 L N) 1 2000) 1000 81 28 0 (codeOf Try.f81) (finK (E81_1 L N) 1000 Try.f81 (finC (.one (.sl (.sl i64))) κ))) .ret (f81_1.T0_r z4) (f81_1.H0_r z4)
    = f81_1.p0_r L N (fun a0 => κ (.tv (.sl (.sl i64)) a0)) z4 := by
  rw [f81_1.p0_r_pre]
  unfold f81_1.p0_r
  rfl
theorem f81_1.b_pre {R : Type} (L N : Nat) (κ : AV → Option R) (x0 : Int) (x1 : LLM) :
    evBody (E81_1 L N) (evCallI (E81_1 L N) 1 2000) 1000 81 Try.f81 [(.tv i64 x0), (.fn 82 [(.imp (.sl (.sl (.st 0))) x1 0)])] [] [] (finC (.one (.sl (.sl i64))) κ)
    = f81_1.b' L N (fun a0 => κ (.tv (.sl (.sl i64)) a0)) (fun s0 s1 => evLp (E81_1 L N) (evCallI (E81_1 L N) 1 2000) 1000 81 28 0 f81_1.c0 (contAt (E81_1 L N) (evCallI (E81_1 L N) 1 2000) 1000 81 28 0 (codeOf Try.f81) (finK (E81_1 L N) 1000 Try.f81 (finC (.one (.sl (.sl i64))) κ))) L (f81_1.T0 s0 s1) (f81_1.H0 s0 s1)) x0 x1 := by kernel_rfl
theorem f81_1.b_eq {R : Type} (L N : Nat) (κ : AV → Option R) (x0 : Int) (x1 : LLM) :
    evBody (E81_1 L N) (evCallI (E81_1 L N) 1 2000) 1000 81 Try.f81 [(.tv i64 x0), (.fn 82 [(.imp (.sl (.sl (.st 0))) x1 0)])] [] [] (finC (.one (.sl (.sl i64))) κ)
    = f81_1.b L N (fun a0 => κ (.tv (.sl (.sl i64)) a0)) x0 x1 := by
  rw [f81_1.b_pre]
  unfold f81_1.b
  simp only [f81_1.l0_eq, f81_1.p0_r_eq]
theorem f81_1.s0'_nat {R R' : Type} (j : R → Option R') (L N : Nat) (k0_r : LLI → Option R) (rec0 : LLM → LLI → Option R) (s0 : LLM) (s1 : LLI) :
    f81_1.s0' L N (fun a0 => (k0_r a0).bind j) (fun a0 a1 => (rec0 a0 a1).bind j) s0 s1 = (f81_1.s0' L N k0_r rec0 s0 s1).bind j := by
  unfold f81_1.s0'
  repeat' (first | (with_reducible refine cond_nat ?_ ?_) | (with_reducible refine bind_nat fun _ => ?_) | rfl)
theorem f81_1.s0_nat {R R' : Type} (j : R → Option R') (L N : Nat) (k0_r : LLI → Option R) (rec0 : LLM → LLI → Option R) (s0 : LLM) (s1 : LLI) :
    f81_1.s0 L N (fun a0 => (k0_r a0).bind j) (fun a0 a1 => (rec0 a0 a1).bind j) s0 s1 = (f81_1.s0 L N k0_r rec0 s0 s1).bind j := by
  unfold f81_1.s0
  exact f81_1.s0'_nat ..
theorem f81_1.l0_nat {R R' : Type} (j : R → Option R') (L N : Nat) (k0_r : LLI → Option R) : ∀ (n : Nat) (s0 : LLM) (s1 : LLI),
    f81_1.l0 L N (fun a0 => (k0_r a0).bind j) n s0 s1 = (f81_1.l0 L N k0_r n s0 s1).bind j := by
  intro n
  induction n with
  | zero => intros; rfl
  | succ n ih =>
    intro s0 s1
    show f81_1.s0 L N (fun a0 => (k0_r a0).bind j) (f81_1.l0 L N (fun a0 => (k0_r a0).bind j) n) s0 s1 = _
    rw [show f81_1.l0 L N (fun a0 => (k0_r a0).bind j) n = (fun s0 s1 => (f81_1.l0 L N k0_r n s0 s1).bind j) from funext fun s0 => funext fun s1 => ih s0 s1]
    exact f81_1.s0_nat ..
theorem f81_1.p0_r'_nat {R R' : Type} (j : R → Option R') (L N : Nat) (k : LLI → Option R) (z4 : LLI) :
    f81_1.p0_r' L N (fun a0 => (k a0).bind j) z4 = (f81_1.p0_r' L N k z4).bind j := by
  unfold f81_1.p0_r'
  repeat' (first | (with_reducible refine cond_nat ?_ ?_) | (with_reducible refine bind_nat fun _ => ?_) | rfl)
theorem f81_1.p0_r_nat {R R' : Type} (j : R → Option R') (L N : Nat) (k : LLI → Option R) (z4 : LLI) :
    f81_1.p0_r L N (fun a0 => (k a0).bind j) z4 = (f81_1.p0_r L N k z4).bind j := by
  unfold f81_1.p0_r
  exact f81_1.p0_r'_nat ..
theorem f81_1.b'_nat {R R' : Type} (j : R → Option R') (L N : Nat) (k : LLI → Option R) (w0 : LLM → LLI → Option R) (x0 : Int) (x1 : LLM) :
    f81_1.b' L N (fun a0 => (k a0).bind j) (fun a0 a1 => (w0 a0 a1).bind j) x0 x1 = (f81_1.b' L N k w0 x0 x1).bind j := by
  unfold f81_1.b'
  repeat' (first | (with_reducible refine cond_nat ?_ ?_) | (with_reducible refine bind_nat fun _ => ?_) | rfl)
theorem f81_1.b_nat {R R' : Type} (j : R → Option R') (L N : Nat) (k : LLI → Option R) (x0 : Int) (x1 : LLM) :
    f81_1.b L N (fun a0 => (k a0).bind j) x0 x1 = (f81_1.b L N k x0 x1).bind j := by
  unfold f81_1.b
  simp only [f81_1.l0_nat, f81_1.p0_r_nat]
  exact f81_1.b'_nat ..
theorem f81_1.ok (L N : Nat) (hΦ : TellsOk Try.prog ((Φ117_1 L N))) : EntOkO Try.prog 81 (f81_1.ent L N) := by
  intro args vw site h a ha
  unfold f81_1.ent at ha
  split at ha
  · rename_i d u hd
    obtain rfl := Option.some.inj ha
    intro y hy hs
    refine call_dof (dep := 1000) (E := (E81_1 L N)) (rs := (.one (.sl (.sl i64)))) (v' := (.tv (.sl (.sl i64)) y)) (sound_of hΦ) okP (callI_sound (sound_of hΦ) okP 1 2000) (f := Try.f81) rfl hs hd ?_ site
    refine (f81_1.b_eq L N some d.1 d.2.1.1).trans ?_
    refine (f81_1.b_nat (fun y => (some (.tv (.sl (.sl i64)) y) : Option AV)) L N some d.1 d.2.1.1).trans ?_
    rw [show f81_1.b L N some d.1 d.2.1.1 = some y from hy]
    rfl
  · cases ha
def Φ81_1 (L N : Nat) : Tells := (addO (Φ117_1 L N) 81 (f81_1.ent L N))
theorem Φ81_1_ok (L N : Nat) : TellsOk Try.prog (Φ81_1 L N) := addO_ok (Φ117_1_ok L N) (f81_1.ok L N (Φ117_1_ok L N))
def f41.b' {R : Type} (L N : Nat) (k : LI → Option R) (x0 : Graph) : Option R :=
  (f32 L N (Graph.mk x0.moves)).bind fun y0 =>
  bif (!y0) then
    k []
  else (f81_1 L N (x0.moves.length : Int) x0.moves).bind fun y1 =>
  bif (decide (0 ≤ (wi ((y1.length : Int) - (1 : Int)))) && decide ((wi ((y1.length : Int) - (1 : Int))) < (y1.length : Int))) then
    ((fclone (listAt y1 [] (wi ((y1.length : Int) - (1 : Int))).toNat))).bind fun y2 =>
    k (listAt y1 [] (wi ((y1.length : Int) - (1 : Int))).toNat)
  else none
def f41.b {R : Type} (L N : Nat) (k : LI → Option R) (x0 : Graph) : Option R :=
  f41.b' L N k x0
def f41 (L N : Nat) (x0 : Graph) : Option (LI) := f41.b L N some x0
def f41.ent (L N : Nat) (args : List AV) (vw : View) (site : Nat) : Ans := match roD [(.st 2)] vw args with
  | some d => ⟨LI, f41 L N d.1, fun y => (RN.av site .row (), [(site, some (mkO none 3 i64 y))], [])⟩
  | none => Ans.no
noncomputable def E41 (L N : Nat) : Env := { P := Try.prog, ty := tyOf, Φ := (Φ81_1 L N), inl := inlT, live := lives, liveX := livesX, L := L, dp := none, prom := promT, heal := healT, ren := renT }
theorem f41.b_pre {R : Type} (L N : Nat) (κ : RN.Den .row → List Int → Option R) (x0 : Graph) :
    evBody (E41 L N) (evCallI (E41 L N) 1 2000) 1000 41 Try.f41 [(.tv (.st 2) x0)] [] [] (finN .row none 3 i64 κ)
    = f41.b' L N (fun a0 => κ () a0) x0 := by kernel_rfl
theorem f41.b_eq {R : Type} (L N : Nat) (κ : RN.Den .row → List Int → Option R) (x0 : Graph) :
    evBody (E41 L N) (evCallI (E41 L N) 1 2000) 1000 41 Try.f41 [(.tv (.st 2) x0)] [] [] (finN .row none 3 i64 κ)
    = f41.b L N (fun a0 => κ () a0) x0 := by
  rw [f41.b_pre]
  unfold f41.b
  rfl
theorem f41.b'_nat {R R' : Type} (j : R → Option R') (L N : Nat) (k : LI → Option R) (x0 : Graph) :
    f41.b' L N (fun a0 => (k a0).bind j) x0 = (f41.b' L N k x0).bind j := by
  unfold f41.b'
  repeat' (first | (with_reducible refine cond_nat ?_ ?_) | (with_reducible refine bind_nat fun _ => ?_) | rfl)
theorem f41.b_nat {R R' : Type} (j : R → Option R') (L N : Nat) (k : LI → Option R) (x0 : Graph) :
    f41.b L N (fun a0 => (k a0).bind j) x0 = (f41.b L N k x0).bind j := by
  unfold f41.b
  exact f41.b'_nat ..
theorem f41.ok (L N : Nat) (hΦ : TellsOk Try.prog ((Φ81_1 L N))) : EntOk Try.prog 41 (f41.ent L N) := by
  intro args vw site h
  unfold f41.ent
  split
  · rename_i d ha
    intro y hy hs
    refine call_ron (dep := 1000) (E := (E41 L N)) (ts := [(.st 2)]) (rn := .row) (q := none) (el := 3) (ty := i64) (d1 := ()) (xs := y) (sound_of hΦ) okP (callI_sound (sound_of hΦ) okP 1 2000) (f := Try.f41) rfl hs ha ?_ rfl site
    refine (f41.b_eq L N (fun d xs => some (d, xs)) d.1).trans ?_
    refine ((f41.b_nat (fun y => (some ((), y) : Option (RN.Den .row × List Int))) L N some d.1)).trans ?_
    rw [show f41.b L N some d.1 = some y from hy]
    rfl
  · intro y hy
    cases hy
def Φ41 (L N : Nat) : Tells := (addT (Φ81_1 L N) 41 (f41.ent L N))
theorem Φ41_ok (L N : Nat) : TellsOk Try.prog (Φ41 L N) := addT_ok (Φ81_1_ok L N) (f41.ok L N (Φ81_1_ok L N))
def f102.s0' {R : Type} (L N : Nat) (n0 : Nat) (k0_e0 : Int → LM → Option R) (rec0 : Int → Int → LM → Option R) (s0 : Int) (s1 : Int) (s2 : LM) : Option R :=
  bif (decide (s1 < (s2.length : Int))) then
    bif (decide (0 ≤ s1) && decide (s1 < (s2.length : Int))) then
      bif (decide (0 ≤ s1) && decide (s1 < ((s2.set s1.toNat (Move.mk s0 ((listAt s2 (Ty.dflt (.st 0)) s1.toNat).to))).length : Int))) then
        rec0 (wi ((wi (s0 + (1 : Int))) + (1 : Int))) (wi (s1 + (1 : Int))) ((s2.set s1.toNat (Move.mk s0 ((listAt s2 (Ty.dflt (.st 0)) s1.toNat).to))).set s1.toNat (Move.mk ((listAt (s2.set s1.toNat (Move.mk s0 ((listAt s2 (Ty.dflt (.st 0)) s1.toNat).to))) (Ty.dflt (.st 0)) s1.toNat).act) (wi (s0 + (1 : Int)))))
      else none
    else none
  else k0_e0 s0 s2
def f102.s0 {R : Type} (L N : Nat) (n0 : Nat) (k0_e0 : Int → LM → Option R) (rec0 : Int → Int → LM → Option R) (s0 : Int) (s1 : Int) (s2 : LM) : Option R :=
  f102.s0' L N n0 k0_e0 rec0 s0 s1 s2
def f102.l0 {R : Type} (L N : Nat) (n0 : Nat) (k0_e0 : Int → LM → Option R) : Nat → Int → Int → LM → Option R
  | 0, _, _, _ => none
  | n + 1, s0, s1, s2 => f102.s0 L N n0 k0_e0 (f102.l0 L N n0 k0_e0 n) s0 s1 s2
def f102.T0 (s0 : Int) (s1 : Int) (s2 : LM) : T := mkT 27 [(0, (.row 0)), (1, (.tv i64 s0)), (5, (.tv i64 s1))] ++ [.row 0]
def f102.H0 (s0 : Int) (s1 : Int) (s2 : LM) : H := [(0, (.row 53 (.st 0) s2))]
def f102.T0_e0 (z3 : Int) (z4 : LM) : T := mkT 27 [(1, (.tv i64 z3))] ++ [.row 0]
def f102.H0_e0 (z3 : Int) (z4 : LM) : H := [(0, (.row 53 (.st 0) z4))]
def f102.p0_e0' {R : Type} (L N : Nat) (n0 : Nat) (k : Int → LM → Option R) (z3 : Int) (z4 : LM) : Option R :=
  bif (Nat.beq z4.length n0) then
    k z3 z4
  else none
def f102.p0_e0 {R : Type} (L N : Nat) (n0 : Nat) (k : Int → LM → Option R) (z3 : Int) (z4 : LM) : Option R :=
  f102.p0_e0' L N n0 k z3 z4
def f102.b' {R : Type} (L N : Nat) (n0 : Nat) (k : Int → LM → Option R) (w0 : Int → Int → LM → Option R) (oo : List Move) (x0 : Int) : Option R :=
  w0 x0 (0 : Int) oo
def f102.b {R : Type} (L N : Nat) (n0 : Nat) (k : Int → LM → Option R) (oo : List Move) (x0 : Int) : Option R :=
  f102.b' L N n0 k (fun s0 s1 s2 => f102.l0 L N n0 (fun z3 z4 => f102.p0_e0 L N n0 k z3 z4) L s0 s1 s2) oo x0
def f102 (L N : Nat) (oo : List Move) (x0 : Int) : Option (Int × LM) := f102.b L N oo.length (fun a0 a1 => some (a0, a1)) oo x0
def f102.ent (L N : Nat) (args : List AV) (vw : View) (site : Nat) : Ans := match ownD none 53 (.st 0) [i64] vw args with
  | some (o, xs, d, u) => ⟨Int × LM, f102 L N xs d.1, fun y => ((.tv i64 y.1), u ++ [(o, some (mkO none 53 (.st 0) y.2))], [])⟩
  | none => Ans.no
noncomputable def E102 (L N : Nat) : Env := { P := Try.prog, ty := tyOf, Φ := (Φ41 L N), inl := inlT, live := lives, liveX := livesX, L := L, dp := none, prom := promT, heal := healT, ren := renT }
noncomputable def f102.c0 : Code := loopAt 0 (codeOf Try.f102)
theorem f102.s0_pre {R : Type} (L N n0 : Nat) (κ : Ex → T → H → Option R) (rec : T → H → Option R) (s0 : Int) (s1 : Int) (s2 : LM) :
    evRd (E102 L N) (evCallI (E102 L N) 1 2000) 1000 102 27 0 f102.c0 κ rec (f102.T0 s0 s1 s2) (f102.H0 s0 s1 s2)
    = f102.s0' L N n0 (fun z3 z4 => κ (.exit 0) (f102.T0_e0 z3 z4) (f102.H0_e0 z3 z4)) (fun s0 s1 s2 => rec (f102.T0 s0 s1 s2) (f102.H0 s0 s1 s2)) s0 s1 s2 := by kernel_rfl
theorem f102.s0_eq {R : Type} (L N n0 : Nat) (κ : Ex → T → H → Option R) (rec : T → H → Option R) (s0 : Int) (s1 : Int) (s2 : LM) :
    evRd (E102 L N) (evCallI (E102 L N) 1 2000) 1000 102 27 0 f102.c0 κ rec (f102.T0 s0 s1 s2) (f102.H0 s0 s1 s2)
    = f102.s0 L N n0 (fun z3 z4 => κ (.exit 0) (f102.T0_e0 z3 z4) (f102.H0_e0 z3 z4)) (fun s0 s1 s2 => rec (f102.T0 s0 s1 s2) (f102.H0 s0 s1 s2)) s0 s1 s2 := by
  rw [f102.s0_pre L N n0]
  unfold f102.s0
  rfl
theorem f102.l0_eq {R : Type} (L N n0 : Nat) (κ : Ex → T → H → Option R) : ∀ (n : Nat) (s0 : Int) (s1 : Int) (s2 : LM),
    evLp (E102 L N) (evCallI (E102 L N) 1 2000) 1000 102 27 0 f102.c0 κ n (f102.T0 s0 s1 s2) (f102.H0 s0 s1 s2)
    = f102.l0 L N n0 (fun z3 z4 => κ (.exit 0) (f102.T0_e0 z3 z4) (f102.H0_e0 z3 z4)) n s0 s1 s2 := by
  intro n
  induction n with
  | zero => intros; rfl
  | succ n ih =>
    intro s0 s1 s2
    rw [evLp_succ, f102.s0_eq L N n0]
    simp only [ih]
    rfl
theorem f102.p0_e0_pre {R : Type} (L N n0 : Nat) (κ : AV → List Move → Option R) (z3 : Int) (z4 : LM) :
    (contAt (E102 L N) (evCallI (E102 L N) 1 2000) 1000 102 27 0 (codeOf Try.f102) (finK (E102 L N) 1000 Try.f102 (finO (.one i64) none 53 (.st 0) n0 κ))) (.exit 0) (f102.T0_e0 z3 z4) (f102.H0_e0 z3 z4)
    = f102.p0_e0' L N n0 (fun a0 a1 => κ (.tv i64 a0) a1) z3 z4 := by kernel_rfl
theorem f102.p0_e0_eq {R : Type} (L N n0 : Nat) (κ : AV → List Move → Option R) (z3 : Int) (z4 : LM) :
    (contAt (E102 L N) (evCallI (E102 L N) 1 2000) 1000 102 27 0 (codeOf Try.f102) (finK (E102 L N) 1000 Try.f102 (finO (.one i64) none 53 (.st 0) n0 κ))) (.exit 0) (f102.T0_e0 z3 z4) (f102.H0_e0 z3 z4)
    = f102.p0_e0 L N n0 (fun a0 a1 => κ (.tv i64 a0) a1) z3 z4 := by
  rw [f102.p0_e0_pre L N n0]
  unfold f102.p0_e0
  rfl
theorem f102.b_pre {R : Type} (L N n0 : Nat) (κ : AV → List Move → Option R) (oo : List Move) (x0 : Int) :
    evBody (E102 L N) (evCallI (E102 L N) 1 2000) 1000 102 Try.f102 [(.row 0), (.tv i64 x0)] [.row 0] [(0, (.row 53 (.st 0) oo))] (finO (.one i64) none 53 (.st 0) n0 κ)
    = f102.b' L N n0 (fun a0 a1 => κ (.tv i64 a0) a1) (fun s0 s1 s2 => evLp (E102 L N) (evCallI (E102 L N) 1 2000) 1000 102 27 0 f102.c0 (contAt (E102 L N) (evCallI (E102 L N) 1 2000) 1000 102 27 0 (codeOf Try.f102) (finK (E102 L N) 1000 Try.f102 (finO (.one i64) none 53 (.st 0) n0 κ))) L (f102.T0 s0 s1 s2) (f102.H0 s0 s1 s2)) oo x0 := by kernel_rfl
theorem f102.b_eq {R : Type} (L N n0 : Nat) (κ : AV → List Move → Option R) (oo : List Move) (x0 : Int) :
    evBody (E102 L N) (evCallI (E102 L N) 1 2000) 1000 102 Try.f102 [(.row 0), (.tv i64 x0)] [.row 0] [(0, (.row 53 (.st 0) oo))] (finO (.one i64) none 53 (.st 0) n0 κ)
    = f102.b L N n0 (fun a0 a1 => κ (.tv i64 a0) a1) oo x0 := by
  rw [f102.b_pre L N n0]
  unfold f102.b
  simp only [f102.l0_eq L N n0, f102.p0_e0_eq L N n0]
theorem f102.s0'_nat {R R' : Type} (j : R → Option R') (L N : Nat) (n0 : Nat) (k0_e0 : Int → LM → Option R) (rec0 : Int → Int → LM → Option R) (s0 : Int) (s1 : Int) (s2 : LM) :
    f102.s0' L N n0 (fun a0 a1 => (k0_e0 a0 a1).bind j) (fun a0 a1 a2 => (rec0 a0 a1 a2).bind j) s0 s1 s2 = (f102.s0' L N n0 k0_e0 rec0 s0 s1 s2).bind j := by
  unfold f102.s0'
  repeat' (first | (with_reducible refine cond_nat ?_ ?_) | (with_reducible refine bind_nat fun _ => ?_) | rfl)
theorem f102.s0_nat {R R' : Type} (j : R → Option R') (L N : Nat) (n0 : Nat) (k0_e0 : Int → LM → Option R) (rec0 : Int → Int → LM → Option R) (s0 : Int) (s1 : Int) (s2 : LM) :
    f102.s0 L N n0 (fun a0 a1 => (k0_e0 a0 a1).bind j) (fun a0 a1 a2 => (rec0 a0 a1 a2).bind j) s0 s1 s2 = (f102.s0 L N n0 k0_e0 rec0 s0 s1 s2).bind j := by
  unfold f102.s0
  exact f102.s0'_nat ..
theorem f102.l0_nat {R R' : Type} (j : R → Option R') (L N : Nat) (n0 : Nat) (k0_e0 : Int → LM → Option R) : ∀ (n : Nat) (s0 : Int) (s1 : Int) (s2 : LM),
    f102.l0 L N n0 (fun a0 a1 => (k0_e0 a0 a1).bind j) n s0 s1 s2 = (f102.l0 L N n0 k0_e0 n s0 s1 s2).bind j := by
  intro n
  induction n with
  | zero => intros; rfl
  | succ n ih =>
    intro s0 s1 s2
    show f102.s0 L N n0 (fun a0 a1 => (k0_e0 a0 a1).bind j) (f102.l0 L N n0 (fun a0 a1 => (k0_e0 a0 a1).bind j) n) s0 s1 s2 = _
    rw [show f102.l0 L N n0 (fun a0 a1 => (k0_e0 a0 a1).bind j) n = (fun s0 s1 s2 => (f102.l0 L N n0 k0_e0 n s0 s1 s2).bind j) from funext fun s0 => funext fun s1 => funext fun s2 => ih s0 s1 s2]
    exact f102.s0_nat ..
theorem f102.p0_e0'_nat {R R' : Type} (j : R → Option R') (L N : Nat) (n0 : Nat) (k : Int → LM → Option R) (z3 : Int) (z4 : LM) :
    f102.p0_e0' L N n0 (fun a0 a1 => (k a0 a1).bind j) z3 z4 = (f102.p0_e0' L N n0 k z3 z4).bind j := by
  unfold f102.p0_e0'
  repeat' (first | (with_reducible refine cond_nat ?_ ?_) | (with_reducible refine bind_nat fun _ => ?_) | rfl)
theorem f102.p0_e0_nat {R R' : Type} (j : R → Option R') (L N : Nat) (n0 : Nat) (k : Int → LM → Option R) (z3 : Int) (z4 : LM) :
    f102.p0_e0 L N n0 (fun a0 a1 => (k a0 a1).bind j) z3 z4 = (f102.p0_e0 L N n0 k z3 z4).bind j := by
  unfold f102.p0_e0
  exact f102.p0_e0'_nat ..
theorem f102.b'_nat {R R' : Type} (j : R → Option R') (L N : Nat) (n0 : Nat) (k : Int → LM → Option R) (w0 : Int → Int → LM → Option R) (oo : List Move) (x0 : Int) :
    f102.b' L N n0 (fun a0 a1 => (k a0 a1).bind j) (fun a0 a1 a2 => (w0 a0 a1 a2).bind j) oo x0 = (f102.b' L N n0 k w0 oo x0).bind j := by
  unfold f102.b'
  repeat' (first | (with_reducible refine cond_nat ?_ ?_) | (with_reducible refine bind_nat fun _ => ?_) | rfl)
theorem f102.b_nat {R R' : Type} (j : R → Option R') (L N : Nat) (n0 : Nat) (k : Int → LM → Option R) (oo : List Move) (x0 : Int) :
    f102.b L N n0 (fun a0 a1 => (k a0 a1).bind j) oo x0 = (f102.b L N n0 k oo x0).bind j := by
  unfold f102.b
  simp only [f102.l0_nat, f102.p0_e0_nat]
  exact f102.b'_nat ..
theorem f102.ok (L N : Nat) (hΦ : TellsOk Try.prog ((Φ41 L N))) : EntOk Try.prog 102 (f102.ent L N) := by
  intro args vw site h
  unfold f102.ent
  split
  · rename_i o xs d u ha
    intro y hy hs
    obtain ⟨rest, rfl, ho, hr, hu⟩ := ownD_some ha
    refine call_own (dep := 1000) (E := (E102 L N)) (tr := [i64]) (q := none) (el := 53) (ty := (.st 0)) (rs := (.one i64)) (v' := (.tv i64 y.1)) (ys := y.2) (sound_of hΦ) okP (callI_sound (sound_of hΦ) okP 1 2000) (f := Try.f102) rfl hs ho hr hu ?_ site
    refine (f102.b_eq L N xs.length (fun v d => some (v, d)) xs d.1).trans ?_
    refine ((f102.b_nat (fun y => (some ((.tv i64 y.1), y.2) : Option (AV × List Move))) L N xs.length (fun a0 a1 => some (a0, a1)) xs d.1)).trans ?_
    rw [show f102.b L N xs.length (fun a0 a1 => some (a0, a1)) xs d.1 = some y from hy]
    rfl
  · intro y hy
    cases hy
def Φ102 (L N : Nat) : Tells := (addT (Φ41 L N) 102 (f102.ent L N))
theorem Φ102_ok (L N : Nat) : TellsOk Try.prog (Φ102 L N) := addT_ok (Φ41_ok L N) (f102.ok L N (Φ41_ok L N))
def f66.s0' {R : Type} (L N : Nat) (n0 : Nat) (k0_e0 : Int → LLM → Option R) (rec0 : Int → Int → LLM → Option R) (s0 : Int) (s1 : Int) (s2 : LLM) : Option R :=
  bif (decide (s1 < (s2.length : Int))) then
    bif (decide (0 ≤ s1) && decide (s1 < (s2.length : Int))) then
      (f102 L N (listAt s2 [] s1.toNat) s0).bind fun y5 =>
      rec0 y5.1 (wi (s1 + (1 : Int))) (s2.set s1.toNat y5.2)
    else none
  else k0_e0 s0 s2
def f66.s0 {R : Type} (L N : Nat) (n0 : Nat) (k0_e0 : Int → LLM → Option R) (rec0 : Int → Int → LLM → Option R) (s0 : Int) (s1 : Int) (s2 : LLM) : Option R :=
  f66.s0' L N n0 k0_e0 rec0 s0 s1 s2
def f66.l0 {R : Type} (L N : Nat) (n0 : Nat) (k0_e0 : Int → LLM → Option R) : Nat → Int → Int → LLM → Option R
  | 0, _, _, _ => none
  | n + 1, s0, s1, s2 => f66.s0 L N n0 k0_e0 (f66.l0 L N n0 k0_e0 n) s0 s1 s2
def f66.T0 (s0 : Int) (s1 : Int) (s2 : LLM) : T := mkT 19 [(0, (.row 0)), (1, (.tv i64 s0)), (5, (.tv i64 s1))] ++ [.row 0]
def f66.H0 (s0 : Int) (s1 : Int) (s2 : LLM) : H := [(0, (.deep 0 (.sl (.st 0)) s2 none))]
def f66.T0_e0 (z3 : Int) (z4 : LLM) : T := mkT 19 [(1, (.tv i64 z3))] ++ [.row 0]
def f66.H0_e0 (z3 : Int) (z4 : LLM) : H := [(0, (.deep 0 (.sl (.st 0)) z4 none))]
def f66.p0_e0' {R : Type} (L N : Nat) (n0 : Nat) (k : Int → LLM → Option R) (z3 : Int) (z4 : LLM) : Option R :=
  bif (Nat.beq z4.length n0) then
    k z3 z4
  else none
def f66.p0_e0 {R : Type} (L N : Nat) (n0 : Nat) (k : Int → LLM → Option R) (z3 : Int) (z4 : LLM) : Option R :=
  f66.p0_e0' L N n0 k z3 z4
def f66.b' {R : Type} (L N : Nat) (n0 : Nat) (k : Int → LLM → Option R) (w0 : Int → Int → LLM → Option R) (oo : List LM) (x0 : Int) : Option R :=
  w0 x0 (0 : Int) oo
def f66.b {R : Type} (L N : Nat) (n0 : Nat) (k : Int → LLM → Option R) (oo : List LM) (x0 : Int) : Option R :=
  f66.b' L N n0 k (fun s0 s1 s2 => f66.l0 L N n0 (fun z3 z4 => f66.p0_e0 L N n0 k z3 z4) L s0 s1 s2) oo x0
def f66 (L N : Nat) (oo : List LM) (x0 : Int) : Option (Int × LLM) := f66.b L N oo.length (fun a0 a1 => some (a0, a1)) oo x0
def f66.ent (L N : Nat) (args : List AV) (vw : View) (site : Nat) : Ans := match ownD (some 0) 51 (.sl (.st 0)) [i64] vw args with
  | some (o, xs, d, u) => ⟨Int × LLM, f66 L N xs d.1, fun y => ((.tv i64 y.1), u ++ [(o, some (mkO (some 0) 51 (.sl (.st 0)) y.2))], [])⟩
  | none => Ans.no
noncomputable def E66 (L N : Nat) : Env := { P := Try.prog, ty := tyOf, Φ := (Φ102 L N), inl := inlT, live := lives, liveX := livesX, L := L, dp := none, prom := promT, heal := healT, ren := renT }
noncomputable def f66.c0 : Code := loopAt 0 (codeOf Try.f66)
theorem f66.s0_pre {R : Type} (L N n0 : Nat) (κ : Ex → T → H → Option R) (rec : T → H → Option R) (s0 : Int) (s1 : Int) (s2 : LLM) :
    evRd (E66 L N) (evCallI (E66 L N) 1 2000) 1000 66 19 0 f66.c0 κ rec (f66.T0 s0 s1 s2) (f66.H0 s0 s1 s2)
    = f66.s0' L N n0 (fun z3 z4 => κ (.exit 0) (f66.T0_e0 z3 z4) (f66.H0_e0 z3 z4)) (fun s0 s1 s2 => rec (f66.T0 s0 s1 s2) (f66.H0 s0 s1 s2)) s0 s1 s2 := by kernel_rfl
theorem f66.s0_eq {R : Type} (L N n0 : Nat) (κ : Ex → T → H → Option R) (rec : T → H → Option R) (s0 : Int) (s1 : Int) (s2 : LLM) :
    evRd (E66 L N) (evCallI (E66 L N) 1 2000) 1000 66 19 0 f66.c0 κ rec (f66.T0 s0 s1 s2) (f66.H0 s0 s1 s2)
    = f66.s0 L N n0 (fun z3 z4 => κ (.exit 0) (f66.T0_e0 z3 z4) (f66.H0_e0 z3 z4)) (fun s0 s1 s2 => rec (f66.T0 s0 s1 s2) (f66.H0 s0 s1 s2)) s0 s1 s2 := by
  rw [f66.s0_pre L N n0]
  unfold f66.s0
  rfl
theorem f66.l0_eq {R : Type} (L N n0 : Nat) (κ : Ex → T → H → Option R) : ∀ (n : Nat) (s0 : Int) (s1 : Int) (s2 : LLM),
    evLp (E66 L N) (evCallI (E66 L N) 1 2000) 1000 66 19 0 f66.c0 κ n (f66.T0 s0 s1 s2) (f66.H0 s0 s1 s2)
    = f66.l0 L N n0 (fun z3 z4 => κ (.exit 0) (f66.T0_e0 z3 z4) (f66.H0_e0 z3 z4)) n s0 s1 s2 := by
  intro n
  induction n with
  | zero => intros; rfl
  | succ n ih =>
    intro s0 s1 s2
    rw [evLp_succ, f66.s0_eq L N n0]
    simp only [ih]
    rfl
theorem f66.p0_e0_pre {R : Type} (L N n0 : Nat) (κ : AV → List LM → Option R) (z3 : Int) (z4 : LLM) :
    (contAt (E66 L N) (evCallI (E66 L N) 1 2000) 1000 66 19 0 (codeOf Try.f66) (finK (E66 L N) 1000 Try.f66 (finO (.one i64) (some 0) 51 (.sl (.st 0)) n0 κ))) (.exit 0) (f66.T0_e0 z3 z4) (f66.H0_e0 z3 z4)
    = f66.p0_e0' L N n0 (fun a0 a1 => κ (.tv i64 a0) a1) z3 z4 := by kernel_rfl
theorem f66.p0_e0_eq {R : Type} (L N n0 : Nat) (κ : AV → List LM → Option R) (z3 : Int) (z4 : LLM) :
    (contAt (E66 L N) (evCallI (E66 L N) 1 2000) 1000 66 19 0 (codeOf Try.f66) (finK (E66 L N) 1000 Try.f66 (finO (.one i64) (some 0) 51 (.sl (.st 0)) n0 κ))) (.exit 0) (f66.T0_e0 z3 z4) (f66.H0_e0 z3 z4)
    = f66.p0_e0 L N n0 (fun a0 a1 => κ (.tv i64 a0) a1) z3 z4 := by
  rw [f66.p0_e0_pre L N n0]
  unfold f66.p0_e0
  rfl
theorem f66.b_pre {R : Type} (L N n0 : Nat) (κ : AV → List LM → Option R) (oo : List LM) (x0 : Int) :
    evBody (E66 L N) (evCallI (E66 L N) 1 2000) 1000 66 Try.f66 [(.row 0), (.tv i64 x0)] [.row 0] [(0, (.deep 0 (.sl (.st 0)) oo none))] (finO (.one i64) (some 0) 51 (.sl (.st 0)) n0 κ)
    = f66.b' L N n0 (fun a0 a1 => κ (.tv i64 a0) a1) (fun s0 s1 s2 => evLp (E66 L N) (evCallI (E66 L N) 1 2000) 1000 66 19 0 f66.c0 (contAt (E66 L N) (evCallI (E66 L N) 1 2000) 1000 66 19 0 (codeOf Try.f66) (finK (E66 L N) 1000 Try.f66 (finO (.one i64) (some 0) 51 (.sl (.st 0)) n0 κ))) L (f66.T0 s0 s1 s2) (f66.H0 s0 s1 s2)) oo x0 := by kernel_rfl
theorem f66.b_eq {R : Type} (L N n0 : Nat) (κ : AV → List LM → Option R) (oo : List LM) (x0 : Int) :
    evBody (E66 L N) (evCallI (E66 L N) 1 2000) 1000 66 Try.f66 [(.row 0), (.tv i64 x0)] [.row 0] [(0, (.deep 0 (.sl (.st 0)) oo none))] (finO (.one i64) (some 0) 51 (.sl (.st 0)) n0 κ)
    = f66.b L N n0 (fun a0 a1 => κ (.tv i64 a0) a1) oo x0 := by
  rw [f66.b_pre L N n0]
  unfold f66.b
  simp only [f66.l0_eq L N n0, f66.p0_e0_eq L N n0]
theorem f66.s0'_nat {R R' : Type} (j : R → Option R') (L N : Nat) (n0 : Nat) (k0_e0 : Int → LLM → Option R) (rec0 : Int → Int → LLM → Option R) (s0 : Int) (s1 : Int) (s2 : LLM) :
    f66.s0' L N n0 (fun a0 a1 => (k0_e0 a0 a1).bind j) (fun a0 a1 a2 => (rec0 a0 a1 a2).bind j) s0 s1 s2 = (f66.s0' L N n0 k0_e0 rec0 s0 s1 s2).bind j := by
  unfold f66.s0'
  repeat' (first | (with_reducible refine cond_nat ?_ ?_) | (with_reducible refine bind_nat fun _ => ?_) | rfl)
theorem f66.s0_nat {R R' : Type} (j : R → Option R') (L N : Nat) (n0 : Nat) (k0_e0 : Int → LLM → Option R) (rec0 : Int → Int → LLM → Option R) (s0 : Int) (s1 : Int) (s2 : LLM) :
    f66.s0 L N n0 (fun a0 a1 => (k0_e0 a0 a1).bind j) (fun a0 a1 a2 => (rec0 a0 a1 a2).bind j) s0 s1 s2 = (f66.s0 L N n0 k0_e0 rec0 s0 s1 s2).bind j := by
  unfold f66.s0
  exact f66.s0'_nat ..
theorem f66.l0_nat {R R' : Type} (j : R → Option R') (L N : Nat) (n0 : Nat) (k0_e0 : Int → LLM → Option R) : ∀ (n : Nat) (s0 : Int) (s1 : Int) (s2 : LLM),
    f66.l0 L N n0 (fun a0 a1 => (k0_e0 a0 a1).bind j) n s0 s1 s2 = (f66.l0 L N n0 k0_e0 n s0 s1 s2).bind j := by
  intro n
  induction n with
  | zero => intros; rfl
  | succ n ih =>
    intro s0 s1 s2
    show f66.s0 L N n0 (fun a0 a1 => (k0_e0 a0 a1).bind j) (f66.l0 L N n0 (fun a0 a1 => (k0_e0 a0 a1).bind j) n) s0 s1 s2 = _
    rw [show f66.l0 L N n0 (fun a0 a1 => (k0_e0 a0 a1).bind j) n = (fun s0 s1 s2 => (f66.l0 L N n0 k0_e0 n s0 s1 s2).bind j) from funext fun s0 => funext fun s1 => funext fun s2 => ih s0 s1 s2]
    exact f66.s0_nat ..
theorem f66.p0_e0'_nat {R R' : Type} (j : R → Option R') (L N : Nat) (n0 : Nat) (k : Int → LLM → Option R) (z3 : Int) (z4 : LLM) :
    f66.p0_e0' L N n0 (fun a0 a1 => (k a0 a1).bind j) z3 z4 = (f66.p0_e0' L N n0 k z3 z4).bind j := by
  unfold f66.p0_e0'
  repeat' (first | (with_reducible refine cond_nat ?_ ?_) | (with_reducible refine bind_nat fun _ => ?_) | rfl)
theorem f66.p0_e0_nat {R R' : Type} (j : R → Option R') (L N : Nat) (n0 : Nat) (k : Int → LLM → Option R) (z3 : Int) (z4 : LLM) :
    f66.p0_e0 L N n0 (fun a0 a1 => (k a0 a1).bind j) z3 z4 = (f66.p0_e0 L N n0 k z3 z4).bind j := by
  unfold f66.p0_e0
  exact f66.p0_e0'_nat ..
theorem f66.b'_nat {R R' : Type} (j : R → Option R') (L N : Nat) (n0 : Nat) (k : Int → LLM → Option R) (w0 : Int → Int → LLM → Option R) (oo : List LM) (x0 : Int) :
    f66.b' L N n0 (fun a0 a1 => (k a0 a1).bind j) (fun a0 a1 a2 => (w0 a0 a1 a2).bind j) oo x0 = (f66.b' L N n0 k w0 oo x0).bind j := by
  unfold f66.b'
  repeat' (first | (with_reducible refine cond_nat ?_ ?_) | (with_reducible refine bind_nat fun _ => ?_) | rfl)
theorem f66.b_nat {R R' : Type} (j : R → Option R') (L N : Nat) (n0 : Nat) (k : Int → LLM → Option R) (oo : List LM) (x0 : Int) :
    f66.b L N n0 (fun a0 a1 => (k a0 a1).bind j) oo x0 = (f66.b L N n0 k oo x0).bind j := by
  unfold f66.b
  simp only [f66.l0_nat, f66.p0_e0_nat]
  exact f66.b'_nat ..
theorem f66.ok (L N : Nat) (hΦ : TellsOk Try.prog ((Φ102 L N))) : EntOk Try.prog 66 (f66.ent L N) := by
  intro args vw site h
  unfold f66.ent
  split
  · rename_i o xs d u ha
    intro y hy hs
    obtain ⟨rest, rfl, ho, hr, hu⟩ := ownD_some ha
    refine call_own (dep := 1000) (E := (E66 L N)) (tr := [i64]) (q := (some 0)) (el := 51) (ty := (.sl (.st 0))) (rs := (.one i64)) (v' := (.tv i64 y.1)) (ys := y.2) (sound_of hΦ) okP (callI_sound (sound_of hΦ) okP 1 2000) (f := Try.f66) rfl hs ho hr hu ?_ site
    refine (f66.b_eq L N xs.length (fun v d => some (v, d)) xs d.1).trans ?_
    refine ((f66.b_nat (fun y => (some ((.tv i64 y.1), y.2) : Option (AV × List LM))) L N xs.length (fun a0 a1 => some (a0, a1)) xs d.1)).trans ?_
    rw [show f66.b L N xs.length (fun a0 a1 => some (a0, a1)) xs d.1 = some y from hy]
    rfl
  · intro y hy
    cases hy
def Φ66 (L N : Nat) : Tells := (addT (Φ102 L N) 66 (f66.ent L N))
theorem Φ66_ok (L N : Nat) : TellsOk Try.prog (Φ66 L N) := addT_ok (Φ102_ok L N) (f66.ok L N (Φ102_ok L N))
def f7.j0' {R : Type} (L N : Nat) (k : Bool → Option R) (v14 : LI) (v15 : LLM) (v16 : LI) : Option R :=
  (f26 L N v16 (1 : Int)).bind fun y17 =>
  (f27 L N y17.2 (1 : Int)).bind fun y18 =>
  bif (decide (y18 < (0 : Int))) then
    k false
  else bif (y18 != y17.1) then
    k false
  else (f18 L N (Graph.mk v15)).bind fun y19 =>
  (f41 L N (Graph.mk y19)).bind fun y20 =>
  (f21 L N y20 v14).bind fun y21 =>
  bif (!y21) then
    k false
  else (f27 L N y17.2 (1 : Int)).bind fun y22 =>
  bif (decide (y22 < (0 : Int))) then
    k false
  else bif (y22 != y17.1) then
    k false
  else k true
def f7.b' {R : Type} (L N : Nat) (k : Bool → Option R) (x0 : Graph) : Option R :=
  (f15 L N (Graph.mk x0.moves) (1048576 : Int)).bind fun y0 =>
  bif (decide (y0 < (0 : Int))) then
    k true
  else (f18 L N (Graph.mk x0.moves)).bind fun y1 =>
  (f40 L N (Graph.mk y1)).bind fun y2 =>
  (f18 L N (Graph.mk x0.moves)).bind fun y3 =>
  (f41 L N (Graph.mk y3)).bind fun y4 =>
  (f21 L N y4 y2).bind fun y5 =>
  bif (!y5) then
    k false
  else (f18 L N (Graph.mk x0.moves)).bind fun y6 =>
  (f22 L N (Graph.mk y3) (Graph.mk y6)).bind fun y7 =>
  bif (!y7) then
    k false
  else (f66 L N y3 (1 : Int)).bind fun y8 =>
  bif (decide (y8.1 < (0 : Int))) then
    k false
  else (f21 L N y4 y2).bind fun y9 =>
  bif (!y9) then
    k false
  else f7.j0' L N k y2 x0.moves y4
def f7.b {R : Type} (L N : Nat) (k : Bool → Option R) (x0 : Graph) : Option R :=
  f7.b' L N k x0
def f7 (L N : Nat) (x0 : Graph) : Option (Bool) := f7.b L N some x0
def f7.ent (L N : Nat) (args : List AV) (vw : View) (site : Nat) : Ans := match roD [(.st 2)] vw args with
  | some d => ⟨Bool, f7 L N d.1, fun y => ((.tv .bool y), [], [])⟩
  | none => Ans.no
noncomputable def E7 (L N : Nat) : Env := { P := Try.prog, ty := tyOf, Φ := (Φ66 L N), inl := inlT, live := lives, liveX := livesX, L := L, dp := none, prom := promT, heal := healT, ren := renT }
theorem f7.b_pre {R : Type} (L N : Nat) (κ : AV → Option R) (x0 : Graph) :
    evBody (E7 L N) (evCallI (E7 L N) 1 2000) 1000 7 Try.f7 [(.tv (.st 2) x0)] [] [] (finC (.one .bool) κ)
    = f7.b' L N (fun a0 => κ (.tv .bool a0)) x0 := by kernel_rfl
theorem f7.b_eq {R : Type} (L N : Nat) (κ : AV → Option R) (x0 : Graph) :
    evBody (E7 L N) (evCallI (E7 L N) 1 2000) 1000 7 Try.f7 [(.tv (.st 2) x0)] [] [] (finC (.one .bool) κ)
    = f7.b L N (fun a0 => κ (.tv .bool a0)) x0 := by
  rw [f7.b_pre]
  unfold f7.b
  rfl
theorem f7.j0'_nat {R R' : Type} (j : R → Option R') (L N : Nat) (k : Bool → Option R) (v14 : LI) (v15 : LLM) (v16 : LI) :
    f7.j0' L N (fun a0 => (k a0).bind j) v14 v15 v16 = (f7.j0' L N k v14 v15 v16).bind j := by
  unfold f7.j0'
  repeat' (first | (with_reducible refine cond_nat ?_ ?_) | (with_reducible refine bind_nat fun _ => ?_) | rfl)
theorem f7.b'_nat {R R' : Type} (j : R → Option R') (L N : Nat) (k : Bool → Option R) (x0 : Graph) :
    f7.b' L N (fun a0 => (k a0).bind j) x0 = (f7.b' L N k x0).bind j := by
  unfold f7.b'
  repeat' (first | (with_reducible refine cond_nat ?_ ?_) | (with_reducible refine bind_nat fun _ => ?_) | exact f7.j0'_nat .. | rfl)
theorem f7.b_nat {R R' : Type} (j : R → Option R') (L N : Nat) (k : Bool → Option R) (x0 : Graph) :
    f7.b L N (fun a0 => (k a0).bind j) x0 = (f7.b L N k x0).bind j := by
  unfold f7.b
  exact f7.b'_nat ..
theorem f7.ok (L N : Nat) (hΦ : TellsOk Try.prog ((Φ66 L N))) : EntOk Try.prog 7 (f7.ent L N) := by
  intro args vw site h
  unfold f7.ent
  split
  · rename_i d ha
    intro y hy hs
    refine call_ro (dep := 1000) (E := (E7 L N)) (rs := (.one .bool)) (v := (.tv .bool y)) (sound_of hΦ) okP (callI_sound (sound_of hΦ) okP 1 2000) (f := Try.f7) rfl hs ha ?_ rfl site
    refine (f7.b_eq L N some d.1).trans ?_
    refine ((f7.b_nat (fun y => (some (.tv .bool y) : Option AV)) L N some d.1)).trans ?_
    rw [show f7.b L N some d.1 = some y from hy]
    rfl
  · intro y hy
    cases hy
def Φ7 (L N : Nat) : Tells := (addT (Φ66 L N) 7 (f7.ent L N))
theorem Φ7_ok (L N : Nat) : TellsOk Try.prog (Φ7 L N) := addT_ok (Φ66_ok L N) (f7.ok L N (Φ66_ok L N))
end Go.Proofs.Ytdfjdbpklbehoaa.Ev
