/- The seat's functions as plain functions, continued: made by program (wip/gen/gen.py). -/
import Derived.Test.YthkonljgjjlloaaG2a
namespace Go.Proofs.Ythkonljgjjlloaa.Ev
open Go
set_option linter.unusedVariables false
set_option maxRecDepth 20000
theorem f65.j0'_nat {R R' : Type} (j : R → Option R') (L N : Nat) (k : Bool → Option R) (w0 : (List (List Move)) → Int → Int → (List (List Move)) → Option R) (v2 : (List (List Move))) :
    f65.j0' L N (fun a0 => (k a0).bind j) (fun a0 a1 a2 a3 => (w0 a0 a1 a2 a3).bind j) v2 = (f65.j0' L N k w0 v2).bind j := by
  unfold f65.j0'
  repeat' (first | (with_reducible refine cond_nat ?_ ?_) | (with_reducible refine bind_nat fun _ => ?_) | rfl)
theorem f65.b'_nat {R R' : Type} (j : R → Option R') (L N : Nat) (k : Bool → Option R) (w0 : (List (List Move)) → Int → Int → (List (List Move)) → Option R) (x0 : Graph) :
    f65.b' L N (fun a0 => (k a0).bind j) (fun a0 a1 a2 a3 => (w0 a0 a1 a2 a3).bind j) x0 = (f65.b' L N k w0 x0).bind j := by
  unfold f65.b'
  repeat' (first | (with_reducible refine cond_nat ?_ ?_) | (with_reducible refine bind_nat fun _ => ?_) | exact f65.j0'_nat .. | rfl)
theorem f65.b_nat {R R' : Type} (j : R → Option R') (L N : Nat) (k : Bool → Option R) (x0 : Graph) :
    f65.b L N (fun a0 => (k a0).bind j) x0 = (f65.b L N k x0).bind j := by
  unfold f65.b
  simp only [f65.l0_nat, f65.p0_e0_nat, f65.p0_r_nat]
  exact f65.b'_nat ..
theorem f65.ok (L N : Nat) (hΦ : TellsOk Try.prog ((Φ82 L N))) : EntOk Try.prog 65 (f65.ent L N) := by
  intro args vw site h
  unfold f65.ent
  split
  · rename_i d ha
    intro y hy hs
    refine call_ro (dep := 1000) (E := (E65 L N)) (rs := (.one .bool)) (v := (.tv .bool y)) (sound_of hΦ) okP (callI_sound (sound_of hΦ) okP 0 1000) (f := Try.f65) rfl hs ha ?_ rfl site
    refine (f65.b_eq L N some d.1).trans ?_
    refine ((f65.b_nat (fun y => (some (.tv .bool y) : Option AV)) L N some d.1)).trans ?_
    rw [show f65.b L N some d.1 = some y from hy]
    rfl
  · intro y hy
    cases hy
def Φ65 (L N : Nat) : Tells := (addT (Φ82 L N) 65 (f65.ent L N))
theorem Φ65_ok (L N : Nat) : TellsOk Try.prog (Φ65 L N) := addT_ok (Φ82_ok L N) (f65.ok L N (Φ82_ok L N))
def f99.b' {R : Type} (L N : Nat) (k : Bool → Option R) (x0 : Move) : Option R :=
  k (x0.act == (0 : Int))
def f99.b {R : Type} (L N : Nat) (k : Bool → Option R) (x0 : Move) : Option R :=
  f99.b' L N k x0
def f99 (L N : Nat) (x0 : Move) : Option (Bool) := f99.b L N some x0
def f99.ent (L N : Nat) (args : List AV) (vw : View) (site : Nat) : Ans := match roD [(.st 0)] vw args with
  | some d => ⟨Bool, f99 L N d.1, fun y => ((.tv .bool y), [], [])⟩
  | none => Ans.no
noncomputable def E99 (L N : Nat) : Env := { P := Try.prog, ty := tyOf, Φ := (Φ65 L N), inl := fun _ => false, live := lives, liveX := livesX, L := L }
theorem f99.b_pre {R : Type} (L N : Nat) (κ : AV → Option R) (x0 : Move) :
    evBody (E99 L N) (evCallI (E99 L N) 0 1000) 1000 99 Try.f99 [(.tv (.st 0) x0)] [] [] (finC (.one .bool) κ)
    = f99.b' L N (fun a0 => κ (.tv .bool a0)) x0 := by kernel_rfl
theorem f99.b_eq {R : Type} (L N : Nat) (κ : AV → Option R) (x0 : Move) :
    evBody (E99 L N) (evCallI (E99 L N) 0 1000) 1000 99 Try.f99 [(.tv (.st 0) x0)] [] [] (finC (.one .bool) κ)
    = f99.b L N (fun a0 => κ (.tv .bool a0)) x0 := by
  rw [f99.b_pre]
  unfold f99.b
  rfl
theorem f99.b'_nat {R R' : Type} (j : R → Option R') (L N : Nat) (k : Bool → Option R) (x0 : Move) :
    f99.b' L N (fun a0 => (k a0).bind j) x0 = (f99.b' L N k x0).bind j := by
  unfold f99.b'
  repeat' (first | (with_reducible refine cond_nat ?_ ?_) | (with_reducible refine bind_nat fun _ => ?_) | rfl)
theorem f99.b_nat {R R' : Type} (j : R → Option R') (L N : Nat) (k : Bool → Option R) (x0 : Move) :
    f99.b L N (fun a0 => (k a0).bind j) x0 = (f99.b L N k x0).bind j := by
  unfold f99.b
  exact f99.b'_nat ..
theorem f99.ok (L N : Nat) (hΦ : TellsOk Try.prog ((Φ65 L N))) : EntOk Try.prog 99 (f99.ent L N) := by
  intro args vw site h
  unfold f99.ent
  split
  · rename_i d ha
    intro y hy hs
    refine call_ro (dep := 1000) (E := (E99 L N)) (rs := (.one .bool)) (v := (.tv .bool y)) (sound_of hΦ) okP (callI_sound (sound_of hΦ) okP 0 1000) (f := Try.f99) rfl hs ha ?_ rfl site
    refine (f99.b_eq L N some d.1).trans ?_
    refine ((f99.b_nat (fun y => (some (.tv .bool y) : Option AV)) L N some d.1)).trans ?_
    rw [show f99.b L N some d.1 = some y from hy]
    rfl
  · intro y hy
    cases hy
def Φ99 (L N : Nat) : Tells := (addT (Φ65 L N) 99 (f99.ent L N))
theorem Φ99_ok (L N : Nat) : TellsOk Try.prog (Φ99 L N) := addT_ok (Φ65_ok L N) (f99.ok L N (Φ65_ok L N))
def f100_1.s0' {R : Type} (L N : Nat) (k0_e0 : Option R) (k0_r : Int → Option R) (rec0 : (List Move) → Int → Int → Option R) (s0 : (List Move)) (s1 : Int) (s2 : Int) : Option R :=
  bif (decide (s2 < s1)) then
    bif (decide (0 ≤ s2) && decide (s2 < (s0.length : Int))) then
      (f99 L N (listAt s0 (Ty.dflt (.st 0)) s2.toNat)).bind fun y3 =>
      bif y3 then
        k0_r s2
      else rec0 s0 s1 (wi (s2 + (1 : Int)))
    else none
  else k0_e0
def f100_1.s0 {R : Type} (L N : Nat) (k0_e0 : Option R) (k0_r : Int → Option R) (rec0 : (List Move) → Int → Int → Option R) (s0 : (List Move)) (s1 : Int) (s2 : Int) : Option R :=
  f100_1.s0' L N k0_e0 k0_r rec0 s0 s1 s2
def f100_1.l0 {R : Type} (L N : Nat) (k0_e0 : Option R) (k0_r : Int → Option R) : Nat → (List Move) → Int → Int → Option R
  | 0, _, _, _ => none
  | n + 1, s0, s1, s2 => f100_1.s0 L N k0_e0 k0_r (f100_1.l0 L N k0_e0 k0_r n) s0 s1 s2
def f100_1.T0 (s0 : (List Move)) (s1 : Int) (s2 : Int) : T := mkT 19 [(0, (.tv (.sl (.st 0)) s0)), (1, (.fn 99 [])), (7, (.tv i64 s1)), (8, (.tv i64 s2))]
def f100_1.H0 (s0 : (List Move)) (s1 : Int) (s2 : Int) : H := []
def f100_1.T0_e0 : T := mkT 19 []
def f100_1.H0_e0 : H := []
def f100_1.T0_r (z4 : Int) : T := mkT 19 [(4, (.tv i64 z4))]
def f100_1.H0_r (z4 : Int) : H := []
def f100_1.p0_e0' {R : Type} (L N : Nat) (k : Int → Option R) : Option R :=
  k (-1 : Int)
def f100_1.p0_e0 {R : Type} (L N : Nat) (k : Int → Option R) : Option R :=
  f100_1.p0_e0' L N k
def f100_1.p0_r' {R : Type} (L N : Nat) (k : Int → Option R) (z4 : Int) : Option R :=
  k z4
def f100_1.p0_r {R : Type} (L N : Nat) (k : Int → Option R) (z4 : Int) : Option R :=
  f100_1.p0_r' L N k z4
def f100_1.b' {R : Type} (L N : Nat) (k : Int → Option R) (w0 : (List Move) → Int → Int → Option R) (x0 : (List Move)) : Option R :=
  w0 x0 (x0.length : Int) (0 : Int)
def f100_1.b {R : Type} (L N : Nat) (k : Int → Option R) (x0 : (List Move)) : Option R :=
  f100_1.b' L N k (fun s0 s1 s2 => f100_1.l0 L N (f100_1.p0_e0 L N k) (fun z4 => f100_1.p0_r L N k z4) L s0 s1 s2) x0
def f100_1 (L N : Nat) (x0 : (List Move)) : Option (Int) := f100_1.b L N some x0
def f100_1.ent (L N : Nat) (args : List AV) (vw : View) (site : Nat) : Option Ans := match shD [(.dat (.sl (.st 0))), (.fn 99 [])] vw args with
  | some d => some ⟨Int, f100_1 L N d.1, fun y => ((.tv i64 y), [], [])⟩
  | none => none
noncomputable def E100_1 (L N : Nat) : Env := { P := Try.prog, ty := tyOf, Φ := (Φ99 L N), inl := fun _ => false, live := lives, liveX := livesX, L := L }
noncomputable def f100_1.c0 : Code := loopAt 0 (codeOf Try.f100)
theorem f100_1.s0_pre {R : Type} (L N : Nat) (κ : Ex → T → H → Option R) (rec : T → H → Option R) (s0 : (List Move)) (s1 : Int) (s2 : Int) :
    evRd (E100_1 L N) (evCallI (E100_1 L N) 0 1000) 1000 100 19 0 f100_1.c0 κ rec (f100_1.T0 s0 s1 s2) (f100_1.H0 s0 s1 s2)
    = f100_1.s0' L N (κ (.exit 0) f100_1.T0_e0 f100_1.H0_e0) (fun z4 => κ .ret (f100_1.T0_r z4) (f100_1.H0_r z4)) (fun s0 s1 s2 => rec (f100_1.T0 s0 s1 s2) (f100_1.H0 s0 s1 s2)) s0 s1 s2 := by kernel_rfl
theorem f100_1.s0_eq {R : Type} (L N : Nat) (κ : Ex → T → H → Option R) (rec : T → H → Option R) (s0 : (List Move)) (s1 : Int) (s2 : Int) :
    evRd (E100_1 L N) (evCallI (E100_1 L N) 0 1000) 1000 100 19 0 f100_1.c0 κ rec (f100_1.T0 s0 s1 s2) (f100_1.H0 s0 s1 s2)
    = f100_1.s0 L N (κ (.exit 0) f100_1.T0_e0 f100_1.H0_e0) (fun z4 => κ .ret (f100_1.T0_r z4) (f100_1.H0_r z4)) (fun s0 s1 s2 => rec (f100_1.T0 s0 s1 s2) (f100_1.H0 s0 s1 s2)) s0 s1 s2 := by
  rw [f100_1.s0_pre]
  unfold f100_1.s0
  rfl
theorem f100_1.l0_eq {R : Type} (L N : Nat) (κ : Ex → T → H → Option R) : ∀ (n : Nat) (s0 : (List Move)) (s1 : Int) (s2 : Int),
    evLp (E100_1 L N) (evCallI (E100_1 L N) 0 1000) 1000 100 19 0 f100_1.c0 κ n (f100_1.T0 s0 s1 s2) (f100_1.H0 s0 s1 s2)
    = f100_1.l0 L N (κ (.exit 0) f100_1.T0_e0 f100_1.H0_e0) (fun z4 => κ .ret (f100_1.T0_r z4) (f100_1.H0_r z4)) n s0 s1 s2 := by
  intro n
  induction n with
  | zero => intros; rfl
  | succ n ih =>
    intro s0 s1 s2
    rw [evLp_succ, f100_1.s0_eq]
    simp only [ih]
    rfl
theorem f100_1.p0_e0_pre {R : Type} (L N : Nat) (κ : AV → Option R) :
    (contAt (E100_1 L N) (evCallI (E100_1 L N) 0 1000) 1000 100 19 0 (codeOf Try.f100) (finK (E100_1 L N) 1000 Try.f100 (finC (.one i64) κ))) (.exit 0) f100_1.T0_e0 f100_1.H0_e0
    = f100_1.p0_e0' L N (fun a0 => κ (.tv i64 a0)) := by kernel_rfl
theorem f100_1.p0_e0_eq {R : Type} (L N : Nat) (κ : AV → Option R) :
    (contAt (E100_1 L N) (evCallI (E100_1 L N) 0 1000) 1000 100 19 0 (codeOf Try.f100) (finK (E100_1 L N) 1000 Try.f100 (finC (.one i64) κ))) (.exit 0) f100_1.T0_e0 f100_1.H0_e0
    = f100_1.p0_e0 L N (fun a0 => κ (.tv i64 a0)) := by
  rw [f100_1.p0_e0_pre]
  unfold f100_1.p0_e0
  rfl
theorem f100_1.p0_r_pre {R : Type} (L N : Nat) (κ : AV → Option R) (z4 : Int) :
    (contAt (E100_1 L N) (evCallI (E100_1 L N) 0 1000) 1000 100 19 0 (codeOf Try.f100) (finK (E100_1 L N) 1000 Try.f100 (finC (.one i64) κ))) .ret (f100_1.T0_r z4) (f100_1.H0_r z4)
    = f100_1.p0_r' L N (fun a0 => κ (.tv i64 a0)) z4 := by kernel_rfl
theorem f100_1.p0_r_eq {R : Type} (L N : Nat) (κ : AV → Option R) (z4 : Int) :
    (contAt (E100_1 L N) (evCallI (E100_1 L N) 0 1000) 1000 100 19 0 (codeOf Try.f100) (finK (E100_1 L N) 1000 Try.f100 (finC (.one i64) κ))) .ret (f100_1.T0_r z4) (f100_1.H0_r z4)
    = f100_1.p0_r L N (fun a0 => κ (.tv i64 a0)) z4 := by
  rw [f100_1.p0_r_pre]
  unfold f100_1.p0_r
  rfl
theorem f100_1.b_pre {R : Type} (L N : Nat) (κ : AV → Option R) (x0 : (List Move)) :
    evBody (E100_1 L N) (evCallI (E100_1 L N) 0 1000) 1000 100 Try.f100 [(.tv (.sl (.st 0)) x0), (.fn 99 [])] [] [] (finC (.one i64) κ)
    = f100_1.b' L N (fun a0 => κ (.tv i64 a0)) (fun s0 s1 s2 => evLp (E100_1 L N) (evCallI (E100_1 L N) 0 1000) 1000 100 19 0 f100_1.c0 (contAt (E100_1 L N) (evCallI (E100_1 L N) 0 1000) 1000 100 19 0 (codeOf Try.f100) (finK (E100_1 L N) 1000 Try.f100 (finC (.one i64) κ))) L (f100_1.T0 s0 s1 s2) (f100_1.H0 s0 s1 s2)) x0 := by kernel_rfl
theorem f100_1.b_eq {R : Type} (L N : Nat) (κ : AV → Option R) (x0 : (List Move)) :
    evBody (E100_1 L N) (evCallI (E100_1 L N) 0 1000) 1000 100 Try.f100 [(.tv (.sl (.st 0)) x0), (.fn 99 [])] [] [] (finC (.one i64) κ)
    = f100_1.b L N (fun a0 => κ (.tv i64 a0)) x0 := by
  rw [f100_1.b_pre]
  unfold f100_1.b
  simp only [f100_1.l0_eq, f100_1.p0_e0_eq, f100_1.p0_r_eq]
theorem f100_1.s0'_nat {R R' : Type} (j : R → Option R') (L N : Nat) (k0_e0 : Option R) (k0_r : Int → Option R) (rec0 : (List Move) → Int → Int → Option R) (s0 : (List Move)) (s1 : Int) (s2 : Int) :
    f100_1.s0' L N (k0_e0.bind j) (fun a0 => (k0_r a0).bind j) (fun a0 a1 a2 => (rec0 a0 a1 a2).bind j) s0 s1 s2 = (f100_1.s0' L N k0_e0 k0_r rec0 s0 s1 s2).bind j := by
  unfold f100_1.s0'
  repeat' (first | (with_reducible refine cond_nat ?_ ?_) | (with_reducible refine bind_nat fun _ => ?_) | rfl)
theorem f100_1.s0_nat {R R' : Type} (j : R → Option R') (L N : Nat) (k0_e0 : Option R) (k0_r : Int → Option R) (rec0 : (List Move) → Int → Int → Option R) (s0 : (List Move)) (s1 : Int) (s2 : Int) :
    f100_1.s0 L N (k0_e0.bind j) (fun a0 => (k0_r a0).bind j) (fun a0 a1 a2 => (rec0 a0 a1 a2).bind j) s0 s1 s2 = (f100_1.s0 L N k0_e0 k0_r rec0 s0 s1 s2).bind j := by
  unfold f100_1.s0
  exact f100_1.s0'_nat ..
theorem f100_1.l0_nat {R R' : Type} (j : R → Option R') (L N : Nat) (k0_e0 : Option R) (k0_r : Int → Option R) : ∀ (n : Nat) (s0 : (List Move)) (s1 : Int) (s2 : Int),
    f100_1.l0 L N (k0_e0.bind j) (fun a0 => (k0_r a0).bind j) n s0 s1 s2 = (f100_1.l0 L N k0_e0 k0_r n s0 s1 s2).bind j := by
  intro n
  induction n with
  | zero => intros; rfl
  | succ n ih =>
    intro s0 s1 s2
    show f100_1.s0 L N (k0_e0.bind j) (fun a0 => (k0_r a0).bind j) (f100_1.l0 L N (k0_e0.bind j) (fun a0 => (k0_r a0).bind j) n) s0 s1 s2 = _
    rw [show f100_1.l0 L N (k0_e0.bind j) (fun a0 => (k0_r a0).bind j) n = (fun s0 s1 s2 => (f100_1.l0 L N k0_e0 k0_r n s0 s1 s2).bind j) from funext fun s0 => funext fun s1 => funext fun s2 => ih s0 s1 s2]
    exact f100_1.s0_nat ..
theorem f100_1.p0_e0'_nat {R R' : Type} (j : R → Option R') (L N : Nat) (k : Int → Option R) :
    f100_1.p0_e0' L N (fun a0 => (k a0).bind j) = (f100_1.p0_e0' L N k).bind j := by
  unfold f100_1.p0_e0'
  repeat' (first | (with_reducible refine cond_nat ?_ ?_) | (with_reducible refine bind_nat fun _ => ?_) | rfl)
theorem f100_1.p0_e0_nat {R R' : Type} (j : R → Option R') (L N : Nat) (k : Int → Option R) :
    f100_1.p0_e0 L N (fun a0 => (k a0).bind j) = (f100_1.p0_e0 L N k).bind j := by
  unfold f100_1.p0_e0
  exact f100_1.p0_e0'_nat ..
theorem f100_1.p0_r'_nat {R R' : Type} (j : R → Option R') (L N : Nat) (k : Int → Option R) (z4 : Int) :
    f100_1.p0_r' L N (fun a0 => (k a0).bind j) z4 = (f100_1.p0_r' L N k z4).bind j := by
  unfold f100_1.p0_r'
  repeat' (first | (with_reducible refine cond_nat ?_ ?_) | (with_reducible refine bind_nat fun _ => ?_) | rfl)
theorem f100_1.p0_r_nat {R R' : Type} (j : R → Option R') (L N : Nat) (k : Int → Option R) (z4 : Int) :
    f100_1.p0_r L N (fun a0 => (k a0).bind j) z4 = (f100_1.p0_r L N k z4).bind j := by
  unfold f100_1.p0_r
  exact f100_1.p0_r'_nat ..
theorem f100_1.b'_nat {R R' : Type} (j : R → Option R') (L N : Nat) (k : Int → Option R) (w0 : (List Move) → Int → Int → Option R) (x0 : (List Move)) :
    f100_1.b' L N (fun a0 => (k a0).bind j) (fun a0 a1 a2 => (w0 a0 a1 a2).bind j) x0 = (f100_1.b' L N k w0 x0).bind j := by
  unfold f100_1.b'
  repeat' (first | (with_reducible refine cond_nat ?_ ?_) | (with_reducible refine bind_nat fun _ => ?_) | rfl)
theorem f100_1.b_nat {R R' : Type} (j : R → Option R') (L N : Nat) (k : Int → Option R) (x0 : (List Move)) :
    f100_1.b L N (fun a0 => (k a0).bind j) x0 = (f100_1.b L N k x0).bind j := by
  unfold f100_1.b
  simp only [f100_1.l0_nat, f100_1.p0_e0_nat, f100_1.p0_r_nat]
  exact f100_1.b'_nat ..
theorem f100_1.ok (L N : Nat) (hΦ : TellsOk Try.prog ((Φ99 L N))) : EntOkO Try.prog 100 (f100_1.ent L N) := by
  intro args vw site h a ha
  unfold f100_1.ent at ha
  split at ha
  · rename_i d hd
    obtain rfl := Option.some.inj ha
    intro y hy hs
    refine call_rof (dep := 1000) (E := (E100_1 L N)) (rs := (.one i64)) (v := (.tv i64 y)) (sound_of hΦ) okP (callI_sound (sound_of hΦ) okP 0 1000) (f := Try.f100) rfl hs hd ?_ rfl site
    refine (f100_1.b_eq L N some d.1).trans ?_
    refine (f100_1.b_nat (fun y => (some (.tv i64 y) : Option AV)) L N some d.1).trans ?_
    rw [show f100_1.b L N some d.1 = some y from hy]
    rfl
  · cases ha
def Φ100_1 (L N : Nat) : Tells := (addO (Φ99 L N) 100 (f100_1.ent L N))
theorem Φ100_1_ok (L N : Nat) : TellsOk Try.prog (Φ100_1 L N) := addO_ok (Φ99_ok L N) (f100_1.ok L N (Φ99_ok L N))
def f84_2.b' {R : Type} (L N : Nat) (k : Bool → Option R) (x0 : (List Move)) : Option R :=
  (f100_1 L N x0).bind fun y0 =>
  k (decide (y0 ≥ (0 : Int)))
def f84_2.b {R : Type} (L N : Nat) (k : Bool → Option R) (x0 : (List Move)) : Option R :=
  f84_2.b' L N k x0
def f84_2 (L N : Nat) (x0 : (List Move)) : Option (Bool) := f84_2.b L N some x0
def f84_2.ent (L N : Nat) (args : List AV) (vw : View) (site : Nat) : Option Ans := match shD [(.dat (.sl (.st 0))), (.fn 99 [])] vw args with
  | some d => some ⟨Bool, f84_2 L N d.1, fun y => ((.tv .bool y), [], [])⟩
  | none => none
noncomputable def E84_2 (L N : Nat) : Env := { P := Try.prog, ty := tyOf, Φ := (Φ100_1 L N), inl := fun _ => false, live := lives, liveX := livesX, L := L }
theorem f84_2.b_pre {R : Type} (L N : Nat) (κ : AV → Option R) (x0 : (List Move)) :
    evBody (E84_2 L N) (evCallI (E84_2 L N) 0 1000) 1000 84 Try.f84 [(.tv (.sl (.st 0)) x0), (.fn 99 [])] [] [] (finC (.one .bool) κ)
    = f84_2.b' L N (fun a0 => κ (.tv .bool a0)) x0 := by kernel_rfl
theorem f84_2.b_eq {R : Type} (L N : Nat) (κ : AV → Option R) (x0 : (List Move)) :
    evBody (E84_2 L N) (evCallI (E84_2 L N) 0 1000) 1000 84 Try.f84 [(.tv (.sl (.st 0)) x0), (.fn 99 [])] [] [] (finC (.one .bool) κ)
    = f84_2.b L N (fun a0 => κ (.tv .bool a0)) x0 := by
  rw [f84_2.b_pre]
  unfold f84_2.b
  rfl
theorem f84_2.b'_nat {R R' : Type} (j : R → Option R') (L N : Nat) (k : Bool → Option R) (x0 : (List Move)) :
    f84_2.b' L N (fun a0 => (k a0).bind j) x0 = (f84_2.b' L N k x0).bind j := by
  unfold f84_2.b'
  repeat' (first | (with_reducible refine cond_nat ?_ ?_) | (with_reducible refine bind_nat fun _ => ?_) | rfl)
theorem f84_2.b_nat {R R' : Type} (j : R → Option R') (L N : Nat) (k : Bool → Option R) (x0 : (List Move)) :
    f84_2.b L N (fun a0 => (k a0).bind j) x0 = (f84_2.b L N k x0).bind j := by
  unfold f84_2.b
  exact f84_2.b'_nat ..
theorem f84_2.ok (L N : Nat) (hΦ : TellsOk Try.prog ((Φ100_1 L N))) : EntOkO Try.prog 84 (f84_2.ent L N) := by
  intro args vw site h a ha
  unfold f84_2.ent at ha
  split at ha
  · rename_i d hd
    obtain rfl := Option.some.inj ha
    intro y hy hs
    refine call_rof (dep := 1000) (E := (E84_2 L N)) (rs := (.one .bool)) (v := (.tv .bool y)) (sound_of hΦ) okP (callI_sound (sound_of hΦ) okP 0 1000) (f := Try.f84) rfl hs hd ?_ rfl site
    refine (f84_2.b_eq L N some d.1).trans ?_
    refine (f84_2.b_nat (fun y => (some (.tv .bool y) : Option AV)) L N some d.1).trans ?_
    rw [show f84_2.b L N some d.1 = some y from hy]
    rfl
  · cases ha
def Φ84_2 (L N : Nat) : Tells := (addO (Φ100_1 L N) 84 (f84_2.ent L N))
theorem Φ84_2_ok (L N : Nat) : TellsOk Try.prog (Φ84_2 L N) := addO_ok (Φ100_1_ok L N) (f84_2.ok L N (Φ100_1_ok L N))
def f83.b' {R : Type} (L N : Nat) (k : Bool → Option R) (x0 : Graph) (x1 : Int) : Option R :=
  bif (decide (0 ≤ x1) && decide (x1 < (x0.moves.length : Int))) then
    (f84_2 L N (listAt x0.moves [] x1.toNat)).bind fun y0 =>
    k (!y0)
  else none
def f83.b {R : Type} (L N : Nat) (k : Bool → Option R) (x0 : Graph) (x1 : Int) : Option R :=
  f83.b' L N k x0 x1
def f83 (L N : Nat) (x0 : Graph) (x1 : Int) : Option (Bool) := f83.b L N some x0 x1
def f83.ent (L N : Nat) (args : List AV) (vw : View) (site : Nat) : Ans := match roD [(.st 2), i64] vw args with
  | some d => ⟨Bool, f83 L N d.1 d.2.1, fun y => ((.tv .bool y), [], [])⟩
  | none => Ans.no
noncomputable def E83 (L N : Nat) : Env := { P := Try.prog, ty := tyOf, Φ := (Φ84_2 L N), inl := fun _ => false, live := lives, liveX := livesX, L := L }
theorem f83.b_pre {R : Type} (L N : Nat) (κ : AV → Option R) (x0 : Graph) (x1 : Int) :
    evBody (E83 L N) (evCallI (E83 L N) 0 1000) 1000 83 Try.f83 [(.tv (.st 2) x0), (.tv i64 x1)] [] [] (finC (.one .bool) κ)
    = f83.b' L N (fun a0 => κ (.tv .bool a0)) x0 x1 := by kernel_rfl
theorem f83.b_eq {R : Type} (L N : Nat) (κ : AV → Option R) (x0 : Graph) (x1 : Int) :
    evBody (E83 L N) (evCallI (E83 L N) 0 1000) 1000 83 Try.f83 [(.tv (.st 2) x0), (.tv i64 x1)] [] [] (finC (.one .bool) κ)
    = f83.b L N (fun a0 => κ (.tv .bool a0)) x0 x1 := by
  rw [f83.b_pre]
  unfold f83.b
  rfl
theorem f83.b'_nat {R R' : Type} (j : R → Option R') (L N : Nat) (k : Bool → Option R) (x0 : Graph) (x1 : Int) :
    f83.b' L N (fun a0 => (k a0).bind j) x0 x1 = (f83.b' L N k x0 x1).bind j := by
  unfold f83.b'
  repeat' (first | (with_reducible refine cond_nat ?_ ?_) | (with_reducible refine bind_nat fun _ => ?_) | rfl)
theorem f83.b_nat {R R' : Type} (j : R → Option R') (L N : Nat) (k : Bool → Option R) (x0 : Graph) (x1 : Int) :
    f83.b L N (fun a0 => (k a0).bind j) x0 x1 = (f83.b L N k x0 x1).bind j := by
  unfold f83.b
  exact f83.b'_nat ..
theorem f83.ok (L N : Nat) (hΦ : TellsOk Try.prog ((Φ84_2 L N))) : EntOk Try.prog 83 (f83.ent L N) := by
  intro args vw site h
  unfold f83.ent
  split
  · rename_i d ha
    intro y hy hs
    refine call_ro (dep := 1000) (E := (E83 L N)) (rs := (.one .bool)) (v := (.tv .bool y)) (sound_of hΦ) okP (callI_sound (sound_of hΦ) okP 0 1000) (f := Try.f83) rfl hs ha ?_ rfl site
    refine (f83.b_eq L N some d.1 d.2.1).trans ?_
    refine ((f83.b_nat (fun y => (some (.tv .bool y) : Option AV)) L N some d.1 d.2.1)).trans ?_
    rw [show f83.b L N some d.1 d.2.1 = some y from hy]
    rfl
  · intro y hy
    cases hy
def Φ83 (L N : Nat) : Tells := (addT (Φ84_2 L N) 83 (f83.ent L N))
theorem Φ83_ok (L N : Nat) : TellsOk Try.prog (Φ83 L N) := addT_ok (Φ84_2_ok L N) (f83.ok L N (Φ84_2_ok L N))
def f94.b' {R : Type} (L N : Nat) (k : Int → Option R) (x0 : Int) : Option R :=
  k (wi ((bif decide ((wi (0 - x0)) > x0) then (wi (0 - x0)) else x0) - (1 : Int)))
def f94.b {R : Type} (L N : Nat) (k : Int → Option R) (x0 : Int) : Option R :=
  f94.b' L N k x0
def f94 (L N : Nat) (x0 : Int) : Option (Int) := f94.b L N some x0
def f94.ent (L N : Nat) (args : List AV) (vw : View) (site : Nat) : Ans := match roD [i64] vw args with
  | some d => ⟨Int, f94 L N d.1, fun y => ((.tv i64 y), [], [])⟩
  | none => Ans.no
noncomputable def E94 (L N : Nat) : Env := { P := Try.prog, ty := tyOf, Φ := (Φ83 L N), inl := fun _ => false, live := lives, liveX := livesX, L := L }
theorem f94.b_pre {R : Type} (L N : Nat) (κ : AV → Option R) (x0 : Int) :
    evBody (E94 L N) (evCallI (E94 L N) 0 1000) 1000 94 Try.f94 [(.tv i64 x0)] [] [] (finC (.one i64) κ)
    = f94.b' L N (fun a0 => κ (.tv i64 a0)) x0 := by kernel_rfl
theorem f94.b_eq {R : Type} (L N : Nat) (κ : AV → Option R) (x0 : Int) :
    evBody (E94 L N) (evCallI (E94 L N) 0 1000) 1000 94 Try.f94 [(.tv i64 x0)] [] [] (finC (.one i64) κ)
    = f94.b L N (fun a0 => κ (.tv i64 a0)) x0 := by
  rw [f94.b_pre]
  unfold f94.b
  rfl
theorem f94.b'_nat {R R' : Type} (j : R → Option R') (L N : Nat) (k : Int → Option R) (x0 : Int) :
    f94.b' L N (fun a0 => (k a0).bind j) x0 = (f94.b' L N k x0).bind j := by
  unfold f94.b'
  repeat' (first | (with_reducible refine cond_nat ?_ ?_) | (with_reducible refine bind_nat fun _ => ?_) | rfl)
theorem f94.b_nat {R R' : Type} (j : R → Option R') (L N : Nat) (k : Int → Option R) (x0 : Int) :
    f94.b L N (fun a0 => (k a0).bind j) x0 = (f94.b L N k x0).bind j := by
  unfold f94.b
  exact f94.b'_nat ..
theorem f94.ok (L N : Nat) (hΦ : TellsOk Try.prog ((Φ83 L N))) : EntOk Try.prog 94 (f94.ent L N) := by
  intro args vw site h
  unfold f94.ent
  split
  · rename_i d ha
    intro y hy hs
    refine call_ro (dep := 1000) (E := (E94 L N)) (rs := (.one i64)) (v := (.tv i64 y)) (sound_of hΦ) okP (callI_sound (sound_of hΦ) okP 0 1000) (f := Try.f94) rfl hs ha ?_ rfl site
    refine (f94.b_eq L N some d.1).trans ?_
    refine ((f94.b_nat (fun y => (some (.tv i64 y) : Option AV)) L N some d.1)).trans ?_
    rw [show f94.b L N some d.1 = some y from hy]
    rfl
  · intro y hy
    cases hy
def Φ94 (L N : Nat) : Tells := (addT (Φ83 L N) 94 (f94.ent L N))
theorem Φ94_ok (L N : Nat) : TellsOk Try.prog (Φ94 L N) := addT_ok (Φ83_ok L N) (f94.ok L N (Φ83_ok L N))
def f86.b' {R : Type} (L N : Nat) (k : Bool → Option R) (x0 : (List Bool)) (x1 : Int) : Option R :=
  bif (decide (x1 < (0 : Int))) then
    (f94 L N x1).bind fun y0 =>
    bif (decide (0 ≤ y0) && decide (y0 < (x0.length : Int))) then
      k (listAt x0 false y0.toNat)
    else none
  else (f94 L N x1).bind fun y1 =>
  bif (decide (0 ≤ (wi ((4 : Int) + y1))) && decide ((wi ((4 : Int) + y1)) < (x0.length : Int))) then
    k (listAt x0 false (wi ((4 : Int) + y1)).toNat)
  else none
def f86.b {R : Type} (L N : Nat) (k : Bool → Option R) (x0 : (List Bool)) (x1 : Int) : Option R :=
  f86.b' L N k x0 x1
def f86 (L N : Nat) (x0 : (List Bool)) (x1 : Int) : Option (Bool) := f86.b L N some x0 x1
def f86.ent (L N : Nat) (args : List AV) (vw : View) (site : Nat) : Ans := match roD [(.sl .bool), i64] vw args with
  | some d => ⟨Bool, f86 L N d.1 d.2.1, fun y => ((.tv .bool y), [], [])⟩
  | none => Ans.no
noncomputable def E86 (L N : Nat) : Env := { P := Try.prog, ty := tyOf, Φ := (Φ94 L N), inl := fun _ => false, live := lives, liveX := livesX, L := L }
theorem f86.b_pre {R : Type} (L N : Nat) (κ : AV → Option R) (x0 : (List Bool)) (x1 : Int) :
    evBody (E86 L N) (evCallI (E86 L N) 0 1000) 1000 86 Try.f86 [(.tv (.sl .bool) x0), (.tv i64 x1)] [] [] (finC (.one .bool) κ)
    = f86.b' L N (fun a0 => κ (.tv .bool a0)) x0 x1 := by kernel_rfl
theorem f86.b_eq {R : Type} (L N : Nat) (κ : AV → Option R) (x0 : (List Bool)) (x1 : Int) :
    evBody (E86 L N) (evCallI (E86 L N) 0 1000) 1000 86 Try.f86 [(.tv (.sl .bool) x0), (.tv i64 x1)] [] [] (finC (.one .bool) κ)
    = f86.b L N (fun a0 => κ (.tv .bool a0)) x0 x1 := by
  rw [f86.b_pre]
  unfold f86.b
  rfl
theorem f86.b'_nat {R R' : Type} (j : R → Option R') (L N : Nat) (k : Bool → Option R) (x0 : (List Bool)) (x1 : Int) :
    f86.b' L N (fun a0 => (k a0).bind j) x0 x1 = (f86.b' L N k x0 x1).bind j := by
  unfold f86.b'
  repeat' (first | (with_reducible refine cond_nat ?_ ?_) | (with_reducible refine bind_nat fun _ => ?_) | rfl)
theorem f86.b_nat {R R' : Type} (j : R → Option R') (L N : Nat) (k : Bool → Option R) (x0 : (List Bool)) (x1 : Int) :
    f86.b L N (fun a0 => (k a0).bind j) x0 x1 = (f86.b L N k x0 x1).bind j := by
  unfold f86.b
  exact f86.b'_nat ..
theorem f86.ok (L N : Nat) (hΦ : TellsOk Try.prog ((Φ94 L N))) : EntOk Try.prog 86 (f86.ent L N) := by
  intro args vw site h
  unfold f86.ent
  split
  · rename_i d ha
    intro y hy hs
    refine call_ro (dep := 1000) (E := (E86 L N)) (rs := (.one .bool)) (v := (.tv .bool y)) (sound_of hΦ) okP (callI_sound (sound_of hΦ) okP 0 1000) (f := Try.f86) rfl hs ha ?_ rfl site
    refine (f86.b_eq L N some d.1 d.2.1).trans ?_
    refine ((f86.b_nat (fun y => (some (.tv .bool y) : Option AV)) L N some d.1 d.2.1)).trans ?_
    rw [show f86.b L N some d.1 d.2.1 = some y from hy]
    rfl
  · intro y hy
    cases hy
def Φ86 (L N : Nat) : Tells := (addT (Φ94 L N) 86 (f86.ent L N))
theorem Φ86_ok (L N : Nat) : TellsOk Try.prog (Φ86 L N) := addT_ok (Φ94_ok L N) (f86.ok L N (Φ94_ok L N))
def f85_1.b' {R : Type} (L N : Nat) (k : Bool → Option R) (x0 : Move) (x1 : (List Bool)) : Option R :=
  (f86 L N x1 x0.act).bind fun y0 =>
  k y0
def f85_1.b {R : Type} (L N : Nat) (k : Bool → Option R) (x0 : Move) (x1 : (List Bool)) : Option R :=
  f85_1.b' L N k x0 x1
def f85_1 (L N : Nat) (x0 : Move) (x1 : (List Bool)) : Option (Bool) := f85_1.b L N some x0 x1
def f85_1.ent (L N : Nat) (args : List AV) (vw : View) (site : Nat) : Option Ans := match shD [(.dat (.st 0)), (.imp (.sl .bool) 0)] vw args with
  | some d => some ⟨Bool, f85_1 L N d.1 d.2.1, fun y => ((.tv .bool y), [], [])⟩
  | none => none
noncomputable def E85_1 (L N : Nat) : Env := { P := Try.prog, ty := tyOf, Φ := (Φ86 L N), inl := fun _ => false, live := lives, liveX := livesX, L := L }
theorem f85_1.b_pre {R : Type} (L N : Nat) (κ : AV → Option R) (x0 : Move) (x1 : (List Bool)) :
    evBody (E85_1 L N) (evCallI (E85_1 L N) 0 1000) 1000 85 Try.f85 [(.tv (.st 0) x0), (.imp (.sl .bool) x1 0)] [] [] (finC (.one .bool) κ)
    = f85_1.b' L N (fun a0 => κ (.tv .bool a0)) x0 x1 := by kernel_rfl
theorem f85_1.b_eq {R : Type} (L N : Nat) (κ : AV → Option R) (x0 : Move) (x1 : (List Bool)) :
    evBody (E85_1 L N) (evCallI (E85_1 L N) 0 1000) 1000 85 Try.f85 [(.tv (.st 0) x0), (.imp (.sl .bool) x1 0)] [] [] (finC (.one .bool) κ)
    = f85_1.b L N (fun a0 => κ (.tv .bool a0)) x0 x1 := by
  rw [f85_1.b_pre]
  unfold f85_1.b
  rfl
theorem f85_1.b'_nat {R R' : Type} (j : R → Option R') (L N : Nat) (k : Bool → Option R) (x0 : Move) (x1 : (List Bool)) :
    f85_1.b' L N (fun a0 => (k a0).bind j) x0 x1 = (f85_1.b' L N k x0 x1).bind j := by
  unfold f85_1.b'
  repeat' (first | (with_reducible refine cond_nat ?_ ?_) | (with_reducible refine bind_nat fun _ => ?_) | rfl)
theorem f85_1.b_nat {R R' : Type} (j : R → Option R') (L N : Nat) (k : Bool → Option R) (x0 : Move) (x1 : (List Bool)) :
    f85_1.b L N (fun a0 => (k a0).bind j) x0 x1 = (f85_1.b L N k x0 x1).bind j := by
  unfold f85_1.b
  exact f85_1.b'_nat ..
theorem f85_1.ok (L N : Nat) (hΦ : TellsOk Try.prog ((Φ86 L N))) : EntOkO Try.prog 85 (f85_1.ent L N) := by
  intro args vw site h a ha
  unfold f85_1.ent at ha
  split at ha
  · rename_i d hd
    obtain rfl := Option.some.inj ha
    intro y hy hs
    refine call_rof (dep := 1000) (E := (E85_1 L N)) (rs := (.one .bool)) (v := (.tv .bool y)) (sound_of hΦ) okP (callI_sound (sound_of hΦ) okP 0 1000) (f := Try.f85) rfl hs hd ?_ rfl site
    refine (f85_1.b_eq L N some d.1 d.2.1).trans ?_
    refine (f85_1.b_nat (fun y => (some (.tv .bool y) : Option AV)) L N some d.1 d.2.1).trans ?_
    rw [show f85_1.b L N some d.1 d.2.1 = some y from hy]
    rfl
  · cases ha
def Φ85_1 (L N : Nat) : Tells := (addO (Φ86 L N) 85 (f85_1.ent L N))
theorem Φ85_1_ok (L N : Nat) : TellsOk Try.prog (Φ85_1 L N) := addO_ok (Φ86_ok L N) (f85_1.ok L N (Φ86_ok L N))
def f100_2.s0' {R : Type} (L N : Nat) (k0_e0 : Option R) (k0_r : Int → Option R) (rec0 : (List Move) → (List Bool) → Int → Int → Option R) (s0 : (List Move)) (s1 : (List Bool)) (s2 : Int) (s3 : Int) : Option R :=
  bif (decide (s3 < s2)) then
    bif (decide (0 ≤ s3) && decide (s3 < (s0.length : Int))) then
      (f85_1 L N (listAt s0 (Ty.dflt (.st 0)) s3.toNat) s1).bind fun y4 =>
      bif y4 then
        k0_r s3
      else rec0 s0 s1 s2 (wi (s3 + (1 : Int)))
    else none
  else k0_e0
def f100_2.s0 {R : Type} (L N : Nat) (k0_e0 : Option R) (k0_r : Int → Option R) (rec0 : (List Move) → (List Bool) → Int → Int → Option R) (s0 : (List Move)) (s1 : (List Bool)) (s2 : Int) (s3 : Int) : Option R :=
  f100_2.s0' L N k0_e0 k0_r rec0 s0 s1 s2 s3
def f100_2.l0 {R : Type} (L N : Nat) (k0_e0 : Option R) (k0_r : Int → Option R) : Nat → (List Move) → (List Bool) → Int → Int → Option R
  | 0, _, _, _, _ => none
  | n + 1, s0, s1, s2, s3 => f100_2.s0 L N k0_e0 k0_r (f100_2.l0 L N k0_e0 k0_r n) s0 s1 s2 s3
def f100_2.T0 (s0 : (List Move)) (s1 : (List Bool)) (s2 : Int) (s3 : Int) : T := mkT 19 [(0, (.tv (.sl (.st 0)) s0)), (1, (.fn 85 [(.imp (.sl .bool) s1 0)])), (7, (.tv i64 s2)), (8, (.tv i64 s3))]
def f100_2.H0 (s0 : (List Move)) (s1 : (List Bool)) (s2 : Int) (s3 : Int) : H := []
def f100_2.T0_e0 : T := mkT 19 []
def f100_2.H0_e0 : H := []
def f100_2.T0_r (z5 : Int) : T := mkT 19 [(4, (.tv i64 z5))]
def f100_2.H0_r (z5 : Int) : H := []
def f100_2.p0_e0' {R : Type} (L N : Nat) (k : Int → Option R) : Option R :=
  k (-1 : Int)
def f100_2.p0_e0 {R : Type} (L N : Nat) (k : Int → Option R) : Option R :=
  f100_2.p0_e0' L N k
def f100_2.p0_r' {R : Type} (L N : Nat) (k : Int → Option R) (z5 : Int) : Option R :=
  k z5
def f100_2.p0_r {R : Type} (L N : Nat) (k : Int → Option R) (z5 : Int) : Option R :=
  f100_2.p0_r' L N k z5
def f100_2.b' {R : Type} (L N : Nat) (k : Int → Option R) (w0 : (List Move) → (List Bool) → Int → Int → Option R) (x0 : (List Move)) (x1 : (List Bool)) : Option R :=
  w0 x0 x1 (x0.length : Int) (0 : Int)
def f100_2.b {R : Type} (L N : Nat) (k : Int → Option R) (x0 : (List Move)) (x1 : (List Bool)) : Option R :=
  f100_2.b' L N k (fun s0 s1 s2 s3 => f100_2.l0 L N (f100_2.p0_e0 L N k) (fun z5 => f100_2.p0_r L N k z5) L s0 s1 s2 s3) x0 x1
def f100_2 (L N : Nat) (x0 : (List Move)) (x1 : (List Bool)) : Option (Int) := f100_2.b L N some x0 x1
def f100_2.ent (L N : Nat) (args : List AV) (vw : View) (site : Nat) : Option Ans := match shD [(.dat (.sl (.st 0))), (.fn 85 [(.imp (.sl .bool) 0)])] vw args with
  | some d => some ⟨Int, f100_2 L N d.1 d.2.1.1, fun y => ((.tv i64 y), [], [])⟩
  | none => none
noncomputable def E100_2 (L N : Nat) : Env := { P := Try.prog, ty := tyOf, Φ := (Φ85_1 L N), inl := fun _ => false, live := lives, liveX := livesX, L := L }
noncomputable def f100_2.c0 : Code := loopAt 0 (codeOf Try.f100)
theorem f100_2.s0_pre {R : Type} (L N : Nat) (κ : Ex → T → H → Option R) (rec : T → H → Option R) (s0 : (List Move)) (s1 : (List Bool)) (s2 : Int) (s3 : Int) :
    evRd (E100_2 L N) (evCallI (E100_2 L N) 0 1000) 1000 100 19 0 f100_2.c0 κ rec (f100_2.T0 s0 s1 s2 s3) (f100_2.H0 s0 s1 s2 s3)
    = f100_2.s0' L N (κ (.exit 0) f100_2.T0_e0 f100_2.H0_e0) (fun z5 => κ .ret (f100_2.T0_r z5) (f100_2.H0_r z5)) (fun s0 s1 s2 s3 => rec (f100_2.T0 s0 s1 s2 s3) (f100_2.H0 s0 s1 s2 s3)) s0 s1 s2 s3 := by kernel_rfl
theorem f100_2.s0_eq {R : Type} (L N : Nat) (κ : Ex → T → H → Option R) (rec : T → H → Option R) (s0 : (List Move)) (s1 : (List Bool)) (s2 : Int) (s3 : Int) :
    evRd (E100_2 L N) (evCallI (E100_2 L N) 0 1000) 1000 100 19 0 f100_2.c0 κ rec (f100_2.T0 s0 s1 s2 s3) (f100_2.H0 s0 s1 s2 s3)
    = f100_2.s0 L N (κ (.exit 0) f100_2.T0_e0 f100_2.H0_e0) (fun z5 => κ .ret (f100_2.T0_r z5) (f100_2.H0_r z5)) (fun s0 s1 s2 s3 => rec (f100_2.T0 s0 s1 s2 s3) (f100_2.H0 s0 s1 s2 s3)) s0 s1 s2 s3 := by
  rw [f100_2.s0_pre]
  unfold f100_2.s0
  rfl
theorem f100_2.l0_eq {R : Type} (L N : Nat) (κ : Ex → T → H → Option R) : ∀ (n : Nat) (s0 : (List Move)) (s1 : (List Bool)) (s2 : Int) (s3 : Int),
    evLp (E100_2 L N) (evCallI (E100_2 L N) 0 1000) 1000 100 19 0 f100_2.c0 κ n (f100_2.T0 s0 s1 s2 s3) (f100_2.H0 s0 s1 s2 s3)
    = f100_2.l0 L N (κ (.exit 0) f100_2.T0_e0 f100_2.H0_e0) (fun z5 => κ .ret (f100_2.T0_r z5) (f100_2.H0_r z5)) n s0 s1 s2 s3 := by
  intro n
  induction n with
  | zero => intros; rfl
  | succ n ih =>
    intro s0 s1 s2 s3
    rw [evLp_succ, f100_2.s0_eq]
    simp only [ih]
    rfl
theorem f100_2.p0_e0_pre {R : Type} (L N : Nat) (κ : AV → Option R) :
    (contAt (E100_2 L N) (evCallI (E100_2 L N) 0 1000) 1000 100 19 0 (codeOf Try.f100) (finK (E100_2 L N) 1000 Try.f100 (finC (.one i64) κ))) (.exit 0) f100_2.T0_e0 f100_2.H0_e0
    = f100_2.p0_e0' L N (fun a0 => κ (.tv i64 a0)) := by kernel_rfl
theorem f100_2.p0_e0_eq {R : Type} (L N : Nat) (κ : AV → Option R) :
    (contAt (E100_2 L N) (evCallI (E100_2 L N) 0 1000) 1000 100 19 0 (codeOf Try.f100) (finK (E100_2 L N) 1000 Try.f100 (finC (.one i64) κ))) (.exit 0) f100_2.T0_e0 f100_2.H0_e0
    = f100_2.p0_e0 L N (fun a0 => κ (.tv i64 a0)) := by
  rw [f100_2.p0_e0_pre]
  unfold f100_2.p0_e0
  rfl
theorem f100_2.p0_r_pre {R : Type} (L N : Nat) (κ : AV → Option R) (z5 : Int) :
    (contAt (E100_2 L N) (evCallI (E100_2 L N) 0 1000) 1000 100 19 0 (codeOf Try.f100) (finK (E100_2 L N) 1000 Try.f100 (finC (.one i64) κ))) .ret (f100_2.T0_r z5) (f100_2.H0_r z5)
    = f100_2.p0_r' L N (fun a0 => κ (.tv i64 a0)) z5 := by kernel_rfl
theorem f100_2.p0_r_eq {R : Type} (L N : Nat) (κ : AV → Option R) (z5 : Int) :
    (contAt (E100_2 L N) (evCallI (E100_2 L N) 0 1000) 1000 100 19 0 (codeOf Try.f100) (finK (E100_2 L N) 1000 Try.f100 (finC (.one i64) κ))) .ret (f100_2.T0_r z5) (f100_2.H0_r z5)
    = f100_2.p0_r L N (fun a0 => κ (.tv i64 a0)) z5 := by
  rw [f100_2.p0_r_pre]
  unfold f100_2.p0_r
  rfl
theorem f100_2.b_pre {R : Type} (L N : Nat) (κ : AV → Option R) (x0 : (List Move)) (x1 : (List Bool)) :
    evBody (E100_2 L N) (evCallI (E100_2 L N) 0 1000) 1000 100 Try.f100 [(.tv (.sl (.st 0)) x0), (.fn 85 [(.imp (.sl .bool) x1 0)])] [] [] (finC (.one i64) κ)
    = f100_2.b' L N (fun a0 => κ (.tv i64 a0)) (fun s0 s1 s2 s3 => evLp (E100_2 L N) (evCallI (E100_2 L N) 0 1000) 1000 100 19 0 f100_2.c0 (contAt (E100_2 L N) (evCallI (E100_2 L N) 0 1000) 1000 100 19 0 (codeOf Try.f100) (finK (E100_2 L N) 1000 Try.f100 (finC (.one i64) κ))) L (f100_2.T0 s0 s1 s2 s3) (f100_2.H0 s0 s1 s2 s3)) x0 x1 := by kernel_rfl
theorem f100_2.b_eq {R : Type} (L N : Nat) (κ : AV → Option R) (x0 : (List Move)) (x1 : (List Bool)) :
    evBody (E100_2 L N) (evCallI (E100_2 L N) 0 1000) 1000 100 Try.f100 [(.tv (.sl (.st 0)) x0), (.fn 85 [(.imp (.sl .bool) x1 0)])] [] [] (finC (.one i64) κ)
    = f100_2.b L N (fun a0 => κ (.tv i64 a0)) x0 x1 := by
  rw [f100_2.b_pre]
  unfold f100_2.b
  simp only [f100_2.l0_eq, f100_2.p0_e0_eq, f100_2.p0_r_eq]
theorem f100_2.s0'_nat {R R' : Type} (j : R → Option R') (L N : Nat) (k0_e0 : Option R) (k0_r : Int → Option R) (rec0 : (List Move) → (List Bool) → Int → Int → Option R) (s0 : (List Move)) (s1 : (List Bool)) (s2 : Int) (s3 : Int) :
    f100_2.s0' L N (k0_e0.bind j) (fun a0 => (k0_r a0).bind j) (fun a0 a1 a2 a3 => (rec0 a0 a1 a2 a3).bind j) s0 s1 s2 s3 = (f100_2.s0' L N k0_e0 k0_r rec0 s0 s1 s2 s3).bind j := by
  unfold f100_2.s0'
  repeat' (first | (with_reducible refine cond_nat ?_ ?_) | (with_reducible refine bind_nat fun _ => ?_) | rfl)
theorem f100_2.s0_nat {R R' : Type} (j : R → Option R') (L N : Nat) (k0_e0 : Option R) (k0_r : Int → Option R) (rec0 : (List Move) → (List Bool) → Int → Int → Option R) (s0 : (List Move)) (s1 : (List Bool)) (s2 : Int) (s3 : Int) :
    f100_2.s0 L N (k0_e0.bind j) (fun a0 => (k0_r a0).bind j) (fun a0 a1 a2 a3 => (rec0 a0 a1 a2 a3).bind j) s0 s1 s2 s3 = (f100_2.s0 L N k0_e0 k0_r rec0 s0 s1 s2 s3).bind j := by
  unfold f100_2.s0
  exact f100_2.s0'_nat ..
theorem f100_2.l0_nat {R R' : Type} (j : R → Option R') (L N : Nat) (k0_e0 : Option R) (k0_r : Int → Option R) : ∀ (n : Nat) (s0 : (List Move)) (s1 : (List Bool)) (s2 : Int) (s3 : Int),
    f100_2.l0 L N (k0_e0.bind j) (fun a0 => (k0_r a0).bind j) n s0 s1 s2 s3 = (f100_2.l0 L N k0_e0 k0_r n s0 s1 s2 s3).bind j := by
  intro n
  induction n with
  | zero => intros; rfl
  | succ n ih =>
    intro s0 s1 s2 s3
    show f100_2.s0 L N (k0_e0.bind j) (fun a0 => (k0_r a0).bind j) (f100_2.l0 L N (k0_e0.bind j) (fun a0 => (k0_r a0).bind j) n) s0 s1 s2 s3 = _
    rw [show f100_2.l0 L N (k0_e0.bind j) (fun a0 => (k0_r a0).bind j) n = (fun s0 s1 s2 s3 => (f100_2.l0 L N k0_e0 k0_r n s0 s1 s2 s3).bind j) from funext fun s0 => funext fun s1 => funext fun s2 => funext fun s3 => ih s0 s1 s2 s3]
    exact f100_2.s0_nat ..
theorem f100_2.p0_e0'_nat {R R' : Type} (j : R → Option R') (L N : Nat) (k : Int → Option R) :
    f100_2.p0_e0' L N (fun a0 => (k a0).bind j) = (f100_2.p0_e0' L N k).bind j := by
  unfold f100_2.p0_e0'
  repeat' (first | (with_reducible refine cond_nat ?_ ?_) | (with_reducible refine bind_nat fun _ => ?_) | rfl)
theorem f100_2.p0_e0_nat {R R' : Type} (j : R → Option R') (L N : Nat) (k : Int → Option R) :
    f100_2.p0_e0 L N (fun a0 => (k a0).bind j) = (f100_2.p0_e0 L N k).bind j := by
  unfold f100_2.p0_e0
  exact f100_2.p0_e0'_nat ..
theorem f100_2.p0_r'_nat {R R' : Type} (j : R → Option R') (L N : Nat) (k : Int → Option R) (z5 : Int) :
    f100_2.p0_r' L N (fun a0 => (k a0).bind j) z5 = (f100_2.p0_r' L N k z5).bind j := by
  unfold f100_2.p0_r'
  repeat' (first | (with_reducible refine cond_nat ?_ ?_) | (with_reducible refine bind_nat fun _ => ?_) | rfl)
theorem f100_2.p0_r_nat {R R' : Type} (j : R → Option R') (L N : Nat) (k : Int → Option R) (z5 : Int) :
    f100_2.p0_r L N (fun a0 => (k a0).bind j) z5 = (f100_2.p0_r L N k z5).bind j := by
  unfold f100_2.p0_r
  exact f100_2.p0_r'_nat ..
theorem f100_2.b'_nat {R R' : Type} (j : R → Option R') (L N : Nat) (k : Int → Option R) (w0 : (List Move) → (List Bool) → Int → Int → Option R) (x0 : (List Move)) (x1 : (List Bool)) :
    f100_2.b' L N (fun a0 => (k a0).bind j) (fun a0 a1 a2 a3 => (w0 a0 a1 a2 a3).bind j) x0 x1 = (f100_2.b' L N k w0 x0 x1).bind j := by
  unfold f100_2.b'
  repeat' (first | (with_reducible refine cond_nat ?_ ?_) | (with_reducible refine bind_nat fun _ => ?_) | rfl)
theorem f100_2.b_nat {R R' : Type} (j : R → Option R') (L N : Nat) (k : Int → Option R) (x0 : (List Move)) (x1 : (List Bool)) :
    f100_2.b L N (fun a0 => (k a0).bind j) x0 x1 = (f100_2.b L N k x0 x1).bind j := by
  unfold f100_2.b
  simp only [f100_2.l0_nat, f100_2.p0_e0_nat, f100_2.p0_r_nat]
  exact f100_2.b'_nat ..
theorem f100_2.ok (L N : Nat) (hΦ : TellsOk Try.prog ((Φ85_1 L N))) : EntOkO Try.prog 100 (f100_2.ent L N) := by
  intro args vw site h a ha
  unfold f100_2.ent at ha
  split at ha
  · rename_i d hd
    obtain rfl := Option.some.inj ha
    intro y hy hs
    refine call_rof (dep := 1000) (E := (E100_2 L N)) (rs := (.one i64)) (v := (.tv i64 y)) (sound_of hΦ) okP (callI_sound (sound_of hΦ) okP 0 1000) (f := Try.f100) rfl hs hd ?_ rfl site
    refine (f100_2.b_eq L N some d.1 d.2.1.1).trans ?_
    refine (f100_2.b_nat (fun y => (some (.tv i64 y) : Option AV)) L N some d.1 d.2.1.1).trans ?_
    rw [show f100_2.b L N some d.1 d.2.1.1 = some y from hy]
    rfl
  · cases ha
def Φ100_2 (L N : Nat) : Tells := (addO (Φ85_1 L N) 100 (f100_2.ent L N))
theorem Φ100_2_ok (L N : Nat) : TellsOk Try.prog (Φ100_2 L N) := addO_ok (Φ85_1_ok L N) (f100_2.ok L N (Φ85_1_ok L N))
def f84_1.b' {R : Type} (L N : Nat) (k : Bool → Option R) (x0 : (List Move)) (x1 : (List Bool)) : Option R :=
  (f100_2 L N x0 x1).bind fun y0 =>
  k (decide (y0 ≥ (0 : Int)))
def f84_1.b {R : Type} (L N : Nat) (k : Bool → Option R) (x0 : (List Move)) (x1 : (List Bool)) : Option R :=
  f84_1.b' L N k x0 x1
def f84_1 (L N : Nat) (x0 : (List Move)) (x1 : (List Bool)) : Option (Bool) := f84_1.b L N some x0 x1
def f84_1.ent (L N : Nat) (args : List AV) (vw : View) (site : Nat) : Option Ans := match shD [(.dat (.sl (.st 0))), (.fn 85 [(.imp (.sl .bool) 0)])] vw args with
  | some d => some ⟨Bool, f84_1 L N d.1 d.2.1.1, fun y => ((.tv .bool y), [], [])⟩
  | none => none
noncomputable def E84_1 (L N : Nat) : Env := { P := Try.prog, ty := tyOf, Φ := (Φ100_2 L N), inl := fun _ => false, live := lives, liveX := livesX, L := L }
theorem f84_1.b_pre {R : Type} (L N : Nat) (κ : AV → Option R) (x0 : (List Move)) (x1 : (List Bool)) :
    evBody (E84_1 L N) (evCallI (E84_1 L N) 0 1000) 1000 84 Try.f84 [(.tv (.sl (.st 0)) x0), (.fn 85 [(.imp (.sl .bool) x1 0)])] [] [] (finC (.one .bool) κ)
    = f84_1.b' L N (fun a0 => κ (.tv .bool a0)) x0 x1 := by kernel_rfl
theorem f84_1.b_eq {R : Type} (L N : Nat) (κ : AV → Option R) (x0 : (List Move)) (x1 : (List Bool)) :
    evBody (E84_1 L N) (evCallI (E84_1 L N) 0 1000) 1000 84 Try.f84 [(.tv (.sl (.st 0)) x0), (.fn 85 [(.imp (.sl .bool) x1 0)])] [] [] (finC (.one .bool) κ)
    = f84_1.b L N (fun a0 => κ (.tv .bool a0)) x0 x1 := by
  rw [f84_1.b_pre]
  unfold f84_1.b
  rfl
theorem f84_1.b'_nat {R R' : Type} (j : R → Option R') (L N : Nat) (k : Bool → Option R) (x0 : (List Move)) (x1 : (List Bool)) :
    f84_1.b' L N (fun a0 => (k a0).bind j) x0 x1 = (f84_1.b' L N k x0 x1).bind j := by
  unfold f84_1.b'
  repeat' (first | (with_reducible refine cond_nat ?_ ?_) | (with_reducible refine bind_nat fun _ => ?_) | rfl)
theorem f84_1.b_nat {R R' : Type} (j : R → Option R') (L N : Nat) (k : Bool → Option R) (x0 : (List Move)) (x1 : (List Bool)) :
    f84_1.b L N (fun a0 => (k a0).bind j) x0 x1 = (f84_1.b L N k x0 x1).bind j := by
  unfold f84_1.b
  exact f84_1.b'_nat ..
theorem f84_1.ok (L N : Nat) (hΦ : TellsOk Try.prog ((Φ100_2 L N))) : EntOkO Try.prog 84 (f84_1.ent L N) := by
  intro args vw site h a ha
  unfold f84_1.ent at ha
  split at ha
  · rename_i d hd
    obtain rfl := Option.some.inj ha
    intro y hy hs
    refine call_rof (dep := 1000) (E := (E84_1 L N)) (rs := (.one .bool)) (v := (.tv .bool y)) (sound_of hΦ) okP (callI_sound (sound_of hΦ) okP 0 1000) (f := Try.f84) rfl hs hd ?_ rfl site
    refine (f84_1.b_eq L N some d.1 d.2.1.1).trans ?_
    refine (f84_1.b_nat (fun y => (some (.tv .bool y) : Option AV)) L N some d.1 d.2.1.1).trans ?_
    rw [show f84_1.b L N some d.1 d.2.1.1 = some y from hy]
    rfl
  · cases ha
def Φ84_1 (L N : Nat) : Tells := (addO (Φ100_2 L N) 84 (f84_1.ent L N))
theorem Φ84_1_ok (L N : Nat) : TellsOk Try.prog (Φ84_1 L N) := addO_ok (Φ100_2_ok L N) (f84_1.ok L N (Φ100_2_ok L N))
def f66.b' {R : Type} (L N : Nat) (k : Bool → Option R) (x0 : Graph) (x1 : Int) (x2 : (List Bool)) : Option R :=
  (f83 L N (Graph.mk x0.moves) x1).bind fun y0 =>
  bif y0 then
    bif (decide (0 ≤ x1) && decide (x1 < (x0.moves.length : Int))) then
      (f84_1 L N (listAt x0.moves [] x1.toNat) x2).bind fun y1 =>
      k (!y1)
    else none
  else k false
def f66.b {R : Type} (L N : Nat) (k : Bool → Option R) (x0 : Graph) (x1 : Int) (x2 : (List Bool)) : Option R :=
  f66.b' L N k x0 x1 x2
def f66 (L N : Nat) (x0 : Graph) (x1 : Int) (x2 : (List Bool)) : Option (Bool) := f66.b L N some x0 x1 x2
def f66.ent (L N : Nat) (args : List AV) (vw : View) (site : Nat) : Ans := match roD [(.st 2), i64, (.sl .bool)] vw args with
  | some d => ⟨Bool, f66 L N d.1 d.2.1 d.2.2.1, fun y => ((.tv .bool y), [], [])⟩
  | none => Ans.no
noncomputable def E66 (L N : Nat) : Env := { P := Try.prog, ty := tyOf, Φ := (Φ84_1 L N), inl := fun _ => false, live := lives, liveX := livesX, L := L }
theorem f66.b_pre {R : Type} (L N : Nat) (κ : AV → Option R) (x0 : Graph) (x1 : Int) (x2 : (List Bool)) :
    evBody (E66 L N) (evCallI (E66 L N) 0 1000) 1000 66 Try.f66 [(.tv (.st 2) x0), (.tv i64 x1), (.tv (.sl .bool) x2)] [] [] (finC (.one .bool) κ)
    = f66.b' L N (fun a0 => κ (.tv .bool a0)) x0 x1 x2 := by kernel_rfl
theorem f66.b_eq {R : Type} (L N : Nat) (κ : AV → Option R) (x0 : Graph) (x1 : Int) (x2 : (List Bool)) :
    evBody (E66 L N) (evCallI (E66 L N) 0 1000) 1000 66 Try.f66 [(.tv (.st 2) x0), (.tv i64 x1), (.tv (.sl .bool) x2)] [] [] (finC (.one .bool) κ)
    = f66.b L N (fun a0 => κ (.tv .bool a0)) x0 x1 x2 := by
  rw [f66.b_pre]
  unfold f66.b
  rfl
theorem f66.b'_nat {R R' : Type} (j : R → Option R') (L N : Nat) (k : Bool → Option R) (x0 : Graph) (x1 : Int) (x2 : (List Bool)) :
    f66.b' L N (fun a0 => (k a0).bind j) x0 x1 x2 = (f66.b' L N k x0 x1 x2).bind j := by
  unfold f66.b'
  repeat' (first | (with_reducible refine cond_nat ?_ ?_) | (with_reducible refine bind_nat fun _ => ?_) | rfl)
theorem f66.b_nat {R R' : Type} (j : R → Option R') (L N : Nat) (k : Bool → Option R) (x0 : Graph) (x1 : Int) (x2 : (List Bool)) :
    f66.b L N (fun a0 => (k a0).bind j) x0 x1 x2 = (f66.b L N k x0 x1 x2).bind j := by
  unfold f66.b
  exact f66.b'_nat ..
theorem f66.ok (L N : Nat) (hΦ : TellsOk Try.prog ((Φ84_1 L N))) : EntOk Try.prog 66 (f66.ent L N) := by
  intro args vw site h
  unfold f66.ent
  split
  · rename_i d ha
    intro y hy hs
    refine call_ro (dep := 1000) (E := (E66 L N)) (rs := (.one .bool)) (v := (.tv .bool y)) (sound_of hΦ) okP (callI_sound (sound_of hΦ) okP 0 1000) (f := Try.f66) rfl hs ha ?_ rfl site
    refine (f66.b_eq L N some d.1 d.2.1 d.2.2.1).trans ?_
    refine ((f66.b_nat (fun y => (some (.tv .bool y) : Option AV)) L N some d.1 d.2.1 d.2.2.1)).trans ?_
    rw [show f66.b L N some d.1 d.2.1 d.2.2.1 = some y from hy]
    rfl
  · intro y hy
    cases hy
def Φ66 (L N : Nat) : Tells := (addT (Φ84_1 L N) 66 (f66.ent L N))
theorem Φ66_ok (L N : Nat) : TellsOk Try.prog (Φ66 L N) := addT_ok (Φ84_1_ok L N) (f66.ok L N (Φ84_1_ok L N))
def f39.b' {R : Type} (L N : Nat) (k : Bool → Option R) (x0 : Graph) (x1 : Int) (x2 : (List Bool)) : Option R :=
  (f65 L N (Graph.mk x0.moves)).bind fun y0 =>
  bif y0 then
    bif (decide (x1 ≥ (0 : Int))) then
      bif (decide (x1 < (x0.moves.length : Int))) then
        (f17 L N x2).bind fun y1 =>
        bif y1 then
          (f66 L N (Graph.mk x0.moves) x1 x2).bind fun y2 =>
          k y2
        else k false
      else k false
    else k false
  else k false
def f39.b {R : Type} (L N : Nat) (k : Bool → Option R) (x0 : Graph) (x1 : Int) (x2 : (List Bool)) : Option R :=
  f39.b' L N k x0 x1 x2
def f39 (L N : Nat) (x0 : Graph) (x1 : Int) (x2 : (List Bool)) : Option (Bool) := f39.b L N some x0 x1 x2
def f39.ent (L N : Nat) (args : List AV) (vw : View) (site : Nat) : Ans := match roD [(.st 2), i64, (.sl .bool)] vw args with
  | some d => ⟨Bool, f39 L N d.1 d.2.1 d.2.2.1, fun y => ((.tv .bool y), [], [])⟩
  | none => Ans.no
noncomputable def E39 (L N : Nat) : Env := { P := Try.prog, ty := tyOf, Φ := (Φ66 L N), inl := fun _ => false, live := lives, liveX := livesX, L := L }
theorem f39.b_pre {R : Type} (L N : Nat) (κ : AV → Option R) (x0 : Graph) (x1 : Int) (x2 : (List Bool)) :
    evBody (E39 L N) (evCallI (E39 L N) 0 1000) 1000 39 Try.f39 [(.tv (.st 2) x0), (.tv i64 x1), (.tv (.sl .bool) x2)] [] [] (finC (.one .bool) κ)
    = f39.b' L N (fun a0 => κ (.tv .bool a0)) x0 x1 x2 := by kernel_rfl
theorem f39.b_eq {R : Type} (L N : Nat) (κ : AV → Option R) (x0 : Graph) (x1 : Int) (x2 : (List Bool)) :
    evBody (E39 L N) (evCallI (E39 L N) 0 1000) 1000 39 Try.f39 [(.tv (.st 2) x0), (.tv i64 x1), (.tv (.sl .bool) x2)] [] [] (finC (.one .bool) κ)
    = f39.b L N (fun a0 => κ (.tv .bool a0)) x0 x1 x2 := by
  rw [f39.b_pre]
  unfold f39.b
  rfl
theorem f39.b'_nat {R R' : Type} (j : R → Option R') (L N : Nat) (k : Bool → Option R) (x0 : Graph) (x1 : Int) (x2 : (List Bool)) :
    f39.b' L N (fun a0 => (k a0).bind j) x0 x1 x2 = (f39.b' L N k x0 x1 x2).bind j := by
  unfold f39.b'
  repeat' (first | (with_reducible refine cond_nat ?_ ?_) | (with_reducible refine bind_nat fun _ => ?_) | rfl)
theorem f39.b_nat {R R' : Type} (j : R → Option R') (L N : Nat) (k : Bool → Option R) (x0 : Graph) (x1 : Int) (x2 : (List Bool)) :
    f39.b L N (fun a0 => (k a0).bind j) x0 x1 x2 = (f39.b L N k x0 x1 x2).bind j := by
  unfold f39.b
  exact f39.b'_nat ..
theorem f39.ok (L N : Nat) (hΦ : TellsOk Try.prog ((Φ66 L N))) : EntOk Try.prog 39 (f39.ent L N) := by
  intro args vw site h
  unfold f39.ent
  split
  · rename_i d ha
    intro y hy hs
    refine call_ro (dep := 1000) (E := (E39 L N)) (rs := (.one .bool)) (v := (.tv .bool y)) (sound_of hΦ) okP (callI_sound (sound_of hΦ) okP 0 1000) (f := Try.f39) rfl hs ha ?_ rfl site
    refine (f39.b_eq L N some d.1 d.2.1 d.2.2.1).trans ?_
    refine ((f39.b_nat (fun y => (some (.tv .bool y) : Option AV)) L N some d.1 d.2.1 d.2.2.1)).trans ?_
    rw [show f39.b L N some d.1 d.2.1 d.2.2.1 = some y from hy]
    rfl
  · intro y hy
    cases hy
def Φ39 (L N : Nat) : Tells := (addT (Φ66 L N) 39 (f39.ent L N))
theorem Φ39_ok (L N : Nat) : TellsOk Try.prog (Φ39 L N) := addT_ok (Φ66_ok L N) (f39.ok L N (Φ66_ok L N))
def f101.b' {R : Type} (L N : Nat) (k : Bool → Option R) (x0 : Move) (x1 : Move) : Option R :=
  bif (x0.act != x1.act) then
    k false
  else bif (x0.to != x1.to) then
    k false
  else k true
def f101.b {R : Type} (L N : Nat) (k : Bool → Option R) (x0 : Move) (x1 : Move) : Option R :=
  f101.b' L N k x0 x1
def f101 (L N : Nat) (x0 : Move) (x1 : Move) : Option (Bool) := f101.b L N some x0 x1
def f101.ent (L N : Nat) (args : List AV) (vw : View) (site : Nat) : Ans := match roD [(.st 0), (.st 0)] vw args with
  | some d => ⟨Bool, f101 L N d.1 d.2.1, fun y => ((.tv .bool y), [], [])⟩
  | none => Ans.no
noncomputable def E101 (L N : Nat) : Env := { P := Try.prog, ty := tyOf, Φ := (Φ39 L N), inl := fun _ => false, live := lives, liveX := livesX, L := L }
theorem f101.b_pre {R : Type} (L N : Nat) (κ : AV → Option R) (x0 : Move) (x1 : Move) :
    evBody (E101 L N) (evCallI (E101 L N) 0 1000) 1000 101 Try.f101 [(.tv (.st 0) x0), (.tv (.st 0) x1)] [] [] (finC (.one .bool) κ)
    = f101.b' L N (fun a0 => κ (.tv .bool a0)) x0 x1 := by kernel_rfl
theorem f101.b_eq {R : Type} (L N : Nat) (κ : AV → Option R) (x0 : Move) (x1 : Move) :
    evBody (E101 L N) (evCallI (E101 L N) 0 1000) 1000 101 Try.f101 [(.tv (.st 0) x0), (.tv (.st 0) x1)] [] [] (finC (.one .bool) κ)
    = f101.b L N (fun a0 => κ (.tv .bool a0)) x0 x1 := by
  rw [f101.b_pre]
  unfold f101.b
  rfl
theorem f101.b'_nat {R R' : Type} (j : R → Option R') (L N : Nat) (k : Bool → Option R) (x0 : Move) (x1 : Move) :
    f101.b' L N (fun a0 => (k a0).bind j) x0 x1 = (f101.b' L N k x0 x1).bind j := by
  unfold f101.b'
  repeat' (first | (with_reducible refine cond_nat ?_ ?_) | (with_reducible refine bind_nat fun _ => ?_) | rfl)
theorem f101.b_nat {R R' : Type} (j : R → Option R') (L N : Nat) (k : Bool → Option R) (x0 : Move) (x1 : Move) :
    f101.b L N (fun a0 => (k a0).bind j) x0 x1 = (f101.b L N k x0 x1).bind j := by
  unfold f101.b
  exact f101.b'_nat ..
theorem f101.ok (L N : Nat) (hΦ : TellsOk Try.prog ((Φ39 L N))) : EntOk Try.prog 101 (f101.ent L N) := by
  intro args vw site h
  unfold f101.ent
  split
  · rename_i d ha
    intro y hy hs
    refine call_ro (dep := 1000) (E := (E101 L N)) (rs := (.one .bool)) (v := (.tv .bool y)) (sound_of hΦ) okP (callI_sound (sound_of hΦ) okP 0 1000) (f := Try.f101) rfl hs ha ?_ rfl site
    refine (f101.b_eq L N some d.1 d.2.1).trans ?_
    refine ((f101.b_nat (fun y => (some (.tv .bool y) : Option AV)) L N some d.1 d.2.1)).trans ?_
    rw [show f101.b L N some d.1 d.2.1 = some y from hy]
    rfl
  · intro y hy
    cases hy
def Φ101 (L N : Nat) : Tells := (addT (Φ39 L N) 101 (f101.ent L N))
theorem Φ101_ok (L N : Nat) : TellsOk Try.prog (Φ101 L N) := addT_ok (Φ39_ok L N) (f101.ok L N (Φ39_ok L N))
def f87.s0' {R : Type} (L N : Nat) (k0_e0 : Option R) (k0_r : Bool → Option R) (rec0 : (List Move) → (List Move) → Int → Option R) (s0 : (List Move)) (s1 : (List Move)) (s2 : Int) : Option R :=
  bif (decide (s2 < (s0.length : Int))) then
    bif (decide (0 ≤ s2) && decide (s2 < (s0.length : Int))) then
      bif (decide (0 ≤ s2) && decide (s2 < (s1.length : Int))) then
        (f101 L N (listAt s0 (Ty.dflt (.st 0)) s2.toNat) (listAt s1 (Ty.dflt (.st 0)) s2.toNat)).bind fun y3 =>
        bif (!y3) then
          k0_r false
        else rec0 s0 s1 (wi (s2 + (1 : Int)))
      else none
    else none
  else k0_e0
def f87.s0 {R : Type} (L N : Nat) (k0_e0 : Option R) (k0_r : Bool → Option R) (rec0 : (List Move) → (List Move) → Int → Option R) (s0 : (List Move)) (s1 : (List Move)) (s2 : Int) : Option R :=
  f87.s0' L N k0_e0 k0_r rec0 s0 s1 s2
def f87.l0 {R : Type} (L N : Nat) (k0_e0 : Option R) (k0_r : Bool → Option R) : Nat → (List Move) → (List Move) → Int → Option R
  | 0, _, _, _ => none
  | n + 1, s0, s1, s2 => f87.s0 L N k0_e0 k0_r (f87.l0 L N k0_e0 k0_r n) s0 s1 s2
def f87.T0 (s0 : (List Move)) (s1 : (List Move)) (s2 : Int) : T := mkT 27 [(0, (.tv (.sl (.st 0)) s0)), (1, (.tv (.sl (.st 0)) s1)), (5, (.tv i64 s2))]
def f87.H0 (s0 : (List Move)) (s1 : (List Move)) (s2 : Int) : H := []
def f87.T0_e0 : T := mkT 27 []
def f87.H0_e0 : H := []
def f87.T0_r (z4 : Bool) : T := mkT 27 [(4, (.tv .bool z4))]
def f87.H0_r (z4 : Bool) : H := []
def f87.p0_e0' {R : Type} (L N : Nat) (k : Bool → Option R) : Option R :=
  k true
def f87.p0_e0 {R : Type} (L N : Nat) (k : Bool → Option R) : Option R :=
  f87.p0_e0' L N k
def f87.p0_r' {R : Type} (L N : Nat) (k : Bool → Option R) (z4 : Bool) : Option R :=
  k z4
def f87.p0_r {R : Type} (L N : Nat) (k : Bool → Option R) (z4 : Bool) : Option R :=
  f87.p0_r' L N k z4
def f87.b' {R : Type} (L N : Nat) (k : Bool → Option R) (w0 : (List Move) → (List Move) → Int → Option R) (x0 : (List Move)) (x1 : (List Move)) : Option R :=
  bif ((x0.length : Int) != (x1.length : Int)) then
    k false
  else w0 x0 x1 (0 : Int)
def f87.b {R : Type} (L N : Nat) (k : Bool → Option R) (x0 : (List Move)) (x1 : (List Move)) : Option R :=
  f87.b' L N k (fun s0 s1 s2 => f87.l0 L N (f87.p0_e0 L N k) (fun z4 => f87.p0_r L N k z4) L s0 s1 s2) x0 x1
def f87 (L N : Nat) (x0 : (List Move)) (x1 : (List Move)) : Option (Bool) := f87.b L N some x0 x1
def f87.ent (L N : Nat) (args : List AV) (vw : View) (site : Nat) : Ans := match roD [(.sl (.st 0)), (.sl (.st 0))] vw args with
  | some d => ⟨Bool, f87 L N d.1 d.2.1, fun y => ((.tv .bool y), [], [])⟩
  | none => Ans.no
noncomputable def E87 (L N : Nat) : Env := { P := Try.prog, ty := tyOf, Φ := (Φ101 L N), inl := fun _ => false, live := lives, liveX := livesX, L := L }
noncomputable def f87.c0 : Code := loopAt 0 (codeOf Try.f87)
theorem f87.s0_pre {R : Type} (L N : Nat) (κ : Ex → T → H → Option R) (rec : T → H → Option R) (s0 : (List Move)) (s1 : (List Move)) (s2 : Int) :
    evRd (E87 L N) (evCallI (E87 L N) 0 1000) 1000 87 27 0 f87.c0 κ rec (f87.T0 s0 s1 s2) (f87.H0 s0 s1 s2)
    = f87.s0' L N (κ (.exit 0) f87.T0_e0 f87.H0_e0) (fun z4 => κ .ret (f87.T0_r z4) (f87.H0_r z4)) (fun s0 s1 s2 => rec (f87.T0 s0 s1 s2) (f87.H0 s0 s1 s2)) s0 s1 s2 := by kernel_rfl
theorem f87.s0_eq {R : Type} (L N : Nat) (κ : Ex → T → H → Option R) (rec : T → H → Option R) (s0 : (List Move)) (s1 : (List Move)) (s2 : Int) :
    evRd (E87 L N) (evCallI (E87 L N) 0 1000) 1000 87 27 0 f87.c0 κ rec (f87.T0 s0 s1 s2) (f87.H0 s0 s1 s2)
    = f87.s0 L N (κ (.exit 0) f87.T0_e0 f87.H0_e0) (fun z4 => κ .ret (f87.T0_r z4) (f87.H0_r z4)) (fun s0 s1 s2 => rec (f87.T0 s0 s1 s2) (f87.H0 s0 s1 s2)) s0 s1 s2 := by
  rw [f87.s0_pre]
  unfold f87.s0
  rfl
theorem f87.l0_eq {R : Type} (L N : Nat) (κ : Ex → T → H → Option R) : ∀ (n : Nat) (s0 : (List Move)) (s1 : (List Move)) (s2 : Int),
    evLp (E87 L N) (evCallI (E87 L N) 0 1000) 1000 87 27 0 f87.c0 κ n (f87.T0 s0 s1 s2) (f87.H0 s0 s1 s2)
    = f87.l0 L N (κ (.exit 0) f87.T0_e0 f87.H0_e0) (fun z4 => κ .ret (f87.T0_r z4) (f87.H0_r z4)) n s0 s1 s2 := by
  intro n
  induction n with
  | zero => intros; rfl
  | succ n ih =>
    intro s0 s1 s2
    rw [evLp_succ, f87.s0_eq]
    simp only [ih]
    rfl
theorem f87.p0_e0_pre {R : Type} (L N : Nat) (κ : AV → Option R) :
    (contAt (E87 L N) (evCallI (E87 L N) 0 1000) 1000 87 27 0 (codeOf Try.f87) (finK (E87 L N) 1000 Try.f87 (finC (.one .bool) κ))) (.exit 0) f87.T0_e0 f87.H0_e0
    = f87.p0_e0' L N (fun a0 => κ (.tv .bool a0)) := by kernel_rfl
theorem f87.p0_e0_eq {R : Type} (L N : Nat) (κ : AV → Option R) :
    (contAt (E87 L N) (evCallI (E87 L N) 0 1000) 1000 87 27 0 (codeOf Try.f87) (finK (E87 L N) 1000 Try.f87 (finC (.one .bool) κ))) (.exit 0) f87.T0_e0 f87.H0_e0
    = f87.p0_e0 L N (fun a0 => κ (.tv .bool a0)) := by
  rw [f87.p0_e0_pre]
  unfold f87.p0_e0
  rfl
theorem f87.p0_r_pre {R : Type} (L N : Nat) (κ : AV → Option R) (z4 : Bool) :
    (contAt (E87 L N) (evCallI (E87 L N) 0 1000) 1000 87 27 0 (codeOf Try.f87) (finK (E87 L N) 1000 Try.f87 (finC (.one .bool) κ))) .ret (f87.T0_r z4) (f87.H0_r z4)
    = f87.p0_r' L N (fun a0 => κ (.tv .bool a0)) z4 := by kernel_rfl
theorem f87.p0_r_eq {R : Type} (L N : Nat) (κ : AV → Option R) (z4 : Bool) :
    (contAt (E87 L N) (evCallI (E87 L N) 0 1000) 1000 87 27 0 (codeOf Try.f87) (finK (E87 L N) 1000 Try.f87 (finC (.one .bool) κ))) .ret (f87.T0_r z4) (f87.H0_r z4)
    = f87.p0_r L N (fun a0 => κ (.tv .bool a0)) z4 := by
  rw [f87.p0_r_pre]
  unfold f87.p0_r
  rfl
theorem f87.b_pre {R : Type} (L N : Nat) (κ : AV → Option R) (x0 : (List Move)) (x1 : (List Move)) :
    evBody (E87 L N) (evCallI (E87 L N) 0 1000) 1000 87 Try.f87 [(.tv (.sl (.st 0)) x0), (.tv (.sl (.st 0)) x1)] [] [] (finC (.one .bool) κ)
    = f87.b' L N (fun a0 => κ (.tv .bool a0)) (fun s0 s1 s2 => evLp (E87 L N) (evCallI (E87 L N) 0 1000) 1000 87 27 0 f87.c0 (contAt (E87 L N) (evCallI (E87 L N) 0 1000) 1000 87 27 0 (codeOf Try.f87) (finK (E87 L N) 1000 Try.f87 (finC (.one .bool) κ))) L (f87.T0 s0 s1 s2) (f87.H0 s0 s1 s2)) x0 x1 := by kernel_rfl
theorem f87.b_eq {R : Type} (L N : Nat) (κ : AV → Option R) (x0 : (List Move)) (x1 : (List Move)) :
    evBody (E87 L N) (evCallI (E87 L N) 0 1000) 1000 87 Try.f87 [(.tv (.sl (.st 0)) x0), (.tv (.sl (.st 0)) x1)] [] [] (finC (.one .bool) κ)
    = f87.b L N (fun a0 => κ (.tv .bool a0)) x0 x1 := by
  rw [f87.b_pre]
  unfold f87.b
  simp only [f87.l0_eq, f87.p0_e0_eq, f87.p0_r_eq]
theorem f87.s0'_nat {R R' : Type} (j : R → Option R') (L N : Nat) (k0_e0 : Option R) (k0_r : Bool → Option R) (rec0 : (List Move) → (List Move) → Int → Option R) (s0 : (List Move)) (s1 : (List Move)) (s2 : Int) :
    f87.s0' L N (k0_e0.bind j) (fun a0 => (k0_r a0).bind j) (fun a0 a1 a2 => (rec0 a0 a1 a2).bind j) s0 s1 s2 = (f87.s0' L N k0_e0 k0_r rec0 s0 s1 s2).bind j := by
  unfold f87.s0'
  repeat' (first | (with_reducible refine cond_nat ?_ ?_) | (with_reducible refine bind_nat fun _ => ?_) | rfl)
theorem f87.s0_nat {R R' : Type} (j : R → Option R') (L N : Nat) (k0_e0 : Option R) (k0_r : Bool → Option R) (rec0 : (List Move) → (List Move) → Int → Option R) (s0 : (List Move)) (s1 : (List Move)) (s2 : Int) :
    f87.s0 L N (k0_e0.bind j) (fun a0 => (k0_r a0).bind j) (fun a0 a1 a2 => (rec0 a0 a1 a2).bind j) s0 s1 s2 = (f87.s0 L N k0_e0 k0_r rec0 s0 s1 s2).bind j := by
  unfold f87.s0
  exact f87.s0'_nat ..
theorem f87.l0_nat {R R' : Type} (j : R → Option R') (L N : Nat) (k0_e0 : Option R) (k0_r : Bool → Option R) : ∀ (n : Nat) (s0 : (List Move)) (s1 : (List Move)) (s2 : Int),
    f87.l0 L N (k0_e0.bind j) (fun a0 => (k0_r a0).bind j) n s0 s1 s2 = (f87.l0 L N k0_e0 k0_r n s0 s1 s2).bind j := by
  intro n
  induction n with
  | zero => intros; rfl
  | succ n ih =>
    intro s0 s1 s2
    show f87.s0 L N (k0_e0.bind j) (fun a0 => (k0_r a0).bind j) (f87.l0 L N (k0_e0.bind j) (fun a0 => (k0_r a0).bind j) n) s0 s1 s2 = _
    rw [show f87.l0 L N (k0_e0.bind j) (fun a0 => (k0_r a0).bind j) n = (fun s0 s1 s2 => (f87.l0 L N k0_e0 k0_r n s0 s1 s2).bind j) from funext fun s0 => funext fun s1 => funext fun s2 => ih s0 s1 s2]
    exact f87.s0_nat ..
theorem f87.p0_e0'_nat {R R' : Type} (j : R → Option R') (L N : Nat) (k : Bool → Option R) :
    f87.p0_e0' L N (fun a0 => (k a0).bind j) = (f87.p0_e0' L N k).bind j := by
  unfold f87.p0_e0'
  repeat' (first | (with_reducible refine cond_nat ?_ ?_) | (with_reducible refine bind_nat fun _ => ?_) | rfl)
theorem f87.p0_e0_nat {R R' : Type} (j : R → Option R') (L N : Nat) (k : Bool → Option R) :
    f87.p0_e0 L N (fun a0 => (k a0).bind j) = (f87.p0_e0 L N k).bind j := by
  unfold f87.p0_e0
  exact f87.p0_e0'_nat ..
theorem f87.p0_r'_nat {R R' : Type} (j : R → Option R') (L N : Nat) (k : Bool → Option R) (z4 : Bool) :
    f87.p0_r' L N (fun a0 => (k a0).bind j) z4 = (f87.p0_r' L N k z4).bind j := by
  unfold f87.p0_r'
  repeat' (first | (with_reducible refine cond_nat ?_ ?_) | (with_reducible refine bind_nat fun _ => ?_) | rfl)
theorem f87.p0_r_nat {R R' : Type} (j : R → Option R') (L N : Nat) (k : Bool → Option R) (z4 : Bool) :
    f87.p0_r L N (fun a0 => (k a0).bind j) z4 = (f87.p0_r L N k z4).bind j := by
  unfold f87.p0_r
  exact f87.p0_r'_nat ..
theorem f87.b'_nat {R R' : Type} (j : R → Option R') (L N : Nat) (k : Bool → Option R) (w0 : (List Move) → (List Move) → Int → Option R) (x0 : (List Move)) (x1 : (List Move)) :
    f87.b' L N (fun a0 => (k a0).bind j) (fun a0 a1 a2 => (w0 a0 a1 a2).bind j) x0 x1 = (f87.b' L N k w0 x0 x1).bind j := by
  unfold f87.b'
  repeat' (first | (with_reducible refine cond_nat ?_ ?_) | (with_reducible refine bind_nat fun _ => ?_) | rfl)
theorem f87.b_nat {R R' : Type} (j : R → Option R') (L N : Nat) (k : Bool → Option R) (x0 : (List Move)) (x1 : (List Move)) :
    f87.b L N (fun a0 => (k a0).bind j) x0 x1 = (f87.b L N k x0 x1).bind j := by
  unfold f87.b
  simp only [f87.l0_nat, f87.p0_e0_nat, f87.p0_r_nat]
  exact f87.b'_nat ..
theorem f87.ok (L N : Nat) (hΦ : TellsOk Try.prog ((Φ101 L N))) : EntOk Try.prog 87 (f87.ent L N) := by
  intro args vw site h
  unfold f87.ent
  split
  · rename_i d ha
    intro y hy hs
    refine call_ro (dep := 1000) (E := (E87 L N)) (rs := (.one .bool)) (v := (.tv .bool y)) (sound_of hΦ) okP (callI_sound (sound_of hΦ) okP 0 1000) (f := Try.f87) rfl hs ha ?_ rfl site
    refine (f87.b_eq L N some d.1 d.2.1).trans ?_
    refine ((f87.b_nat (fun y => (some (.tv .bool y) : Option AV)) L N some d.1 d.2.1)).trans ?_
    rw [show f87.b L N some d.1 d.2.1 = some y from hy]
    rfl
  · intro y hy
    cases hy
def Φ87 (L N : Nat) : Tells := (addT (Φ101 L N) 87 (f87.ent L N))
theorem Φ87_ok (L N : Nat) : TellsOk Try.prog (Φ87 L N) := addT_ok (Φ101_ok L N) (f87.ok L N (Φ101_ok L N))
def f67.s0' {R : Type} (L N : Nat) (k0_e0 : Option R) (k0_r : Bool → Option R) (rec0 : (List (List Move)) → (List (List Move)) → Int → Option R) (s0 : (List (List Move))) (s1 : (List (List Move))) (s2 : Int) : Option R :=
  bif (decide (s2 < (s0.length : Int))) then
    bif (decide (0 ≤ s2) && decide (s2 < (s0.length : Int))) then
      bif (decide (0 ≤ s2) && decide (s2 < (s1.length : Int))) then
        (f87 L N (listAt s0 [] s2.toNat) (listAt s1 [] s2.toNat)).bind fun y3 =>
        bif (!y3) then
          k0_r false
        else rec0 s0 s1 (wi (s2 + (1 : Int)))
      else none
    else none
  else k0_e0
def f67.s0 {R : Type} (L N : Nat) (k0_e0 : Option R) (k0_r : Bool → Option R) (rec0 : (List (List Move)) → (List (List Move)) → Int → Option R) (s0 : (List (List Move))) (s1 : (List (List Move))) (s2 : Int) : Option R :=
  f67.s0' L N k0_e0 k0_r rec0 s0 s1 s2
def f67.l0 {R : Type} (L N : Nat) (k0_e0 : Option R) (k0_r : Bool → Option R) : Nat → (List (List Move)) → (List (List Move)) → Int → Option R
  | 0, _, _, _ => none
  | n + 1, s0, s1, s2 => f67.s0 L N k0_e0 k0_r (f67.l0 L N k0_e0 k0_r n) s0 s1 s2
def f67.T0 (s0 : (List (List Move))) (s1 : (List (List Move))) (s2 : Int) : T := mkT 27 [(0, (.tv (.sl (.sl (.st 0))) s0)), (1, (.tv (.sl (.sl (.st 0))) s1)), (5, (.tv i64 s2))]
def f67.H0 (s0 : (List (List Move))) (s1 : (List (List Move))) (s2 : Int) : H := []
def f67.T0_e0 : T := mkT 27 []
def f67.H0_e0 : H := []
def f67.T0_r (z4 : Bool) : T := mkT 27 [(4, (.tv .bool z4))]
def f67.H0_r (z4 : Bool) : H := []
def f67.p0_e0' {R : Type} (L N : Nat) (k : Bool → Option R) : Option R :=
  k true
def f67.p0_e0 {R : Type} (L N : Nat) (k : Bool → Option R) : Option R :=
  f67.p0_e0' L N k
def f67.p0_r' {R : Type} (L N : Nat) (k : Bool → Option R) (z4 : Bool) : Option R :=
  k z4
def f67.p0_r {R : Type} (L N : Nat) (k : Bool → Option R) (z4 : Bool) : Option R :=
  f67.p0_r' L N k z4
def f67.b' {R : Type} (L N : Nat) (k : Bool → Option R) (w0 : (List (List Move)) → (List (List Move)) → Int → Option R) (x0 : (List (List Move))) (x1 : (List (List Move))) : Option R :=
  bif ((x0.length : Int) != (x1.length : Int)) then
    k false
  else w0 x0 x1 (0 : Int)
def f67.b {R : Type} (L N : Nat) (k : Bool → Option R) (x0 : (List (List Move))) (x1 : (List (List Move))) : Option R :=
  f67.b' L N k (fun s0 s1 s2 => f67.l0 L N (f67.p0_e0 L N k) (fun z4 => f67.p0_r L N k z4) L s0 s1 s2) x0 x1
def f67 (L N : Nat) (x0 : (List (List Move))) (x1 : (List (List Move))) : Option (Bool) := f67.b L N some x0 x1
def f67.ent (L N : Nat) (args : List AV) (vw : View) (site : Nat) : Ans := match roD [(.sl (.sl (.st 0))), (.sl (.sl (.st 0)))] vw args with
  | some d => ⟨Bool, f67 L N d.1 d.2.1, fun y => ((.tv .bool y), [], [])⟩
  | none => Ans.no
noncomputable def E67 (L N : Nat) : Env := { P := Try.prog, ty := tyOf, Φ := (Φ87 L N), inl := fun _ => false, live := lives, liveX := livesX, L := L }
noncomputable def f67.c0 : Code := loopAt 0 (codeOf Try.f67)
theorem f67.s0_pre {R : Type} (L N : Nat) (κ : Ex → T → H → Option R) (rec : T → H → Option R) (s0 : (List (List Move))) (s1 : (List (List Move))) (s2 : Int) :
    evRd (E67 L N) (evCallI (E67 L N) 0 1000) 1000 67 27 0 f67.c0 κ rec (f67.T0 s0 s1 s2) (f67.H0 s0 s1 s2)
    = f67.s0' L N (κ (.exit 0) f67.T0_e0 f67.H0_e0) (fun z4 => κ .ret (f67.T0_r z4) (f67.H0_r z4)) (fun s0 s1 s2 => rec (f67.T0 s0 s1 s2) (f67.H0 s0 s1 s2)) s0 s1 s2 := by kernel_rfl
theorem f67.s0_eq {R : Type} (L N : Nat) (κ : Ex → T → H → Option R) (rec : T → H → Option R) (s0 : (List (List Move))) (s1 : (List (List Move))) (s2 : Int) :
    evRd (E67 L N) (evCallI (E67 L N) 0 1000) 1000 67 27 0 f67.c0 κ rec (f67.T0 s0 s1 s2) (f67.H0 s0 s1 s2)
    = f67.s0 L N (κ (.exit 0) f67.T0_e0 f67.H0_e0) (fun z4 => κ .ret (f67.T0_r z4) (f67.H0_r z4)) (fun s0 s1 s2 => rec (f67.T0 s0 s1 s2) (f67.H0 s0 s1 s2)) s0 s1 s2 := by
  rw [f67.s0_pre]
  unfold f67.s0
  rfl
theorem f67.l0_eq {R : Type} (L N : Nat) (κ : Ex → T → H → Option R) : ∀ (n : Nat) (s0 : (List (List Move))) (s1 : (List (List Move))) (s2 : Int),
    evLp (E67 L N) (evCallI (E67 L N) 0 1000) 1000 67 27 0 f67.c0 κ n (f67.T0 s0 s1 s2) (f67.H0 s0 s1 s2)
    = f67.l0 L N (κ (.exit 0) f67.T0_e0 f67.H0_e0) (fun z4 => κ .ret (f67.T0_r z4) (f67.H0_r z4)) n s0 s1 s2 := by
  intro n
  induction n with
  | zero => intros; rfl
  | succ n ih =>
    intro s0 s1 s2
    rw [evLp_succ, f67.s0_eq]
    simp only [ih]
    rfl
theorem f67.p0_e0_pre {R : Type} (L N : Nat) (κ : AV → Option R) :
    (contAt (E67 L N) (evCallI (E67 L N) 0 1000) 1000 67 27 0 (codeOf Try.f67) (finK (E67 L N) 1000 Try.f67 (finC (.one .bool) κ))) (.exit 0) f67.T0_e0 f67.H0_e0
    = f67.p0_e0' L N (fun a0 => κ (.tv .bool a0)) := by kernel_rfl
theorem f67.p0_e0_eq {R : Type} (L N : Nat) (κ : AV → Option R) :
    (contAt (E67 L N) (evCallI (E67 L N) 0 1000) 1000 67 27 0 (codeOf Try.f67) (finK (E67 L N) 1000 Try.f67 (finC (.one .bool) κ))) (.exit 0) f67.T0_e0 f67.H0_e0
    = f67.p0_e0 L N (fun a0 => κ (.tv .bool a0)) := by
  rw [f67.p0_e0_pre]
  unfold f67.p0_e0
  rfl
theorem f67.p0_r_pre {R : Type} (L N : Nat) (κ : AV → Option R) (z4 : Bool) :
    (contAt (E67 L N) (evCallI (E67 L N) 0 1000) 1000 67 27 0 (codeOf Try.f67) (finK (E67 L N) 1000 Try.f67 (finC (.one .bool) κ))) .ret (f67.T0_r z4) (f67.H0_r z4)
    = f67.p0_r' L N (fun a0 => κ (.tv .bool a0)) z4 := by kernel_rfl
theorem f67.p0_r_eq {R : Type} (L N : Nat) (κ : AV → Option R) (z4 : Bool) :
    (contAt (E67 L N) (evCallI (E67 L N) 0 1000) 1000 67 27 0 (codeOf Try.f67) (finK (E67 L N) 1000 Try.f67 (finC (.one .bool) κ))) .ret (f67.T0_r z4) (f67.H0_r z4)
    = f67.p0_r L N (fun a0 => κ (.tv .bool a0)) z4 := by
  rw [f67.p0_r_pre]
  unfold f67.p0_r
  rfl
theorem f67.b_pre {R : Type} (L N : Nat) (κ : AV → Option R) (x0 : (List (List Move))) (x1 : (List (List Move))) :
    evBody (E67 L N) (evCallI (E67 L N) 0 1000) 1000 67 Try.f67 [(.tv (.sl (.sl (.st 0))) x0), (.tv (.sl (.sl (.st 0))) x1)] [] [] (finC (.one .bool) κ)
    = f67.b' L N (fun a0 => κ (.tv .bool a0)) (fun s0 s1 s2 => evLp (E67 L N) (evCallI (E67 L N) 0 1000) 1000 67 27 0 f67.c0 (contAt (E67 L N) (evCallI (E67 L N) 0 1000) 1000 67 27 0 (codeOf Try.f67) (finK (E67 L N) 1000 Try.f67 (finC (.one .bool) κ))) L (f67.T0 s0 s1 s2) (f67.H0 s0 s1 s2)) x0 x1 := by kernel_rfl
theorem f67.b_eq {R : Type} (L N : Nat) (κ : AV → Option R) (x0 : (List (List Move))) (x1 : (List (List Move))) :
    evBody (E67 L N) (evCallI (E67 L N) 0 1000) 1000 67 Try.f67 [(.tv (.sl (.sl (.st 0))) x0), (.tv (.sl (.sl (.st 0))) x1)] [] [] (finC (.one .bool) κ)
    = f67.b L N (fun a0 => κ (.tv .bool a0)) x0 x1 := by
  rw [f67.b_pre]
  unfold f67.b
  simp only [f67.l0_eq, f67.p0_e0_eq, f67.p0_r_eq]
theorem f67.s0'_nat {R R' : Type} (j : R → Option R') (L N : Nat) (k0_e0 : Option R) (k0_r : Bool → Option R) (rec0 : (List (List Move)) → (List (List Move)) → Int → Option R) (s0 : (List (List Move))) (s1 : (List (List Move))) (s2 : Int) :
    f67.s0' L N (k0_e0.bind j) (fun a0 => (k0_r a0).bind j) (fun a0 a1 a2 => (rec0 a0 a1 a2).bind j) s0 s1 s2 = (f67.s0' L N k0_e0 k0_r rec0 s0 s1 s2).bind j := by
  unfold f67.s0'
  repeat' (first | (with_reducible refine cond_nat ?_ ?_) | (with_reducible refine bind_nat fun _ => ?_) | rfl)
theorem f67.s0_nat {R R' : Type} (j : R → Option R') (L N : Nat) (k0_e0 : Option R) (k0_r : Bool → Option R) (rec0 : (List (List Move)) → (List (List Move)) → Int → Option R) (s0 : (List (List Move))) (s1 : (List (List Move))) (s2 : Int) :
    f67.s0 L N (k0_e0.bind j) (fun a0 => (k0_r a0).bind j) (fun a0 a1 a2 => (rec0 a0 a1 a2).bind j) s0 s1 s2 = (f67.s0 L N k0_e0 k0_r rec0 s0 s1 s2).bind j := by
  unfold f67.s0
  exact f67.s0'_nat ..
theorem f67.l0_nat {R R' : Type} (j : R → Option R') (L N : Nat) (k0_e0 : Option R) (k0_r : Bool → Option R) : ∀ (n : Nat) (s0 : (List (List Move))) (s1 : (List (List Move))) (s2 : Int),
    f67.l0 L N (k0_e0.bind j) (fun a0 => (k0_r a0).bind j) n s0 s1 s2 = (f67.l0 L N k0_e0 k0_r n s0 s1 s2).bind j := by
  intro n
  induction n with
  | zero => intros; rfl
  | succ n ih =>
    intro s0 s1 s2
    show f67.s0 L N (k0_e0.bind j) (fun a0 => (k0_r a0).bind j) (f67.l0 L N (k0_e0.bind j) (fun a0 => (k0_r a0).bind j) n) s0 s1 s2 = _
    rw [show f67.l0 L N (k0_e0.bind j) (fun a0 => (k0_r a0).bind j) n = (fun s0 s1 s2 => (f67.l0 L N k0_e0 k0_r n s0 s1 s2).bind j) from funext fun s0 => funext fun s1 => funext fun s2 => ih s0 s1 s2]
    exact f67.s0_nat ..
theorem f67.p0_e0'_nat {R R' : Type} (j : R → Option R') (L N : Nat) (k : Bool → Option R) :
    f67.p0_e0' L N (fun a0 => (k a0).bind j) = (f67.p0_e0' L N k).bind j := by
  unfold f67.p0_e0'
  repeat' (first | (with_reducible refine cond_nat ?_ ?_) | (with_reducible refine bind_nat fun _ => ?_) | rfl)
theorem f67.p0_e0_nat {R R' : Type} (j : R → Option R') (L N : Nat) (k : Bool → Option R) :
    f67.p0_e0 L N (fun a0 => (k a0).bind j) = (f67.p0_e0 L N k).bind j := by
  unfold f67.p0_e0
  exact f67.p0_e0'_nat ..
theorem f67.p0_r'_nat {R R' : Type} (j : R → Option R') (L N : Nat) (k : Bool → Option R) (z4 : Bool) :
    f67.p0_r' L N (fun a0 => (k a0).bind j) z4 = (f67.p0_r' L N k z4).bind j := by
  unfold f67.p0_r'
  repeat' (first | (with_reducible refine cond_nat ?_ ?_) | (with_reducible refine bind_nat fun _ => ?_) | rfl)
theorem f67.p0_r_nat {R R' : Type} (j : R → Option R') (L N : Nat) (k : Bool → Option R) (z4 : Bool) :
    f67.p0_r L N (fun a0 => (k a0).bind j) z4 = (f67.p0_r L N k z4).bind j := by
  unfold f67.p0_r
  exact f67.p0_r'_nat ..
theorem f67.b'_nat {R R' : Type} (j : R → Option R') (L N : Nat) (k : Bool → Option R) (w0 : (List (List Move)) → (List (List Move)) → Int → Option R) (x0 : (List (List Move))) (x1 : (List (List Move))) :
    f67.b' L N (fun a0 => (k a0).bind j) (fun a0 a1 a2 => (w0 a0 a1 a2).bind j) x0 x1 = (f67.b' L N k w0 x0 x1).bind j := by
  unfold f67.b'
  repeat' (first | (with_reducible refine cond_nat ?_ ?_) | (with_reducible refine bind_nat fun _ => ?_) | rfl)
theorem f67.b_nat {R R' : Type} (j : R → Option R') (L N : Nat) (k : Bool → Option R) (x0 : (List (List Move))) (x1 : (List (List Move))) :
    f67.b L N (fun a0 => (k a0).bind j) x0 x1 = (f67.b L N k x0 x1).bind j := by
  unfold f67.b
  simp only [f67.l0_nat, f67.p0_e0_nat, f67.p0_r_nat]
  exact f67.b'_nat ..
theorem f67.ok (L N : Nat) (hΦ : TellsOk Try.prog ((Φ87 L N))) : EntOk Try.prog 67 (f67.ent L N) := by
  intro args vw site h
  unfold f67.ent
  split
  · rename_i d ha
    intro y hy hs
    refine call_ro (dep := 1000) (E := (E67 L N)) (rs := (.one .bool)) (v := (.tv .bool y)) (sound_of hΦ) okP (callI_sound (sound_of hΦ) okP 0 1000) (f := Try.f67) rfl hs ha ?_ rfl site
    refine (f67.b_eq L N some d.1 d.2.1).trans ?_
    refine ((f67.b_nat (fun y => (some (.tv .bool y) : Option AV)) L N some d.1 d.2.1)).trans ?_
    rw [show f67.b L N some d.1 d.2.1 = some y from hy]
    rfl
  · intro y hy
    cases hy
def Φ67 (L N : Nat) : Tells := (addT (Φ87 L N) 67 (f67.ent L N))
theorem Φ67_ok (L N : Nat) : TellsOk Try.prog (Φ67 L N) := addT_ok (Φ87_ok L N) (f67.ok L N (Φ87_ok L N))
def f40.b' {R : Type} (L N : Nat) (k : Bool → Option R) (x0 : Graph) (x1 : Graph) : Option R :=
  (f67 L N x0.moves x1.moves).bind fun y0 =>
  bif (!y0) then
    k false
  else k true
def f40.b {R : Type} (L N : Nat) (k : Bool → Option R) (x0 : Graph) (x1 : Graph) : Option R :=
  f40.b' L N k x0 x1
def f40 (L N : Nat) (x0 : Graph) (x1 : Graph) : Option (Bool) := f40.b L N some x0 x1
def f40.ent (L N : Nat) (args : List AV) (vw : View) (site : Nat) : Ans := match roD [(.st 2), (.st 2)] vw args with
  | some d => ⟨Bool, f40 L N d.1 d.2.1, fun y => ((.tv .bool y), [], [])⟩
  | none => Ans.no
noncomputable def E40 (L N : Nat) : Env := { P := Try.prog, ty := tyOf, Φ := (Φ67 L N), inl := fun _ => false, live := lives, liveX := livesX, L := L }
theorem f40.b_pre {R : Type} (L N : Nat) (κ : AV → Option R) (x0 : Graph) (x1 : Graph) :
    evBody (E40 L N) (evCallI (E40 L N) 0 1000) 1000 40 Try.f40 [(.tv (.st 2) x0), (.tv (.st 2) x1)] [] [] (finC (.one .bool) κ)
    = f40.b' L N (fun a0 => κ (.tv .bool a0)) x0 x1 := by kernel_rfl
theorem f40.b_eq {R : Type} (L N : Nat) (κ : AV → Option R) (x0 : Graph) (x1 : Graph) :
    evBody (E40 L N) (evCallI (E40 L N) 0 1000) 1000 40 Try.f40 [(.tv (.st 2) x0), (.tv (.st 2) x1)] [] [] (finC (.one .bool) κ)
    = f40.b L N (fun a0 => κ (.tv .bool a0)) x0 x1 := by
  rw [f40.b_pre]
  unfold f40.b
  rfl
theorem f40.b'_nat {R R' : Type} (j : R → Option R') (L N : Nat) (k : Bool → Option R) (x0 : Graph) (x1 : Graph) :
    f40.b' L N (fun a0 => (k a0).bind j) x0 x1 = (f40.b' L N k x0 x1).bind j := by
  unfold f40.b'
  repeat' (first | (with_reducible refine cond_nat ?_ ?_) | (with_reducible refine bind_nat fun _ => ?_) | rfl)
theorem f40.b_nat {R R' : Type} (j : R → Option R') (L N : Nat) (k : Bool → Option R) (x0 : Graph) (x1 : Graph) :
    f40.b L N (fun a0 => (k a0).bind j) x0 x1 = (f40.b L N k x0 x1).bind j := by
  unfold f40.b
  exact f40.b'_nat ..
theorem f40.ok (L N : Nat) (hΦ : TellsOk Try.prog ((Φ67 L N))) : EntOk Try.prog 40 (f40.ent L N) := by
  intro args vw site h
  unfold f40.ent
  split
  · rename_i d ha
    intro y hy hs
    refine call_ro (dep := 1000) (E := (E40 L N)) (rs := (.one .bool)) (v := (.tv .bool y)) (sound_of hΦ) okP (callI_sound (sound_of hΦ) okP 0 1000) (f := Try.f40) rfl hs ha ?_ rfl site
    refine (f40.b_eq L N some d.1 d.2.1).trans ?_
    refine ((f40.b_nat (fun y => (some (.tv .bool y) : Option AV)) L N some d.1 d.2.1)).trans ?_
    rw [show f40.b L N some d.1 d.2.1 = some y from hy]
    rfl
  · intro y hy
    cases hy
def Φ40 (L N : Nat) : Tells := (addT (Φ67 L N) 40 (f40.ent L N))
theorem Φ40_ok (L N : Nat) : TellsOk Try.prog (Φ40 L N) := addT_ok (Φ67_ok L N) (f40.ok L N (Φ67_ok L N))
def f12.b' {R : Type} (L N : Nat) (k : Bool → Option R) (x0 : Graph) (x1 : Int) (x2 : (List Bool)) : Option R :=
  bif (decide ((x2.length : Int) > (1048576 : Int))) then
    k true
  else (f36 L N (Graph.mk x0.moves) (1048576 : Int)).bind fun y0 =>
  bif (decide (y0 < (0 : Int))) then
    k true
  else (f38 L N (Graph.mk x0.moves)).bind fun y1 =>
  (f16 L N x2).bind fun y2 =>
  (f37 L N y1 x1 y2).bind fun y3 =>
  (f38 L N (Graph.mk x0.moves)).bind fun y4 =>
  (f16 L N x2).bind fun y5 =>
  (f39 L N (Graph.mk y4.moves) x1 y5).bind fun y6 =>
  bif (!(y6 == y3)) then
    k false
  else (f38 L N (Graph.mk x0.moves)).bind fun y7 =>
  (f40 L N (Graph.mk y4.moves) y7).bind fun y8 =>
  bif (!y8) then
    k false
  else (f16 L N x2).bind fun y9 =>
  (f18 L N y5 y9).bind fun y10 =>
  bif (!y10) then
    k false
  else k true
def f12.b {R : Type} (L N : Nat) (k : Bool → Option R) (x0 : Graph) (x1 : Int) (x2 : (List Bool)) : Option R :=
  f12.b' L N k x0 x1 x2
def f12 (L N : Nat) (x0 : Graph) (x1 : Int) (x2 : (List Bool)) : Option (Bool) := f12.b L N some x0 x1 x2
def f12.ent (L N : Nat) (args : List AV) (vw : View) (site : Nat) : Ans := match roD [(.st 2), i64, (.sl .bool)] vw args with
  | some d => ⟨Bool, f12 L N d.1 d.2.1 d.2.2.1, fun y => ((.tv .bool y), [], [])⟩
  | none => Ans.no
noncomputable def E12 (L N : Nat) : Env := { P := Try.prog, ty := tyOf, Φ := (Φ40 L N), inl := fun _ => false, live := lives, liveX := livesX, L := L }
theorem f12.b_pre {R : Type} (L N : Nat) (κ : AV → Option R) (x0 : Graph) (x1 : Int) (x2 : (List Bool)) :
    evBody (E12 L N) (evCallI (E12 L N) 0 1000) 1000 12 Try.f12 [(.tv (.st 2) x0), (.tv i64 x1), (.tv (.sl .bool) x2)] [] [] (finC (.one .bool) κ)
    = f12.b' L N (fun a0 => κ (.tv .bool a0)) x0 x1 x2 := by kernel_rfl
theorem f12.b_eq {R : Type} (L N : Nat) (κ : AV → Option R) (x0 : Graph) (x1 : Int) (x2 : (List Bool)) :
    evBody (E12 L N) (evCallI (E12 L N) 0 1000) 1000 12 Try.f12 [(.tv (.st 2) x0), (.tv i64 x1), (.tv (.sl .bool) x2)] [] [] (finC (.one .bool) κ)
    = f12.b L N (fun a0 => κ (.tv .bool a0)) x0 x1 x2 := by
  rw [f12.b_pre]
  unfold f12.b
  rfl
theorem f12.b'_nat {R R' : Type} (j : R → Option R') (L N : Nat) (k : Bool → Option R) (x0 : Graph) (x1 : Int) (x2 : (List Bool)) :
    f12.b' L N (fun a0 => (k a0).bind j) x0 x1 x2 = (f12.b' L N k x0 x1 x2).bind j := by
  unfold f12.b'
  repeat' (first | (with_reducible refine cond_nat ?_ ?_) | (with_reducible refine bind_nat fun _ => ?_) | rfl)
theorem f12.b_nat {R R' : Type} (j : R → Option R') (L N : Nat) (k : Bool → Option R) (x0 : Graph) (x1 : Int) (x2 : (List Bool)) :
    f12.b L N (fun a0 => (k a0).bind j) x0 x1 x2 = (f12.b L N k x0 x1 x2).bind j := by
  unfold f12.b
  exact f12.b'_nat ..
theorem f12.ok (L N : Nat) (hΦ : TellsOk Try.prog ((Φ40 L N))) : EntOk Try.prog 12 (f12.ent L N) := by
  intro args vw site h
  unfold f12.ent
  split
  · rename_i d ha
    intro y hy hs
    refine call_ro (dep := 1000) (E := (E12 L N)) (rs := (.one .bool)) (v := (.tv .bool y)) (sound_of hΦ) okP (callI_sound (sound_of hΦ) okP 0 1000) (f := Try.f12) rfl hs ha ?_ rfl site
    refine (f12.b_eq L N some d.1 d.2.1 d.2.2.1).trans ?_
    refine ((f12.b_nat (fun y => (some (.tv .bool y) : Option AV)) L N some d.1 d.2.1 d.2.2.1)).trans ?_
    rw [show f12.b L N some d.1 d.2.1 d.2.2.1 = some y from hy]
    rfl
  · intro y hy
    cases hy
def Φ12 (L N : Nat) : Tells := (addT (Φ40 L N) 12 (f12.ent L N))
theorem Φ12_ok (L N : Nat) : TellsOk Try.prog (Φ12 L N) := addT_ok (Φ40_ok L N) (f12.ok L N (Φ40_ok L N))
end Go.Proofs.Ythkonljgjjlloaa.Ev
