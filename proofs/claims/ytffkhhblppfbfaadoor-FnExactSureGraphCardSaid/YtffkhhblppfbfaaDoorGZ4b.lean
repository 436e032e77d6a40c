/- The seat's functions as plain functions, continued: made by program (wip/gen/gen.py). -/
import Derived.Test.YtffkhhblppfbfaaDoorGZ4a
namespace Go.Proofs.YtffkhhblppfbfaaDoor.Ev
open Go
set_option linter.unusedVariables false
set_option maxRecDepth 20000
theorem f38.b_eq {R : Type} (L N : Nat) (κ : AV → Option R) (x0 : LLM) (x1 : Int) :
    evBody (E38 L N) (evCallI (E38 L N) 1 2000) 1000 38 Tryd.f38 [(.tv (.sl (.sl (.st 0))) x0), (.tv i64 x1)] [] [] (finC (.one i64) κ)
    = f38.b L N (fun a0 => κ (.tv i64 a0)) x0 x1 := by
  refine Eq.trans (b := f38.b' L N (fun a0 => κ (.tv i64 a0)) (fun s0 s1 s2 => evLp (E38 L N) (evCallI (E38 L N) 1 2000) 1000 38 21 0 f38.c0 (contAt (E38 L N) (evCallI (E38 L N) 1 2000) 1000 38 21 0 (codeOf Tryd.f38) (finK (E38 L N) 1000 Tryd.f38 (finC (.one i64) κ))) L (f38.T0 s0 s1 s2) (f38.H0 s0 s1 s2)) x0 x1) (by kernel_rfl) ?_
  unfold f38.b
  simp only [f38.l0_eq]
  delta f38.X0_e0 f38.X0_r
  simp only [f38.p0_e0_eq, f38.p0_r_eq]
theorem f38.ok (L N : Nat) (hΦ : TellsOk Tryd.prog ((Φ67 L N))) : EntOk Tryd.prog 38 (f38.ent L N) := entRo_ok (E := (E38 L N)) (dep := 1000) (f := Tryd.f38) (sound_of hΦ) okP (callI_sound (sound_of hΦ) okP 1 2000) rfl rfl fun d _ hy => (f38.b_eq L N (unR (.one i64)) d.1 d.2.1).trans (Eq.trans (b := f38.b L N some d.1 d.2.1) (by kernel_rfl) hy)
def Φ38 (L N : Nat) : Tells := (addT (Φ67 L N) 38 (f38.ent L N))
theorem Φ38_ok (L N : Nat) : TellsOk Tryd.prog (Φ38 L N) := addT_ok (Φ67_ok L N) (f38.ok L N (Φ67_ok L N))
def f13.b' {R : Type} (L N : Nat) (k : Int → Option R) (x0 : Graph) (x1 : Int) : Option R :=
  (f38 L N x0.moves x1).bind fun y0 =>
  bif (decide (y0 < (0 : Int))) then
    k (-1 : Int)
  else k y0
def f13.b {R : Type} (L N : Nat) (k : Int → Option R) (x0 : Graph) (x1 : Int) : Option R :=
  f13.b' L N k x0 x1
def f13 (L N : Nat) (x0 : Graph) (x1 : Int) : Option (Int) := f13.b L N some x0 x1
def f13.ent (L N : Nat) := entRo [(.st 2), i64] (.one i64) fun d => f13 L N d.1 d.2.1
noncomputable def E13 (L N : Nat) : Env := { P := Tryd.prog, ty := tyOf, Φ := (Φ38 L N), inl := inlT, live := lives, liveX := livesX, L := L, dp := none, prom := promT, heal := healT, ren := renT }
theorem f13.b_eq {R : Type} (L N : Nat) (κ : AV → Option R) (x0 : Graph) (x1 : Int) :
    evBody (E13 L N) (evCallI (E13 L N) 1 2000) 1000 13 Tryd.f13 [(.tv (.st 2) x0), (.tv i64 x1)] [] [] (finC (.one i64) κ)
    = f13.b L N (fun a0 => κ (.tv i64 a0)) x0 x1 := by kernel_rfl
theorem f13.ok (L N : Nat) (hΦ : TellsOk Tryd.prog ((Φ38 L N))) : EntOk Tryd.prog 13 (f13.ent L N) := entRo_ok (E := (E13 L N)) (dep := 1000) (f := Tryd.f13) (sound_of hΦ) okP (callI_sound (sound_of hΦ) okP 1 2000) rfl rfl fun d _ hy => (f13.b_eq L N (unR (.one i64)) d.1 d.2.1).trans (Eq.trans (b := f13.b L N some d.1 d.2.1) (by kernel_rfl) hy)
def Φ13 (L N : Nat) : Tells := (addT (Φ38 L N) 13 (f13.ent L N))
theorem Φ13_ok (L N : Nat) : TellsOk Tryd.prog (Φ13 L N) := addT_ok (Φ38_ok L N) (f13.ok L N (Φ38_ok L N))
def f66.s0' {R : Type} (L N : Nat) (n0 : Nat) (k0_e0 : Int → LM → Option R) (rec0 : Int → Int → LM → Option R) (s0 : Int) (s1 : Int) (s2 : LM) : Option R :=
  bif (decide (s1 < (s2.length : Int))) then
    bif (decide (0 ≤ s1) && decide (s1 < (s2.length : Int))) then
      bif (decide (0 ≤ s1) && decide (s1 < ((s2.set s1.toNat (Move.mk s0 ((listAt s2 (Ty.dflt (.st 0)) s1.toNat).to))).length : Int))) then
        rec0 (wi ((wi (s0 + (1 : Int))) + (1 : Int))) (wi (s1 + (1 : Int))) ((s2.set s1.toNat (Move.mk s0 ((listAt s2 (Ty.dflt (.st 0)) s1.toNat).to))).set s1.toNat (Move.mk ((listAt (s2.set s1.toNat (Move.mk s0 ((listAt s2 (Ty.dflt (.st 0)) s1.toNat).to))) (Ty.dflt (.st 0)) s1.toNat).act) (wi (s0 + (1 : Int)))))
      else none
    else none
  else k0_e0 s0 s2
def f66.s0 {R : Type} (L N : Nat) (n0 : Nat) (k0_e0 : Int → LM → Option R) (rec0 : Int → Int → LM → Option R) (s0 : Int) (s1 : Int) (s2 : LM) : Option R :=
  f66.s0' L N n0 k0_e0 rec0 s0 s1 s2
def f66.l0 {R : Type} (L N : Nat) (n0 : Nat) (k0_e0 : Int → LM → Option R) : Nat → Int → Int → LM → Option R
  | 0, _, _, _ => none
  | n + 1, s0, s1, s2 => f66.s0 L N n0 k0_e0 (f66.l0 L N n0 k0_e0 n) s0 s1 s2
def f66.T0 (s0 : Int) (s1 : Int) (s2 : LM) : T := mkT 27 [(0, (.row 0)), (1, (.tv i64 s0)), (5, (.tv i64 s1))] ++ [.row 0]
def f66.H0 (s0 : Int) (s1 : Int) (s2 : LM) : H := [(0, (.row 56 (.st 0) s2))]
def f66.T0_e0 (z3 : Int) (z4 : LM) : T := mkT 27 [(1, (.tv i64 z3))] ++ [.row 0]
def f66.H0_e0 (z3 : Int) (z4 : LM) : H := [(0, (.row 56 (.st 0) z4))]
def f66.p0_e0' {R : Type} (L N : Nat) (n0 : Nat) (k : Int → LM → Option R) (z3 : Int) (z4 : LM) : Option R :=
  bif (Nat.beq z4.length n0) then
    k z3 z4
  else none
def f66.p0_e0 {R : Type} (L N : Nat) (n0 : Nat) (k : Int → LM → Option R) (z3 : Int) (z4 : LM) : Option R :=
  f66.p0_e0' L N n0 k z3 z4
def f66.b' {R : Type} (L N : Nat) (n0 : Nat) (k : Int → LM → Option R) (w0 : Int → Int → LM → Option R) (oo : List Move) (x0 : Int) : Option R :=
  w0 x0 (0 : Int) oo
def f66.b {R : Type} (L N : Nat) (n0 : Nat) (k : Int → LM → Option R) (oo : List Move) (x0 : Int) : Option R :=
  f66.b' L N n0 k (fun s0 s1 s2 => f66.l0 L N n0 (fun z3 z4 => f66.p0_e0 L N n0 k z3 z4) L s0 s1 s2) oo x0
def f66 (L N : Nat) (oo : List Move) (x0 : Int) : Option (Int × LM) := f66.b L N oo.length (fun a0 a1 => some (a0, a1)) oo x0
def f66.ent (L N : Nat) (args : List AV) (vw : View) (site : Nat) : Ans := match ownD none 56 (.st 0) [i64] vw args with
  | some (o, xs, d, u) => ⟨Int × LM, f66 L N xs d.1, fun y => ((.tv i64 y.1), u ++ [(o, some (mkO none 56 (.st 0) y.2))], [])⟩
  | none => Ans.no
noncomputable def E66 (L N : Nat) : Env := { P := Tryd.prog, ty := tyOf, Φ := (Φ13 L N), inl := inlT, live := lives, liveX := livesX, L := L, dp := none, prom := promT, heal := healT, ren := renT }
noncomputable def f66.c0 : Code := loopAt 0 (codeOf Tryd.f66)
def f66.X0_e0 {R : Type} (κ : KX R) := fun z3 z4 => κ (.exit 0) (f66.T0_e0 z3 z4) (f66.H0_e0 z3 z4)
def f66.R0 {R : Type} (rec : KT R) := fun s0 s1 s2 => rec (f66.T0 s0 s1 s2) (f66.H0 s0 s1 s2)
theorem f66.s0_eq {R : Type} (L N n0 : Nat) (κ : KX R) (rec : KT R) (s0 : Int) (s1 : Int) (s2 : LM) :
    evRd (E66 L N) (evCallI (E66 L N) 1 2000) 1000 66 27 0 f66.c0 κ rec (f66.T0 s0 s1 s2) (f66.H0 s0 s1 s2)
    = f66.s0 L N n0 (f66.X0_e0 κ) (f66.R0 rec) s0 s1 s2 := by kernel_rfl
theorem f66.l0_eq {R : Type} (L N n0 : Nat) (κ : KX R) : ∀ (n : Nat) (s0 : Int) (s1 : Int) (s2 : LM),
    evLp (E66 L N) (evCallI (E66 L N) 1 2000) 1000 66 27 0 f66.c0 κ n (f66.T0 s0 s1 s2) (f66.H0 s0 s1 s2)
    = f66.l0 L N n0 (f66.X0_e0 κ) n s0 s1 s2 := by
  intro n
  induction n with
  | zero => intros; rfl
  | succ n ih =>
    intro s0 s1 s2
    rw [evLp_succ, f66.s0_eq L N n0]
    delta f66.R0
    simp only [ih]
    rfl
theorem f66.p0_e0_eq {R : Type} (L N n0 : Nat) (κ : AV → List Move → Option R) (z3 : Int) (z4 : LM) :
    (contAt (E66 L N) (evCallI (E66 L N) 1 2000) 1000 66 27 0 (codeOf Tryd.f66) (finK (E66 L N) 1000 Tryd.f66 (finO (.one i64) none 56 (.st 0) n0 κ))) (.exit 0) (f66.T0_e0 z3 z4) (f66.H0_e0 z3 z4)
    = f66.p0_e0 L N n0 (fun a0 a1 => κ (.tv i64 a0) a1) z3 z4 := by kernel_rfl
theorem f66.b_eq {R : Type} (L N n0 : Nat) (κ : AV → List Move → Option R) (oo : List Move) (x0 : Int) :
    evBody (E66 L N) (evCallI (E66 L N) 1 2000) 1000 66 Tryd.f66 [(.row 0), (.tv i64 x0)] [.row 0] [(0, (.row 56 (.st 0) oo))] (finO (.one i64) none 56 (.st 0) n0 κ)
    = f66.b L N n0 (fun a0 a1 => κ (.tv i64 a0) a1) oo x0 := by
  refine Eq.trans (b := f66.b' L N n0 (fun a0 a1 => κ (.tv i64 a0) a1) (fun s0 s1 s2 => evLp (E66 L N) (evCallI (E66 L N) 1 2000) 1000 66 27 0 f66.c0 (contAt (E66 L N) (evCallI (E66 L N) 1 2000) 1000 66 27 0 (codeOf Tryd.f66) (finK (E66 L N) 1000 Tryd.f66 (finO (.one i64) none 56 (.st 0) n0 κ))) L (f66.T0 s0 s1 s2) (f66.H0 s0 s1 s2)) oo x0) (by kernel_rfl) ?_
  unfold f66.b
  simp only [f66.l0_eq L N n0]
  delta f66.X0_e0
  simp only [f66.p0_e0_eq L N n0]
theorem f66.ok (L N : Nat) (hΦ : TellsOk Tryd.prog ((Φ13 L N))) : EntOk Tryd.prog 66 (f66.ent L N) := by
  intro args vw site h
  unfold f66.ent
  split
  · rename_i o xs d u ha
    intro y hy hs
    obtain ⟨rest, rfl, ho, hr, hu⟩ := ownD_some ha
    refine call_own (y := y) (dep := 1000) (v' := (.tv i64 y.1)) (ys := y.2) (E := (E66 L N)) (tr := [i64]) (q := none) (el := 56) (ty := (.st 0)) (rs := (.one i64)) (κ := (fun v d => (unR (.one i64) v).bind fun x => some (x, d))) (sound_of hΦ) okP (callI_sound (sound_of hΦ) okP 1 2000) (f := Tryd.f66) rfl hs ho hr hu ?_ (fun _ _ h => by obtain ⟨x, h1, h2⟩ := unR_bind h; obtain rfl := Option.some.inj h2; exact ⟨h1, rfl⟩) site
    exact (f66.b_eq L N xs.length (fun v d => (unR (.one i64) v).bind fun x => some (x, d)) xs d.1).trans (Eq.trans (b := f66.b L N xs.length (fun a0 a1 => some (a0, a1)) xs d.1) (by kernel_rfl) hy)
  · intro y hy
    cases hy
def Φ66 (L N : Nat) : Tells := (addT (Φ13 L N) 66 (f66.ent L N))
theorem Φ66_ok (L N : Nat) : TellsOk Tryd.prog (Φ66 L N) := addT_ok (Φ13_ok L N) (f66.ok L N (Φ13_ok L N))
def f37.s0' {R : Type} (L N : Nat) (n0 : Nat) (k0_e0 : Int → LLM → Option R) (rec0 : Int → Int → LLM → Option R) (s0 : Int) (s1 : Int) (s2 : LLM) : Option R :=
  bif (decide (s1 < (s2.length : Int))) then
    bif (decide (0 ≤ s1) && decide (s1 < (s2.length : Int))) then
      (f66 L N (listAt s2 [] s1.toNat) s0).bind fun y5 =>
      rec0 y5.1 (wi (s1 + (1 : Int))) (s2.set s1.toNat y5.2)
    else none
  else k0_e0 s0 s2
def f37.s0 {R : Type} (L N : Nat) (n0 : Nat) (k0_e0 : Int → LLM → Option R) (rec0 : Int → Int → LLM → Option R) (s0 : Int) (s1 : Int) (s2 : LLM) : Option R :=
  f37.s0' L N n0 k0_e0 rec0 s0 s1 s2
def f37.l0 {R : Type} (L N : Nat) (n0 : Nat) (k0_e0 : Int → LLM → Option R) : Nat → Int → Int → LLM → Option R
  | 0, _, _, _ => none
  | n + 1, s0, s1, s2 => f37.s0 L N n0 k0_e0 (f37.l0 L N n0 k0_e0 n) s0 s1 s2
def f37.T0 (s0 : Int) (s1 : Int) (s2 : LLM) : T := mkT 19 [(0, (.row 0)), (1, (.tv i64 s0)), (5, (.tv i64 s1))] ++ [.row 0]
def f37.H0 (s0 : Int) (s1 : Int) (s2 : LLM) : H := [(0, (.deep 0 (.sl (.st 0)) s2 none))]
def f37.T0_e0 (z3 : Int) (z4 : LLM) : T := mkT 19 [(1, (.tv i64 z3))] ++ [.row 0]
def f37.H0_e0 (z3 : Int) (z4 : LLM) : H := [(0, (.deep 0 (.sl (.st 0)) z4 none))]
def f37.p0_e0' {R : Type} (L N : Nat) (n0 : Nat) (k : Int → LLM → Option R) (z3 : Int) (z4 : LLM) : Option R :=
  bif (Nat.beq z4.length n0) then
    k z3 z4
  else none
def f37.p0_e0 {R : Type} (L N : Nat) (n0 : Nat) (k : Int → LLM → Option R) (z3 : Int) (z4 : LLM) : Option R :=
  f37.p0_e0' L N n0 k z3 z4
def f37.b' {R : Type} (L N : Nat) (n0 : Nat) (k : Int → LLM → Option R) (w0 : Int → Int → LLM → Option R) (oo : List LM) (x0 : Int) : Option R :=
  w0 x0 (0 : Int) oo
def f37.b {R : Type} (L N : Nat) (n0 : Nat) (k : Int → LLM → Option R) (oo : List LM) (x0 : Int) : Option R :=
  f37.b' L N n0 k (fun s0 s1 s2 => f37.l0 L N n0 (fun z3 z4 => f37.p0_e0 L N n0 k z3 z4) L s0 s1 s2) oo x0
def f37 (L N : Nat) (oo : List LM) (x0 : Int) : Option (Int × LLM) := f37.b L N oo.length (fun a0 a1 => some (a0, a1)) oo x0
def f37.ent (L N : Nat) (args : List AV) (vw : View) (site : Nat) : Ans := match ownD (some 0) 54 (.sl (.st 0)) [i64] vw args with
  | some (o, xs, d, u) => ⟨Int × LLM, f37 L N xs d.1, fun y => ((.tv i64 y.1), u ++ [(o, some (mkO (some 0) 54 (.sl (.st 0)) y.2))], [])⟩
  | none => Ans.no
noncomputable def E37 (L N : Nat) : Env := { P := Tryd.prog, ty := tyOf, Φ := (Φ66 L N), inl := inlT, live := lives, liveX := livesX, L := L, dp := none, prom := promT, heal := healT, ren := renT }
noncomputable def f37.c0 : Code := loopAt 0 (codeOf Tryd.f37)
def f37.X0_e0 {R : Type} (κ : KX R) := fun z3 z4 => κ (.exit 0) (f37.T0_e0 z3 z4) (f37.H0_e0 z3 z4)
def f37.R0 {R : Type} (rec : KT R) := fun s0 s1 s2 => rec (f37.T0 s0 s1 s2) (f37.H0 s0 s1 s2)
theorem f37.s0_eq {R : Type} (L N n0 : Nat) (κ : KX R) (rec : KT R) (s0 : Int) (s1 : Int) (s2 : LLM) :
    evRd (E37 L N) (evCallI (E37 L N) 1 2000) 1000 37 19 0 f37.c0 κ rec (f37.T0 s0 s1 s2) (f37.H0 s0 s1 s2)
    = f37.s0 L N n0 (f37.X0_e0 κ) (f37.R0 rec) s0 s1 s2 := by kernel_rfl
theorem f37.l0_eq {R : Type} (L N n0 : Nat) (κ : KX R) : ∀ (n : Nat) (s0 : Int) (s1 : Int) (s2 : LLM),
    evLp (E37 L N) (evCallI (E37 L N) 1 2000) 1000 37 19 0 f37.c0 κ n (f37.T0 s0 s1 s2) (f37.H0 s0 s1 s2)
    = f37.l0 L N n0 (f37.X0_e0 κ) n s0 s1 s2 := by
  intro n
  induction n with
  | zero => intros; rfl
  | succ n ih =>
    intro s0 s1 s2
    rw [evLp_succ, f37.s0_eq L N n0]
    delta f37.R0
    simp only [ih]
    rfl
theorem f37.p0_e0_eq {R : Type} (L N n0 : Nat) (κ : AV → List LM → Option R) (z3 : Int) (z4 : LLM) :
    (contAt (E37 L N) (evCallI (E37 L N) 1 2000) 1000 37 19 0 (codeOf Tryd.f37) (finK (E37 L N) 1000 Tryd.f37 (finO (.one i64) (some 0) 54 (.sl (.st 0)) n0 κ))) (.exit 0) (f37.T0_e0 z3 z4) (f37.H0_e0 z3 z4)
    = f37.p0_e0 L N n0 (fun a0 a1 => κ (.tv i64 a0) a1) z3 z4 := by kernel_rfl
theorem f37.b_eq {R : Type} (L N n0 : Nat) (κ : AV → List LM → Option R) (oo : List LM) (x0 : Int) :
    evBody (E37 L N) (evCallI (E37 L N) 1 2000) 1000 37 Tryd.f37 [(.row 0), (.tv i64 x0)] [.row 0] [(0, (.deep 0 (.sl (.st 0)) oo none))] (finO (.one i64) (some 0) 54 (.sl (.st 0)) n0 κ)
    = f37.b L N n0 (fun a0 a1 => κ (.tv i64 a0) a1) oo x0 := by
  refine Eq.trans (b := f37.b' L N n0 (fun a0 a1 => κ (.tv i64 a0) a1) (fun s0 s1 s2 => evLp (E37 L N) (evCallI (E37 L N) 1 2000) 1000 37 19 0 f37.c0 (contAt (E37 L N) (evCallI (E37 L N) 1 2000) 1000 37 19 0 (codeOf Tryd.f37) (finK (E37 L N) 1000 Tryd.f37 (finO (.one i64) (some 0) 54 (.sl (.st 0)) n0 κ))) L (f37.T0 s0 s1 s2) (f37.H0 s0 s1 s2)) oo x0) (by kernel_rfl) ?_
  unfold f37.b
  simp only [f37.l0_eq L N n0]
  delta f37.X0_e0
  simp only [f37.p0_e0_eq L N n0]
theorem f37.ok (L N : Nat) (hΦ : TellsOk Tryd.prog ((Φ66 L N))) : EntOk Tryd.prog 37 (f37.ent L N) := by
  intro args vw site h
  unfold f37.ent
  split
  · rename_i o xs d u ha
    intro y hy hs
    obtain ⟨rest, rfl, ho, hr, hu⟩ := ownD_some ha
    refine call_own (y := y) (dep := 1000) (v' := (.tv i64 y.1)) (ys := y.2) (E := (E37 L N)) (tr := [i64]) (q := (some 0)) (el := 54) (ty := (.sl (.st 0))) (rs := (.one i64)) (κ := (fun v d => (unR (.one i64) v).bind fun x => some (x, d))) (sound_of hΦ) okP (callI_sound (sound_of hΦ) okP 1 2000) (f := Tryd.f37) rfl hs ho hr hu ?_ (fun _ _ h => by obtain ⟨x, h1, h2⟩ := unR_bind h; obtain rfl := Option.some.inj h2; exact ⟨h1, rfl⟩) site
    exact (f37.b_eq L N xs.length (fun v d => (unR (.one i64) v).bind fun x => some (x, d)) xs d.1).trans (Eq.trans (b := f37.b L N xs.length (fun a0 a1 => some (a0, a1)) xs d.1) (by kernel_rfl) hy)
  · intro y hy
    cases hy
def Φ37 (L N : Nat) : Tells := (addT (Φ66 L N) 37 (f37.ent L N))
theorem Φ37_ok (L N : Nat) : TellsOk Tryd.prog (Φ37 L N) := addT_ok (Φ66_ok L N) (f37.ok L N (Φ66_ok L N))
def f4.j0' {R : Type} (L N : Nat) (k : Bool → Option R) (v40 : Int) (v41 : LLM) : Option R :=
  (f13 L N (Graph.mk v41) (1 : Int)).bind fun y42 =>
  bif (decide (y42 < (0 : Int))) then
    k false
  else bif (y42 != v40) then
    k false
  else k true
def f4.j1' {R : Type} (L N : Nat) (k : Bool → Option R) (v28 : Bool) (v29 : LLM) (v30 : LLM) (v31 : LLM) : Option R :=
  (f37 L N v31 (1 : Int)).bind fun y32 =>
  (f13 L N (Graph.mk y32.2) (1 : Int)).bind fun y33 =>
  bif (decide (y33 < (0 : Int))) then
    k false
  else bif (y33 != y32.1) then
    k false
  else (f7 L N (Graph.mk v29)).bind fun y34 =>
  (f11 L N (Graph.mk y34)).bind fun y35 =>
  (f9 L N (Graph.mk y35.1) (Graph.mk v30)).bind fun y36 =>
  bif (!y36) then
    k false
  else bif (!(y35.2 == v28)) then
    k false
  else f4.j0' L N k y32.1 y32.2
def f4.j2' {R : Type} (L N : Nat) (k : Bool → Option R) (v13 : Bool) (v14 : Bool) (v15 : LLM) (v16 : LLM) (v17 : LLM) (v18 : LLM) : Option R :=
  (f7 L N (Graph.mk v15)).bind fun y19 =>
  (f9 L N (Graph.mk v17) (Graph.mk y19)).bind fun y20 =>
  bif (!y20) then
    k false
  else (f37 L N v17 (1 : Int)).bind fun y21 =>
  bif (decide (y21.1 < (0 : Int))) then
    k false
  else (f9 L N (Graph.mk v18) (Graph.mk v16)).bind fun y22 =>
  bif (!y22) then
    k false
  else bif (!(v14 == v13)) then
    k false
  else f4.j1' L N k v13 v15 v16 v18
def f4.b' {R : Type} (L N : Nat) (k : Bool → Option R) (x0 : Graph) : Option R :=
  (f5 L N (Graph.mk x0.moves) (1048576 : Int)).bind fun y0 =>
  bif (decide (y0 < (0 : Int))) then
    k true
  else (f7 L N (Graph.mk x0.moves)).bind fun y1 =>
  (f10 L N (Graph.mk y1)).bind fun y2 =>
  (f7 L N (Graph.mk x0.moves)).bind fun y3 =>
  (f11 L N (Graph.mk y3)).bind fun y4 =>
  (f9 L N (Graph.mk y4.1) (Graph.mk y2.1.moves)).bind fun y5 =>
  bif (!y5) then
    k false
  else bif (!(y4.2 == y2.2)) then
    k false
  else f4.j2' L N k y2.2 y4.2 x0.moves y2.1.moves y3 y4.1
def f4.b {R : Type} (L N : Nat) (k : Bool → Option R) (x0 : Graph) : Option R :=
  f4.b' L N k x0
def f4 (L N : Nat) (x0 : Graph) : Option (Bool) := f4.b L N some x0
def f4.ent (L N : Nat) := entRo [(.st 2)] (.one .bool) fun d => f4 L N d.1
noncomputable def E4 (L N : Nat) : Env := { P := Tryd.prog, ty := tyOf, Φ := (Φ37 L N), inl := inlT, live := lives, liveX := livesX, L := L, dp := none, prom := promT, heal := healT, ren := renT }
theorem f4.b_eq {R : Type} (L N : Nat) (κ : AV → Option R) (x0 : Graph) :
    evBody (E4 L N) (evCallI (E4 L N) 1 2000) 1000 4 Tryd.f4 [(.tv (.st 2) x0)] [] [] (finC (.one .bool) κ)
    = f4.b L N (fun a0 => κ (.tv .bool a0)) x0 := by kernel_rfl
theorem f4.ok (L N : Nat) (hΦ : TellsOk Tryd.prog ((Φ37 L N))) : EntOk Tryd.prog 4 (f4.ent L N) := entRo_ok (E := (E4 L N)) (dep := 1000) (f := Tryd.f4) (sound_of hΦ) okP (callI_sound (sound_of hΦ) okP 1 2000) rfl rfl fun d _ hy => (f4.b_eq L N (unR (.one .bool)) d.1).trans (Eq.trans (b := f4.b L N some d.1) (by kernel_rfl) hy)
def Φ4 (L N : Nat) : Tells := (addT (Φ37 L N) 4 (f4.ent L N))
theorem Φ4_ok (L N : Nat) : TellsOk Tryd.prog (Φ4 L N) := addT_ok (Φ37_ok L N) (f4.ok L N (Φ37_ok L N))
end Go.Proofs.YtffkhhblppfbfaaDoor.Ev
