/- The seat's functions as plain functions, continued: made by program (wip/gen/gen.py). -/
import Derived.Test.YthkonljgjjlloaaG1a
namespace Go.Proofs.Ythkonljgjjlloaa.Ev
open Go
set_option linter.unusedVariables false
set_option maxRecDepth 20000
theorem f75.ok (L N : Nat) (hΦ : TellsOk Try.prog ((Φ92 L N))) : EntOk Try.prog 75 (f75.ent L N) := by
  intro args vw site h
  unfold f75.ent
  split
  · rename_i o d0 d u ha
    intro y hy hs
    obtain ⟨rest, cs, rfl, ho, hd0, hr, hu⟩ := boxD_some ha
    refine call_box (dep := 1000) (E := (E75 L N)) (ts := [(.sl (.int .u8)), i64]) (tr := []) (rs := (.one i64)) (v' := (.tv i64 y.1)) (d1 := (y.2.1, y.2.2, ())) (sound_of hΦ) okP (callI_sound (sound_of hΦ) okP 0 1000) (f := Try.f75) rfl hs ho hd0 hr hu ?_ site
    refine (f75.b_eq L N (fun v d => some (v, d)) d0.1 d0.2.1).trans ?_
    refine ((f75.b_nat (fun y => (some ((.tv i64 y.1), (y.2.1, y.2.2, ())) : Option (AV × Dens [(.sl (.int .u8)), i64]))) L N (fun a0 a1 a2 => some (a0, a1, a2)) d0.1 d0.2.1)).trans ?_
    rw [show f75.b L N (fun a0 a1 a2 => some (a0, a1, a2)) d0.1 d0.2.1 = some y from hy]
    rfl
  · intro y hy
    cases hy
def Φ75 (L N : Nat) : Tells := (addT (Φ92 L N) 75 (f75.ent L N))
theorem Φ75_ok (L N : Nat) : TellsOk Try.prog (Φ75 L N) := addT_ok (Φ92_ok L N) (f75.ok L N (Φ92_ok L N))
def f55.b' {R : Type} (L N : Nat) (self55 : (List Int) → Int → Int → Option (Tree × (List Int) × Int)) (k : Tree → (List Int) → Int → Option R) (c0 : (List Int)) (c1 : Int) (x0 : Int) : Option R :=
  (f56 L N c0 c1 (6 : Int)).bind fun y0 =>
  bif (x0 == (0 : Int)) then
    bif ((0 : Int) == (0 : Int)) then
      (f56 L N y0.2.1 y0.2.2 (40 : Int)).bind fun y1 =>
      bif (y1.1 == (0 : Int)) then
        (f56 L N y1.2.1 y1.2.2 (3 : Int)).bind fun y2 =>
        k (Tree.mk ((Tree.mk (wi ((4 : Int) + y2.1)) (0 : Int) []).op) ((Tree.mk (wi ((4 : Int) + y2.1)) (0 : Int) []).n) ((Tree.mk (wi ((4 : Int) + y2.1)) (0 : Int) []).parts)) y2.2.1 y2.2.2
      else k (Tree.mk ((Tree.mk (0 : Int) (0 : Int) []).op) ((Tree.mk (0 : Int) (0 : Int) []).n) ((Tree.mk (0 : Int) (0 : Int) []).parts)) y1.2.1 y1.2.2
    else bif ((0 : Int) == (1 : Int)) then
      (self55 y0.2.1 y0.2.2 (wi (x0 - (1 : Int)))).bind fun y3 =>
      k (Tree.mk (1 : Int) (0 : Int) ([y3.1] : (List Tree))) y3.2.1 y3.2.2
    else bif ((0 : Int) == (2 : Int)) then
      (self55 y0.2.1 y0.2.2 (wi (x0 - (1 : Int)))).bind fun y4 =>
      (self55 y4.2.1 y4.2.2 (wi (x0 - (1 : Int)))).bind fun y5 =>
      k (Tree.mk (2 : Int) (0 : Int) ([(Tree.mk y4.1.op y4.1.n y4.1.parts), y5.1] : (List Tree))) y5.2.1 y5.2.2
    else (f75 L N y0.2.1 y0.2.2).bind fun y6 =>
    (self55 y6.2.1 y6.2.2 (wi (x0 - (1 : Int)))).bind fun y7 =>
    k (Tree.mk (3 : Int) y6.1 ([y7.1] : (List Tree))) y7.2.1 y7.2.2
  else bif (y0.1 == (0 : Int)) then
    (f56 L N y0.2.1 y0.2.2 (40 : Int)).bind fun y8 =>
    bif (y8.1 == (0 : Int)) then
      (f56 L N y8.2.1 y8.2.2 (3 : Int)).bind fun y9 =>
      k (Tree.mk ((Tree.mk (wi ((4 : Int) + y9.1)) (0 : Int) []).op) ((Tree.mk (wi ((4 : Int) + y9.1)) (0 : Int) []).n) ((Tree.mk (wi ((4 : Int) + y9.1)) (0 : Int) []).parts)) y9.2.1 y9.2.2
    else k (Tree.mk ((Tree.mk (0 : Int) (0 : Int) []).op) ((Tree.mk (0 : Int) (0 : Int) []).n) ((Tree.mk (0 : Int) (0 : Int) []).parts)) y8.2.1 y8.2.2
  else bif (y0.1 == (1 : Int)) then
    (self55 y0.2.1 y0.2.2 (wi (x0 - (1 : Int)))).bind fun y10 =>
    k (Tree.mk (1 : Int) (0 : Int) ([y10.1] : (List Tree))) y10.2.1 y10.2.2
  else bif (y0.1 == (2 : Int)) then
    (self55 y0.2.1 y0.2.2 (wi (x0 - (1 : Int)))).bind fun y11 =>
    (self55 y11.2.1 y11.2.2 (wi (x0 - (1 : Int)))).bind fun y12 =>
    k (Tree.mk (2 : Int) (0 : Int) ([(Tree.mk y11.1.op y11.1.n y11.1.parts), y12.1] : (List Tree))) y12.2.1 y12.2.2
  else (f75 L N y0.2.1 y0.2.2).bind fun y13 =>
  (self55 y13.2.1 y13.2.2 (wi (x0 - (1 : Int)))).bind fun y14 =>
  k (Tree.mk (3 : Int) y13.1 ([y14.1] : (List Tree))) y14.2.1 y14.2.2
def f55.b {R : Type} (L N : Nat) (self55 : (List Int) → Int → Int → Option (Tree × (List Int) × Int)) (k : Tree → (List Int) → Int → Option R) (c0 : (List Int)) (c1 : Int) (x0 : Int) : Option R :=
  f55.b' L N self55 k c0 c1 x0
def f55 (L N : Nat) : Nat → (List Int) → Int → Int → Option (Tree × (List Int) × Int)
  | 0, _, _, _ => none
  | n + 1, c0, c1, x0 => f55.b L N (f55 L N n) (fun a0 a1 a2 => some (a0, a1, a2)) c0 c1 x0
def f55.ent (L N m : Nat) (args : List AV) (vw : View) (site : Nat) : Ans := match boxD [(.sl (.int .u8)), i64] [i64] vw args with
  | some (o, d0, d, u) => ⟨Tree × (List Int) × Int, f55 L N m d0.1 d0.2.1 d.1, fun y => ((.tv (.st 1) y.1), u ++ [(o, some (.box [(.tv (.sl (.int .u8)) y.2.1), (.tv i64 y.2.2)]))], [])⟩
  | none => Ans.no
def Φ55s (L N m : Nat) : Tells := (addT (Φ75 L N) 55 (f55.ent L N m))
noncomputable def E55 (L N m : Nat) : Env := { P := Try.prog, ty := tyOf, Φ := Φ55s L N m, inl := fun _ => false, live := lives, liveX := livesX, L := L }
theorem f55.b_pre {R : Type} (L N m : Nat) (κ : AV → Dens [(.sl (.int .u8)), i64] → Option R) (c0 : (List Int)) (c1 : Int) (x0 : Int) :
    evBody (E55 L N m) (evCallI (E55 L N m) 0 1000) 1000 55 Try.f55 [(.ptr 0 0), (.tv i64 x0)] [.ptr 0 0] [(0, (.box [(.tv (.sl (.int .u8)) c0), (.tv i64 c1)]))] (finM (.one (.st 1)) [(.sl (.int .u8)), i64] κ)
    = f55.b' L N (f55 L N m) (fun a0 a1 a2 => κ (.tv (.st 1) a0) (a1, a2, ())) c0 c1 x0 := by kernel_rfl
theorem f55.b_eq {R : Type} (L N m : Nat) (κ : AV → Dens [(.sl (.int .u8)), i64] → Option R) (c0 : (List Int)) (c1 : Int) (x0 : Int) :
    evBody (E55 L N m) (evCallI (E55 L N m) 0 1000) 1000 55 Try.f55 [(.ptr 0 0), (.tv i64 x0)] [.ptr 0 0] [(0, (.box [(.tv (.sl (.int .u8)) c0), (.tv i64 c1)]))] (finM (.one (.st 1)) [(.sl (.int .u8)), i64] κ)
    = f55.b L N (f55 L N m) (fun a0 a1 a2 => κ (.tv (.st 1) a0) (a1, a2, ())) c0 c1 x0 := by
  rw [f55.b_pre]
  unfold f55.b
  rfl
theorem f55.b'_nat {R R' : Type} (j : R → Option R') (L N : Nat) (self55 : (List Int) → Int → Int → Option (Tree × (List Int) × Int)) (k : Tree → (List Int) → Int → Option R) (c0 : (List Int)) (c1 : Int) (x0 : Int) :
    f55.b' L N self55 (fun a0 a1 a2 => (k a0 a1 a2).bind j) c0 c1 x0 = (f55.b' L N self55 k c0 c1 x0).bind j := by
  unfold f55.b'
  repeat' (first | (with_reducible refine cond_nat ?_ ?_) | (with_reducible refine bind_nat fun _ => ?_) | rfl)
theorem f55.b_nat {R R' : Type} (j : R → Option R') (L N : Nat) (self55 : (List Int) → Int → Int → Option (Tree × (List Int) × Int)) (k : Tree → (List Int) → Int → Option R) (c0 : (List Int)) (c1 : Int) (x0 : Int) :
    f55.b L N self55 (fun a0 a1 a2 => (k a0 a1 a2).bind j) c0 c1 x0 = (f55.b L N self55 k c0 c1 x0).bind j := by
  unfold f55.b
  exact f55.b'_nat ..
theorem f55.ok (L N m : Nat) (hΦ : TellsOk Try.prog (Φ55s L N m)) : EntOk Try.prog 55 (f55.ent L N (m + 1)) := by
  intro args vw site h
  unfold f55.ent
  split
  · rename_i o d0 d u ha
    intro y hy hs
    obtain ⟨rest, cs, rfl, ho, hd0, hr, hu⟩ := boxD_some ha
    refine call_box (dep := 1000) (E := (E55 L N m)) (ts := [(.sl (.int .u8)), i64]) (tr := [i64]) (rs := (.one (.st 1))) (v' := (.tv (.st 1) y.1)) (d1 := (y.2.1, y.2.2, ())) (sound_of hΦ) okP (callI_sound (sound_of hΦ) okP 0 1000) (f := Try.f55) rfl hs ho hd0 hr hu ?_ site
    refine (f55.b_eq L N m (fun v d => some (v, d)) d0.1 d0.2.1 d.1).trans ?_
    refine ((f55.b_nat (fun y => (some ((.tv (.st 1) y.1), (y.2.1, y.2.2, ())) : Option (AV × Dens [(.sl (.int .u8)), i64]))) L N (f55 L N m) (fun a0 a1 a2 => some (a0, a1, a2)) d0.1 d0.2.1 d.1)).trans ?_
    rw [show f55.b L N (f55 L N m) (fun a0 a1 a2 => some (a0, a1, a2)) d0.1 d0.2.1 d.1 = some y from hy]
    rfl
  · intro y hy
    cases hy
theorem Φ55s_ok (L N : Nat) : ∀ m, TellsOk Try.prog (Φ55s L N m) := by
  intro m
  induction m with
  | zero => exact (addT_ok (Φ75_ok L N) (fun args vw site h => by unfold f55.ent; split <;> (intro y hy; cases hy)))
  | succ m ih => exact (addT_ok (Φ75_ok L N) (f55.ok L N m ih))
def Φ55 (L N : Nat) : Tells := (addT (Φ75 L N) 55 (f55.ent L N N))
theorem Φ55_ok (L N : Nat) : TellsOk Try.prog (Φ55 L N) := Φ55s_ok L N N
def f29.b' {R : Type} (L N : Nat) (k : Tree → Option R) (x0 : (List Int)) : Option R :=
  (f44 L N x0).bind fun y0 =>
  (f56 L N y0.1 y0.2 (5 : Int)).bind fun y1 =>
  (f55 L N N y1.2.1 y1.2.2 y1.1).bind fun y2 =>
  k (Tree.mk ((Tree.mk y2.1.op y2.1.n y2.1.parts).op) ((Tree.mk y2.1.op y2.1.n y2.1.parts).n) ((Tree.mk y2.1.op y2.1.n y2.1.parts).parts))
def f29.b {R : Type} (L N : Nat) (k : Tree → Option R) (x0 : (List Int)) : Option R :=
  f29.b' L N k x0
def f29 (L N : Nat) (x0 : (List Int)) : Option (Tree) := f29.b L N some x0
def f29.ent (L N : Nat) (args : List AV) (vw : View) (site : Nat) : Ans := match coeD [(.sl (.int .u8))] vw args with
  | some (d, u) => ⟨Tree, f29 L N d.1, fun y => ((.tv (.st 1) y), u, [])⟩
  | none => Ans.no
noncomputable def E29 (L N : Nat) : Env := { P := Try.prog, ty := tyOf, Φ := (Φ55 L N), inl := fun _ => false, live := lives, liveX := livesX, L := L }
theorem f29.b_pre {R : Type} (L N : Nat) (κ : AV → Option R) (x0 : (List Int)) :
    evBody (E29 L N) (evCallI (E29 L N) 0 1000) 1000 29 Try.f29 [(.tv (.sl (.int .u8)) x0)] [] [] (finC (.one (.st 1)) κ)
    = f29.b' L N (fun a0 => κ (.tv (.st 1) a0)) x0 := by kernel_rfl
theorem f29.b_eq {R : Type} (L N : Nat) (κ : AV → Option R) (x0 : (List Int)) :
    evBody (E29 L N) (evCallI (E29 L N) 0 1000) 1000 29 Try.f29 [(.tv (.sl (.int .u8)) x0)] [] [] (finC (.one (.st 1)) κ)
    = f29.b L N (fun a0 => κ (.tv (.st 1) a0)) x0 := by
  rw [f29.b_pre]
  unfold f29.b
  rfl
theorem f29.b'_nat {R R' : Type} (j : R → Option R') (L N : Nat) (k : Tree → Option R) (x0 : (List Int)) :
    f29.b' L N (fun a0 => (k a0).bind j) x0 = (f29.b' L N k x0).bind j := by
  unfold f29.b'
  repeat' (first | (with_reducible refine cond_nat ?_ ?_) | (with_reducible refine bind_nat fun _ => ?_) | rfl)
theorem f29.b_nat {R R' : Type} (j : R → Option R') (L N : Nat) (k : Tree → Option R) (x0 : (List Int)) :
    f29.b L N (fun a0 => (k a0).bind j) x0 = (f29.b L N k x0).bind j := by
  unfold f29.b
  exact f29.b'_nat ..
theorem f29.ok (L N : Nat) (hΦ : TellsOk Try.prog ((Φ55 L N))) : EntOk Try.prog 29 (f29.ent L N) := by
  intro args vw site h
  unfold f29.ent
  split
  · rename_i d u ha
    intro y hy hs
    refine call_data (dep := 1000) (E := (E29 L N)) (rs := (.one (.st 1))) (v' := (.tv (.st 1) y)) (sound_of hΦ) okP (callI_sound (sound_of hΦ) okP 0 1000) (f := Try.f29) rfl hs ha ?_ site
    refine (f29.b_eq L N some d.1).trans ?_
    refine ((f29.b_nat (fun y => (some (.tv (.st 1) y) : Option AV)) L N some d.1)).trans ?_
    rw [show f29.b L N some d.1 = some y from hy]
    rfl
  · intro y hy
    cases hy
def Φ29 (L N : Nat) : Tells := (addT (Φ55 L N) 29 (f29.ent L N))
theorem Φ29_ok (L N : Nat) : TellsOk Try.prog (Φ29 L N) := addT_ok (Φ55_ok L N) (f29.ok L N (Φ55_ok L N))
def f57.s0' {R : Type} (L N : Nat) (self57 : Tree → Option (Int)) (k0_e0 : Int → Int → Int → (List Tree) → Option R) (rec0 : Int → (List Tree) → Int → Int → Int → Int → (List Tree) → Option R) (s0 : Int) (s1 : (List Tree)) (s2 : Int) (s3 : Int) (s4 : Int) (s5 : Int) (s6 : (List Tree)) : Option R :=
  bif (decide (s3 < s2)) then
    bif (decide (0 ≤ s3) && decide (s3 < (s1.length : Int))) then
      (self57 (Tree.mk ((listAt s1 (Ty.dflt (.st 1)) s3.toNat).op) ((listAt s1 (Ty.dflt (.st 1)) s3.toNat).n) ((listAt s1 (Ty.dflt (.st 1)) s3.toNat).parts))).bind fun y7 =>
      rec0 (bif decide (y7 > s0) then y7 else s0) s1 s2 (wi (s3 + (1 : Int))) s4 s5 s6
    else none
  else k0_e0 s0 s4 s5 s6
def f57.s0 {R : Type} (L N : Nat) (self57 : Tree → Option (Int)) (k0_e0 : Int → Int → Int → (List Tree) → Option R) (rec0 : Int → (List Tree) → Int → Int → Int → Int → (List Tree) → Option R) (s0 : Int) (s1 : (List Tree)) (s2 : Int) (s3 : Int) (s4 : Int) (s5 : Int) (s6 : (List Tree)) : Option R :=
  f57.s0' L N self57 k0_e0 rec0 s0 s1 s2 s3 s4 s5 s6
def f57.l0 {R : Type} (L N : Nat) (self57 : Tree → Option (Int)) (k0_e0 : Int → Int → Int → (List Tree) → Option R) : Nat → Int → (List Tree) → Int → Int → Int → Int → (List Tree) → Option R
  | 0, _, _, _, _, _, _, _ => none
  | n + 1, s0, s1, s2, s3, s4, s5, s6 => f57.s0 L N self57 k0_e0 (f57.l0 L N self57 k0_e0 n) s0 s1 s2 s3 s4 s5 s6
def f57.T0 (s0 : Int) (s1 : (List Tree)) (s2 : Int) (s3 : Int) (s4 : Int) (s5 : Int) (s6 : (List Tree)) : T := mkT 24 [(1, (.ptr 1001 0)), (3, (.tv i64 s0)), (7, (.tv (.sl (.st 1)) s1)), (8, (.tv i64 s2)), (9, (.tv i64 s3))]
def f57.H0 (s0 : Int) (s1 : (List Tree)) (s2 : Int) (s3 : Int) (s4 : Int) (s5 : Int) (s6 : (List Tree)) : H := [(1001, (.box [(.tv i64 s4), (.tv i64 s5), (.tv (.sl (.st 1)) s6)]))]
def f57.T0_e0 (z8 : Int) (z9 : Int) (z10 : Int) (z11 : (List Tree)) : T := mkT 24 [(1, (.ptr 1001 0)), (3, (.tv i64 z8))]
def f57.H0_e0 (z8 : Int) (z9 : Int) (z10 : Int) (z11 : (List Tree)) : H := [(1001, (.box [(.tv i64 z9), (.tv i64 z10), (.tv (.sl (.st 1)) z11)]))]
def f57.p0_e0' {R : Type} (L N : Nat) (self57 : Tree → Option (Int)) (k : Int → Option R) (z8 : Int) (z9 : Int) (z10 : Int) (z11 : (List Tree)) : Option R :=
  bif (z9 == (3 : Int)) then
    k (wi (z8 + (1 : Int)))
  else k z8
def f57.p0_e0 {R : Type} (L N : Nat) (self57 : Tree → Option (Int)) (k : Int → Option R) (z8 : Int) (z9 : Int) (z10 : Int) (z11 : (List Tree)) : Option R :=
  f57.p0_e0' L N self57 k z8 z9 z10 z11
def f57.b' {R : Type} (L N : Nat) (self57 : Tree → Option (Int)) (k : Int → Option R) (w0 : Int → (List Tree) → Int → Int → Int → Int → (List Tree) → Option R) (x0 : Tree) : Option R :=
  w0 (0 : Int) x0.parts (x0.parts.length : Int) (0 : Int) x0.op x0.n x0.parts
def f57.b {R : Type} (L N : Nat) (self57 : Tree → Option (Int)) (k : Int → Option R) (x0 : Tree) : Option R :=
  f57.b' L N self57 k (fun s0 s1 s2 s3 s4 s5 s6 => f57.l0 L N self57 (fun z8 z9 z10 z11 => f57.p0_e0 L N self57 k z8 z9 z10 z11) L s0 s1 s2 s3 s4 s5 s6) x0
def f57 (L N : Nat) : Nat → Tree → Option (Int)
  | 0, _ => none
  | n + 1, x0 => f57.b L N (f57 L N n) some x0
def f57.ent (L N m : Nat) (args : List AV) (vw : View) (site : Nat) : Ans := match roD [(.st 1)] vw args with
  | some d => ⟨Int, f57 L N m d.1, fun y => ((.tv i64 y), [], [])⟩
  | none => Ans.no
def Φ57s (L N m : Nat) : Tells := (addT (Φ29 L N) 57 (f57.ent L N m))
noncomputable def E57 (L N m : Nat) : Env := { P := Try.prog, ty := tyOf, Φ := Φ57s L N m, inl := fun _ => false, live := lives, liveX := livesX, L := L }
noncomputable def f57.c0 : Code := loopAt 0 (codeOf Try.f57)
theorem f57.s0_pre {R : Type} (L N m : Nat) (κ : Ex → T → H → Option R) (rec : T → H → Option R) (s0 : Int) (s1 : (List Tree)) (s2 : Int) (s3 : Int) (s4 : Int) (s5 : Int) (s6 : (List Tree)) :
    evRd (E57 L N m) (evCallI (E57 L N m) 0 1000) 1000 57 24 0 f57.c0 κ rec (f57.T0 s0 s1 s2 s3 s4 s5 s6) (f57.H0 s0 s1 s2 s3 s4 s5 s6)
    = f57.s0' L N (f57 L N m) (fun z8 z9 z10 z11 => κ (.exit 0) (f57.T0_e0 z8 z9 z10 z11) (f57.H0_e0 z8 z9 z10 z11)) (fun s0 s1 s2 s3 s4 s5 s6 => rec (f57.T0 s0 s1 s2 s3 s4 s5 s6) (f57.H0 s0 s1 s2 s3 s4 s5 s6)) s0 s1 s2 s3 s4 s5 s6 := by kernel_rfl
theorem f57.s0_eq {R : Type} (L N m : Nat) (κ : Ex → T → H → Option R) (rec : T → H → Option R) (s0 : Int) (s1 : (List Tree)) (s2 : Int) (s3 : Int) (s4 : Int) (s5 : Int) (s6 : (List Tree)) :
    evRd (E57 L N m) (evCallI (E57 L N m) 0 1000) 1000 57 24 0 f57.c0 κ rec (f57.T0 s0 s1 s2 s3 s4 s5 s6) (f57.H0 s0 s1 s2 s3 s4 s5 s6)
    = f57.s0 L N (f57 L N m) (fun z8 z9 z10 z11 => κ (.exit 0) (f57.T0_e0 z8 z9 z10 z11) (f57.H0_e0 z8 z9 z10 z11)) (fun s0 s1 s2 s3 s4 s5 s6 => rec (f57.T0 s0 s1 s2 s3 s4 s5 s6) (f57.H0 s0 s1 s2 s3 s4 s5 s6)) s0 s1 s2 s3 s4 s5 s6 := by
  rw [f57.s0_pre]
  unfold f57.s0
  rfl
theorem f57.l0_eq {R : Type} (L N m : Nat) (κ : Ex → T → H → Option R) : ∀ (n : Nat) (s0 : Int) (s1 : (List Tree)) (s2 : Int) (s3 : Int) (s4 : Int) (s5 : Int) (s6 : (List Tree)),
    evLp (E57 L N m) (evCallI (E57 L N m) 0 1000) 1000 57 24 0 f57.c0 κ n (f57.T0 s0 s1 s2 s3 s4 s5 s6) (f57.H0 s0 s1 s2 s3 s4 s5 s6)
    = f57.l0 L N (f57 L N m) (fun z8 z9 z10 z11 => κ (.exit 0) (f57.T0_e0 z8 z9 z10 z11) (f57.H0_e0 z8 z9 z10 z11)) n s0 s1 s2 s3 s4 s5 s6 := by
  intro n
  induction n with
  | zero => intros; rfl
  | succ n ih =>
    intro s0 s1 s2 s3 s4 s5 s6
    rw [evLp_succ, f57.s0_eq]
    simp only [ih]
    rfl
theorem f57.p0_e0_pre {R : Type} (L N m : Nat) (κ : AV → Option R) (z8 : Int) (z9 : Int) (z10 : Int) (z11 : (List Tree)) :
    (contAt (E57 L N m) (evCallI (E57 L N m) 0 1000) 1000 57 24 0 (codeOf Try.f57) (finK (E57 L N m) 1000 Try.f57 (finC (.one i64) κ))) (.exit 0) (f57.T0_e0 z8 z9 z10 z11) (f57.H0_e0 z8 z9 z10 z11)
    = f57.p0_e0' L N (f57 L N m) (fun a0 => κ (.tv i64 a0)) z8 z9 z10 z11 := by kernel_rfl
theorem f57.p0_e0_eq {R : Type} (L N m : Nat) (κ : AV → Option R) (z8 : Int) (z9 : Int) (z10 : Int) (z11 : (List Tree)) :
    (contAt (E57 L N m) (evCallI (E57 L N m) 0 1000) 1000 57 24 0 (codeOf Try.f57) (finK (E57 L N m) 1000 Try.f57 (finC (.one i64) κ))) (.exit 0) (f57.T0_e0 z8 z9 z10 z11) (f57.H0_e0 z8 z9 z10 z11)
    = f57.p0_e0 L N (f57 L N m) (fun a0 => κ (.tv i64 a0)) z8 z9 z10 z11 := by
  rw [f57.p0_e0_pre]
  unfold f57.p0_e0
  rfl
theorem f57.b_pre {R : Type} (L N m : Nat) (κ : AV → Option R) (x0 : Tree) :
    evBody (E57 L N m) (evCallI (E57 L N m) 0 1000) 1000 57 Try.f57 [(.tv (.st 1) x0)] [] [] (finC (.one i64) κ)
    = f57.b' L N (f57 L N m) (fun a0 => κ (.tv i64 a0)) (fun s0 s1 s2 s3 s4 s5 s6 => evLp (E57 L N m) (evCallI (E57 L N m) 0 1000) 1000 57 24 0 f57.c0 (contAt (E57 L N m) (evCallI (E57 L N m) 0 1000) 1000 57 24 0 (codeOf Try.f57) (finK (E57 L N m) 1000 Try.f57 (finC (.one i64) κ))) L (f57.T0 s0 s1 s2 s3 s4 s5 s6) (f57.H0 s0 s1 s2 s3 s4 s5 s6)) x0 := by kernel_rfl
theorem f57.b_eq {R : Type} (L N m : Nat) (κ : AV → Option R) (x0 : Tree) :
    evBody (E57 L N m) (evCallI (E57 L N m) 0 1000) 1000 57 Try.f57 [(.tv (.st 1) x0)] [] [] (finC (.one i64) κ)
    = f57.b L N (f57 L N m) (fun a0 => κ (.tv i64 a0)) x0 := by
  rw [f57.b_pre]
  unfold f57.b
  simp only [f57.l0_eq, f57.p0_e0_eq]
theorem f57.s0'_nat {R R' : Type} (j : R → Option R') (L N : Nat) (self57 : Tree → Option (Int)) (k0_e0 : Int → Int → Int → (List Tree) → Option R) (rec0 : Int → (List Tree) → Int → Int → Int → Int → (List Tree) → Option R) (s0 : Int) (s1 : (List Tree)) (s2 : Int) (s3 : Int) (s4 : Int) (s5 : Int) (s6 : (List Tree)) :
    f57.s0' L N self57 (fun a0 a1 a2 a3 => (k0_e0 a0 a1 a2 a3).bind j) (fun a0 a1 a2 a3 a4 a5 a6 => (rec0 a0 a1 a2 a3 a4 a5 a6).bind j) s0 s1 s2 s3 s4 s5 s6 = (f57.s0' L N self57 k0_e0 rec0 s0 s1 s2 s3 s4 s5 s6).bind j := by
  unfold f57.s0'
  repeat' (first | (with_reducible refine cond_nat ?_ ?_) | (with_reducible refine bind_nat fun _ => ?_) | rfl)
theorem f57.s0_nat {R R' : Type} (j : R → Option R') (L N : Nat) (self57 : Tree → Option (Int)) (k0_e0 : Int → Int → Int → (List Tree) → Option R) (rec0 : Int → (List Tree) → Int → Int → Int → Int → (List Tree) → Option R) (s0 : Int) (s1 : (List Tree)) (s2 : Int) (s3 : Int) (s4 : Int) (s5 : Int) (s6 : (List Tree)) :
    f57.s0 L N self57 (fun a0 a1 a2 a3 => (k0_e0 a0 a1 a2 a3).bind j) (fun a0 a1 a2 a3 a4 a5 a6 => (rec0 a0 a1 a2 a3 a4 a5 a6).bind j) s0 s1 s2 s3 s4 s5 s6 = (f57.s0 L N self57 k0_e0 rec0 s0 s1 s2 s3 s4 s5 s6).bind j := by
  unfold f57.s0
  exact f57.s0'_nat ..
theorem f57.l0_nat {R R' : Type} (j : R → Option R') (L N : Nat) (self57 : Tree → Option (Int)) (k0_e0 : Int → Int → Int → (List Tree) → Option R) : ∀ (n : Nat) (s0 : Int) (s1 : (List Tree)) (s2 : Int) (s3 : Int) (s4 : Int) (s5 : Int) (s6 : (List Tree)),
    f57.l0 L N self57 (fun a0 a1 a2 a3 => (k0_e0 a0 a1 a2 a3).bind j) n s0 s1 s2 s3 s4 s5 s6 = (f57.l0 L N self57 k0_e0 n s0 s1 s2 s3 s4 s5 s6).bind j := by
  intro n
  induction n with
  | zero => intros; rfl
  | succ n ih =>
    intro s0 s1 s2 s3 s4 s5 s6
    show f57.s0 L N self57 (fun a0 a1 a2 a3 => (k0_e0 a0 a1 a2 a3).bind j) (f57.l0 L N self57 (fun a0 a1 a2 a3 => (k0_e0 a0 a1 a2 a3).bind j) n) s0 s1 s2 s3 s4 s5 s6 = _
    rw [show f57.l0 L N self57 (fun a0 a1 a2 a3 => (k0_e0 a0 a1 a2 a3).bind j) n = (fun s0 s1 s2 s3 s4 s5 s6 => (f57.l0 L N self57 k0_e0 n s0 s1 s2 s3 s4 s5 s6).bind j) from funext fun s0 => funext fun s1 => funext fun s2 => funext fun s3 => funext fun s4 => funext fun s5 => funext fun s6 => ih s0 s1 s2 s3 s4 s5 s6]
    exact f57.s0_nat ..
theorem f57.p0_e0'_nat {R R' : Type} (j : R → Option R') (L N : Nat) (self57 : Tree → Option (Int)) (k : Int → Option R) (z8 : Int) (z9 : Int) (z10 : Int) (z11 : (List Tree)) :
    f57.p0_e0' L N self57 (fun a0 => (k a0).bind j) z8 z9 z10 z11 = (f57.p0_e0' L N self57 k z8 z9 z10 z11).bind j := by
  unfold f57.p0_e0'
  repeat' (first | (with_reducible refine cond_nat ?_ ?_) | (with_reducible refine bind_nat fun _ => ?_) | rfl)
theorem f57.p0_e0_nat {R R' : Type} (j : R → Option R') (L N : Nat) (self57 : Tree → Option (Int)) (k : Int → Option R) (z8 : Int) (z9 : Int) (z10 : Int) (z11 : (List Tree)) :
    f57.p0_e0 L N self57 (fun a0 => (k a0).bind j) z8 z9 z10 z11 = (f57.p0_e0 L N self57 k z8 z9 z10 z11).bind j := by
  unfold f57.p0_e0
  exact f57.p0_e0'_nat ..
theorem f57.b'_nat {R R' : Type} (j : R → Option R') (L N : Nat) (self57 : Tree → Option (Int)) (k : Int → Option R) (w0 : Int → (List Tree) → Int → Int → Int → Int → (List Tree) → Option R) (x0 : Tree) :
    f57.b' L N self57 (fun a0 => (k a0).bind j) (fun a0 a1 a2 a3 a4 a5 a6 => (w0 a0 a1 a2 a3 a4 a5 a6).bind j) x0 = (f57.b' L N self57 k w0 x0).bind j := by
  unfold f57.b'
  repeat' (first | (with_reducible refine cond_nat ?_ ?_) | (with_reducible refine bind_nat fun _ => ?_) | rfl)
theorem f57.b_nat {R R' : Type} (j : R → Option R') (L N : Nat) (self57 : Tree → Option (Int)) (k : Int → Option R) (x0 : Tree) :
    f57.b L N self57 (fun a0 => (k a0).bind j) x0 = (f57.b L N self57 k x0).bind j := by
  unfold f57.b
  simp only [f57.l0_nat, f57.p0_e0_nat]
  exact f57.b'_nat ..
theorem f57.ok (L N m : Nat) (hΦ : TellsOk Try.prog (Φ57s L N m)) : EntOk Try.prog 57 (f57.ent L N (m + 1)) := by
  intro args vw site h
  unfold f57.ent
  split
  · rename_i d ha
    intro y hy hs
    refine call_ro (dep := 1000) (E := (E57 L N m)) (rs := (.one i64)) (v := (.tv i64 y)) (sound_of hΦ) okP (callI_sound (sound_of hΦ) okP 0 1000) (f := Try.f57) rfl hs ha ?_ rfl site
    refine (f57.b_eq L N m some d.1).trans ?_
    refine ((f57.b_nat (fun y => (some (.tv i64 y) : Option AV)) L N (f57 L N m) some d.1)).trans ?_
    rw [show f57.b L N (f57 L N m) some d.1 = some y from hy]
    rfl
  · intro y hy
    cases hy
theorem Φ57s_ok (L N : Nat) : ∀ m, TellsOk Try.prog (Φ57s L N m) := by
  intro m
  induction m with
  | zero => exact (addT_ok (Φ29_ok L N) (fun args vw site h => by unfold f57.ent; split <;> (intro y hy; cases hy)))
  | succ m ih => exact (addT_ok (Φ29_ok L N) (f57.ok L N m ih))
def Φ57 (L N : Nat) : Tells := (addT (Φ29 L N) 57 (f57.ent L N N))
theorem Φ57_ok (L N : Nat) : TellsOk Try.prog (Φ57 L N) := Φ57s_ok L N N
def f30.b' {R : Type} (L N : Nat) (k : Int → Option R) (x0 : Tree) : Option R :=
  (f27 L N (Tree.mk x0.op x0.n x0.parts)).bind fun y0 =>
  bif (!y0) then
    k (-1 : Int)
  else (f57 L N N (Tree.mk x0.op x0.n x0.parts)).bind fun y1 =>
  k y1
def f30.b {R : Type} (L N : Nat) (k : Int → Option R) (x0 : Tree) : Option R :=
  f30.b' L N k x0
def f30 (L N : Nat) (x0 : Tree) : Option (Int) := f30.b L N some x0
def f30.ent (L N : Nat) (args : List AV) (vw : View) (site : Nat) : Ans := match roD [(.st 1)] vw args with
  | some d => ⟨Int, f30 L N d.1, fun y => ((.tv i64 y), [], [])⟩
  | none => Ans.no
noncomputable def E30 (L N : Nat) : Env := { P := Try.prog, ty := tyOf, Φ := (Φ57 L N), inl := fun _ => false, live := lives, liveX := livesX, L := L }
theorem f30.b_pre {R : Type} (L N : Nat) (κ : AV → Option R) (x0 : Tree) :
    evBody (E30 L N) (evCallI (E30 L N) 0 1000) 1000 30 Try.f30 [(.tv (.st 1) x0)] [] [] (finC (.one i64) κ)
    = f30.b' L N (fun a0 => κ (.tv i64 a0)) x0 := by kernel_rfl
theorem f30.b_eq {R : Type} (L N : Nat) (κ : AV → Option R) (x0 : Tree) :
    evBody (E30 L N) (evCallI (E30 L N) 0 1000) 1000 30 Try.f30 [(.tv (.st 1) x0)] [] [] (finC (.one i64) κ)
    = f30.b L N (fun a0 => κ (.tv i64 a0)) x0 := by
  rw [f30.b_pre]
  unfold f30.b
  rfl
theorem f30.b'_nat {R R' : Type} (j : R → Option R') (L N : Nat) (k : Int → Option R) (x0 : Tree) :
    f30.b' L N (fun a0 => (k a0).bind j) x0 = (f30.b' L N k x0).bind j := by
  unfold f30.b'
  repeat' (first | (with_reducible refine cond_nat ?_ ?_) | (with_reducible refine bind_nat fun _ => ?_) | rfl)
theorem f30.b_nat {R R' : Type} (j : R → Option R') (L N : Nat) (k : Int → Option R) (x0 : Tree) :
    f30.b L N (fun a0 => (k a0).bind j) x0 = (f30.b L N k x0).bind j := by
  unfold f30.b
  exact f30.b'_nat ..
theorem f30.ok (L N : Nat) (hΦ : TellsOk Try.prog ((Φ57 L N))) : EntOk Try.prog 30 (f30.ent L N) := by
  intro args vw site h
  unfold f30.ent
  split
  · rename_i d ha
    intro y hy hs
    refine call_ro (dep := 1000) (E := (E30 L N)) (rs := (.one i64)) (v := (.tv i64 y)) (sound_of hΦ) okP (callI_sound (sound_of hΦ) okP 0 1000) (f := Try.f30) rfl hs ha ?_ rfl site
    refine (f30.b_eq L N some d.1).trans ?_
    refine ((f30.b_nat (fun y => (some (.tv i64 y) : Option AV)) L N some d.1)).trans ?_
    rw [show f30.b L N some d.1 = some y from hy]
    rfl
  · intro y hy
    cases hy
def Φ30 (L N : Nat) : Tells := (addT (Φ57 L N) 30 (f30.ent L N))
theorem Φ30_ok (L N : Nat) : TellsOk Try.prog (Φ30 L N) := addT_ok (Φ57_ok L N) (f30.ok L N (Φ57_ok L N))
def f58.s0' {R : Type} (L N : Nat) (self58 : Tree → Option (Int)) (k0_e0 : Int → Int → Int → (List Tree) → Option R) (rec0 : Int → Int → Int → Int → (List Tree) → Option R) (s0 : Int) (s1 : Int) (s2 : Int) (s3 : Int) (s4 : (List Tree)) : Option R :=
  bif (decide (s1 < (s4.length : Int))) then
    bif (decide (0 ≤ s1) && decide (s1 < (s4.length : Int))) then
      (self58 (listAt s4 (Ty.dflt (.st 1)) s1.toNat)).bind fun y5 =>
      rec0 (bif decide (y5 > s0) then y5 else s0) (wi (s1 + (1 : Int))) s2 s3 s4
    else none
  else k0_e0 s0 s2 s3 s4
def f58.s0 {R : Type} (L N : Nat) (self58 : Tree → Option (Int)) (k0_e0 : Int → Int → Int → (List Tree) → Option R) (rec0 : Int → Int → Int → Int → (List Tree) → Option R) (s0 : Int) (s1 : Int) (s2 : Int) (s3 : Int) (s4 : (List Tree)) : Option R :=
  f58.s0' L N self58 k0_e0 rec0 s0 s1 s2 s3 s4
def f58.l0 {R : Type} (L N : Nat) (self58 : Tree → Option (Int)) (k0_e0 : Int → Int → Int → (List Tree) → Option R) : Nat → Int → Int → Int → Int → (List Tree) → Option R
  | 0, _, _, _, _, _ => none
  | n + 1, s0, s1, s2, s3, s4 => f58.s0 L N self58 k0_e0 (f58.l0 L N self58 k0_e0 n) s0 s1 s2 s3 s4
def f58.T0 (s0 : Int) (s1 : Int) (s2 : Int) (s3 : Int) (s4 : (List Tree)) : T := mkT 26 [(1, (.ptr 1001 0)), (3, (.tv i64 s0)), (4, (.tv i64 s1))]
def f58.H0 (s0 : Int) (s1 : Int) (s2 : Int) (s3 : Int) (s4 : (List Tree)) : H := [(1001, (.box [(.tv i64 s2), (.tv i64 s3), (.tv (.sl (.st 1)) s4)]))]
def f58.T0_e0 (z6 : Int) (z7 : Int) (z8 : Int) (z9 : (List Tree)) : T := mkT 26 [(1, (.ptr 1001 0)), (3, (.tv i64 z6))]
def f58.H0_e0 (z6 : Int) (z7 : Int) (z8 : Int) (z9 : (List Tree)) : H := [(1001, (.box [(.tv i64 z7), (.tv i64 z8), (.tv (.sl (.st 1)) z9)]))]
def f58.p0_e0' {R : Type} (L N : Nat) (self58 : Tree → Option (Int)) (k : Int → Option R) (z6 : Int) (z7 : Int) (z8 : Int) (z9 : (List Tree)) : Option R :=
  bif (z7 == (3 : Int)) then
    k (wi (z6 + (1 : Int)))
  else k z6
def f58.p0_e0 {R : Type} (L N : Nat) (self58 : Tree → Option (Int)) (k : Int → Option R) (z6 : Int) (z7 : Int) (z8 : Int) (z9 : (List Tree)) : Option R :=
  f58.p0_e0' L N self58 k z6 z7 z8 z9
def f58.b' {R : Type} (L N : Nat) (self58 : Tree → Option (Int)) (k : Int → Option R) (w0 : Int → Int → Int → Int → (List Tree) → Option R) (x0 : Tree) : Option R :=
  w0 (0 : Int) (0 : Int) x0.op x0.n x0.parts
def f58.b {R : Type} (L N : Nat) (self58 : Tree → Option (Int)) (k : Int → Option R) (x0 : Tree) : Option R :=
  f58.b' L N self58 k (fun s0 s1 s2 s3 s4 => f58.l0 L N self58 (fun z6 z7 z8 z9 => f58.p0_e0 L N self58 k z6 z7 z8 z9) L s0 s1 s2 s3 s4) x0
def f58 (L N : Nat) : Nat → Tree → Option (Int)
  | 0, _ => none
  | n + 1, x0 => f58.b L N (f58 L N n) some x0
def f58.ent (L N m : Nat) (args : List AV) (vw : View) (site : Nat) : Ans := match roD [(.st 1)] vw args with
  | some d => ⟨Int, f58 L N m d.1, fun y => ((.tv i64 y), [], [])⟩
  | none => Ans.no
def Φ58s (L N m : Nat) : Tells := (addT (Φ30 L N) 58 (f58.ent L N m))
noncomputable def E58 (L N m : Nat) : Env := { P := Try.prog, ty := tyOf, Φ := Φ58s L N m, inl := fun _ => false, live := lives, liveX := livesX, L := L }
noncomputable def f58.c0 : Code := loopAt 0 (codeOf Try.f58)
theorem f58.s0_pre {R : Type} (L N m : Nat) (κ : Ex → T → H → Option R) (rec : T → H → Option R) (s0 : Int) (s1 : Int) (s2 : Int) (s3 : Int) (s4 : (List Tree)) :
    evRd (E58 L N m) (evCallI (E58 L N m) 0 1000) 1000 58 26 0 f58.c0 κ rec (f58.T0 s0 s1 s2 s3 s4) (f58.H0 s0 s1 s2 s3 s4)
    = f58.s0' L N (f58 L N m) (fun z6 z7 z8 z9 => κ (.exit 0) (f58.T0_e0 z6 z7 z8 z9) (f58.H0_e0 z6 z7 z8 z9)) (fun s0 s1 s2 s3 s4 => rec (f58.T0 s0 s1 s2 s3 s4) (f58.H0 s0 s1 s2 s3 s4)) s0 s1 s2 s3 s4 := by kernel_rfl
theorem f58.s0_eq {R : Type} (L N m : Nat) (κ : Ex → T → H → Option R) (rec : T → H → Option R) (s0 : Int) (s1 : Int) (s2 : Int) (s3 : Int) (s4 : (List Tree)) :
    evRd (E58 L N m) (evCallI (E58 L N m) 0 1000) 1000 58 26 0 f58.c0 κ rec (f58.T0 s0 s1 s2 s3 s4) (f58.H0 s0 s1 s2 s3 s4)
    = f58.s0 L N (f58 L N m) (fun z6 z7 z8 z9 => κ (.exit 0) (f58.T0_e0 z6 z7 z8 z9) (f58.H0_e0 z6 z7 z8 z9)) (fun s0 s1 s2 s3 s4 => rec (f58.T0 s0 s1 s2 s3 s4) (f58.H0 s0 s1 s2 s3 s4)) s0 s1 s2 s3 s4 := by
  rw [f58.s0_pre]
  unfold f58.s0
  rfl
theorem f58.l0_eq {R : Type} (L N m : Nat) (κ : Ex → T → H → Option R) : ∀ (n : Nat) (s0 : Int) (s1 : Int) (s2 : Int) (s3 : Int) (s4 : (List Tree)),
    evLp (E58 L N m) (evCallI (E58 L N m) 0 1000) 1000 58 26 0 f58.c0 κ n (f58.T0 s0 s1 s2 s3 s4) (f58.H0 s0 s1 s2 s3 s4)
    = f58.l0 L N (f58 L N m) (fun z6 z7 z8 z9 => κ (.exit 0) (f58.T0_e0 z6 z7 z8 z9) (f58.H0_e0 z6 z7 z8 z9)) n s0 s1 s2 s3 s4 := by
  intro n
  induction n with
  | zero => intros; rfl
  | succ n ih =>
    intro s0 s1 s2 s3 s4
    rw [evLp_succ, f58.s0_eq]
    simp only [ih]
    rfl
theorem f58.p0_e0_pre {R : Type} (L N m : Nat) (κ : AV → Option R) (z6 : Int) (z7 : Int) (z8 : Int) (z9 : (List Tree)) :
    (contAt (E58 L N m) (evCallI (E58 L N m) 0 1000) 1000 58 26 0 (codeOf Try.f58) (finK (E58 L N m) 1000 Try.f58 (finC (.one i64) κ))) (.exit 0) (f58.T0_e0 z6 z7 z8 z9) (f58.H0_e0 z6 z7 z8 z9)
    = f58.p0_e0' L N (f58 L N m) (fun a0 => κ (.tv i64 a0)) z6 z7 z8 z9 := by kernel_rfl
theorem f58.p0_e0_eq {R : Type} (L N m : Nat) (κ : AV → Option R) (z6 : Int) (z7 : Int) (z8 : Int) (z9 : (List Tree)) :
    (contAt (E58 L N m) (evCallI (E58 L N m) 0 1000) 1000 58 26 0 (codeOf Try.f58) (finK (E58 L N m) 1000 Try.f58 (finC (.one i64) κ))) (.exit 0) (f58.T0_e0 z6 z7 z8 z9) (f58.H0_e0 z6 z7 z8 z9)
    = f58.p0_e0 L N (f58 L N m) (fun a0 => κ (.tv i64 a0)) z6 z7 z8 z9 := by
  rw [f58.p0_e0_pre]
  unfold f58.p0_e0
  rfl
theorem f58.b_pre {R : Type} (L N m : Nat) (κ : AV → Option R) (x0 : Tree) :
    evBody (E58 L N m) (evCallI (E58 L N m) 0 1000) 1000 58 Try.f58 [(.tv (.st 1) x0)] [] [] (finC (.one i64) κ)
    = f58.b' L N (f58 L N m) (fun a0 => κ (.tv i64 a0)) (fun s0 s1 s2 s3 s4 => evLp (E58 L N m) (evCallI (E58 L N m) 0 1000) 1000 58 26 0 f58.c0 (contAt (E58 L N m) (evCallI (E58 L N m) 0 1000) 1000 58 26 0 (codeOf Try.f58) (finK (E58 L N m) 1000 Try.f58 (finC (.one i64) κ))) L (f58.T0 s0 s1 s2 s3 s4) (f58.H0 s0 s1 s2 s3 s4)) x0 := by kernel_rfl
theorem f58.b_eq {R : Type} (L N m : Nat) (κ : AV → Option R) (x0 : Tree) :
    evBody (E58 L N m) (evCallI (E58 L N m) 0 1000) 1000 58 Try.f58 [(.tv (.st 1) x0)] [] [] (finC (.one i64) κ)
    = f58.b L N (f58 L N m) (fun a0 => κ (.tv i64 a0)) x0 := by
  rw [f58.b_pre]
  unfold f58.b
  simp only [f58.l0_eq, f58.p0_e0_eq]
theorem f58.s0'_nat {R R' : Type} (j : R → Option R') (L N : Nat) (self58 : Tree → Option (Int)) (k0_e0 : Int → Int → Int → (List Tree) → Option R) (rec0 : Int → Int → Int → Int → (List Tree) → Option R) (s0 : Int) (s1 : Int) (s2 : Int) (s3 : Int) (s4 : (List Tree)) :
    f58.s0' L N self58 (fun a0 a1 a2 a3 => (k0_e0 a0 a1 a2 a3).bind j) (fun a0 a1 a2 a3 a4 => (rec0 a0 a1 a2 a3 a4).bind j) s0 s1 s2 s3 s4 = (f58.s0' L N self58 k0_e0 rec0 s0 s1 s2 s3 s4).bind j := by
  unfold f58.s0'
  repeat' (first | (with_reducible refine cond_nat ?_ ?_) | (with_reducible refine bind_nat fun _ => ?_) | rfl)
theorem f58.s0_nat {R R' : Type} (j : R → Option R') (L N : Nat) (self58 : Tree → Option (Int)) (k0_e0 : Int → Int → Int → (List Tree) → Option R) (rec0 : Int → Int → Int → Int → (List Tree) → Option R) (s0 : Int) (s1 : Int) (s2 : Int) (s3 : Int) (s4 : (List Tree)) :
    f58.s0 L N self58 (fun a0 a1 a2 a3 => (k0_e0 a0 a1 a2 a3).bind j) (fun a0 a1 a2 a3 a4 => (rec0 a0 a1 a2 a3 a4).bind j) s0 s1 s2 s3 s4 = (f58.s0 L N self58 k0_e0 rec0 s0 s1 s2 s3 s4).bind j := by
  unfold f58.s0
  exact f58.s0'_nat ..
theorem f58.l0_nat {R R' : Type} (j : R → Option R') (L N : Nat) (self58 : Tree → Option (Int)) (k0_e0 : Int → Int → Int → (List Tree) → Option R) : ∀ (n : Nat) (s0 : Int) (s1 : Int) (s2 : Int) (s3 : Int) (s4 : (List Tree)),
    f58.l0 L N self58 (fun a0 a1 a2 a3 => (k0_e0 a0 a1 a2 a3).bind j) n s0 s1 s2 s3 s4 = (f58.l0 L N self58 k0_e0 n s0 s1 s2 s3 s4).bind j := by
  intro n
  induction n with
  | zero => intros; rfl
  | succ n ih =>
    intro s0 s1 s2 s3 s4
    show f58.s0 L N self58 (fun a0 a1 a2 a3 => (k0_e0 a0 a1 a2 a3).bind j) (f58.l0 L N self58 (fun a0 a1 a2 a3 => (k0_e0 a0 a1 a2 a3).bind j) n) s0 s1 s2 s3 s4 = _
    rw [show f58.l0 L N self58 (fun a0 a1 a2 a3 => (k0_e0 a0 a1 a2 a3).bind j) n = (fun s0 s1 s2 s3 s4 => (f58.l0 L N self58 k0_e0 n s0 s1 s2 s3 s4).bind j) from funext fun s0 => funext fun s1 => funext fun s2 => funext fun s3 => funext fun s4 => ih s0 s1 s2 s3 s4]
    exact f58.s0_nat ..
theorem f58.p0_e0'_nat {R R' : Type} (j : R → Option R') (L N : Nat) (self58 : Tree → Option (Int)) (k : Int → Option R) (z6 : Int) (z7 : Int) (z8 : Int) (z9 : (List Tree)) :
    f58.p0_e0' L N self58 (fun a0 => (k a0).bind j) z6 z7 z8 z9 = (f58.p0_e0' L N self58 k z6 z7 z8 z9).bind j := by
  unfold f58.p0_e0'
  repeat' (first | (with_reducible refine cond_nat ?_ ?_) | (with_reducible refine bind_nat fun _ => ?_) | rfl)
theorem f58.p0_e0_nat {R R' : Type} (j : R → Option R') (L N : Nat) (self58 : Tree → Option (Int)) (k : Int → Option R) (z6 : Int) (z7 : Int) (z8 : Int) (z9 : (List Tree)) :
    f58.p0_e0 L N self58 (fun a0 => (k a0).bind j) z6 z7 z8 z9 = (f58.p0_e0 L N self58 k z6 z7 z8 z9).bind j := by
  unfold f58.p0_e0
  exact f58.p0_e0'_nat ..
theorem f58.b'_nat {R R' : Type} (j : R → Option R') (L N : Nat) (self58 : Tree → Option (Int)) (k : Int → Option R) (w0 : Int → Int → Int → Int → (List Tree) → Option R) (x0 : Tree) :
    f58.b' L N self58 (fun a0 => (k a0).bind j) (fun a0 a1 a2 a3 a4 => (w0 a0 a1 a2 a3 a4).bind j) x0 = (f58.b' L N self58 k w0 x0).bind j := by
  unfold f58.b'
  repeat' (first | (with_reducible refine cond_nat ?_ ?_) | (with_reducible refine bind_nat fun _ => ?_) | rfl)
theorem f58.b_nat {R R' : Type} (j : R → Option R') (L N : Nat) (self58 : Tree → Option (Int)) (k : Int → Option R) (x0 : Tree) :
    f58.b L N self58 (fun a0 => (k a0).bind j) x0 = (f58.b L N self58 k x0).bind j := by
  unfold f58.b
  simp only [f58.l0_nat, f58.p0_e0_nat]
  exact f58.b'_nat ..
theorem f58.ok (L N m : Nat) (hΦ : TellsOk Try.prog (Φ58s L N m)) : EntOk Try.prog 58 (f58.ent L N (m + 1)) := by
  intro args vw site h
  unfold f58.ent
  split
  · rename_i d ha
    intro y hy hs
    refine call_ro (dep := 1000) (E := (E58 L N m)) (rs := (.one i64)) (v := (.tv i64 y)) (sound_of hΦ) okP (callI_sound (sound_of hΦ) okP 0 1000) (f := Try.f58) rfl hs ha ?_ rfl site
    refine (f58.b_eq L N m some d.1).trans ?_
    refine ((f58.b_nat (fun y => (some (.tv i64 y) : Option AV)) L N (f58 L N m) some d.1)).trans ?_
    rw [show f58.b L N (f58 L N m) some d.1 = some y from hy]
    rfl
  · intro y hy
    cases hy
theorem Φ58s_ok (L N : Nat) : ∀ m, TellsOk Try.prog (Φ58s L N m) := by
  intro m
  induction m with
  | zero => exact (addT_ok (Φ30_ok L N) (fun args vw site h => by unfold f58.ent; split <;> (intro y hy; cases hy)))
  | succ m ih => exact (addT_ok (Φ30_ok L N) (f58.ok L N m ih))
def Φ58 (L N : Nat) : Tells := (addT (Φ30 L N) 58 (f58.ent L N N))
theorem Φ58_ok (L N : Nat) : TellsOk Try.prog (Φ58 L N) := Φ58s_ok L N N
def f31.b' {R : Type} (L N : Nat) (k : Int → Option R) (x0 : Tree) : Option R :=
  (f25 L N (Tree.mk x0.op x0.n x0.parts)).bind fun y0 =>
  bif (!y0) then
    k (-1 : Int)
  else (f58 L N N (Tree.mk x0.op x0.n x0.parts)).bind fun y1 =>
  k y1
def f31.b {R : Type} (L N : Nat) (k : Int → Option R) (x0 : Tree) : Option R :=
  f31.b' L N k x0
def f31 (L N : Nat) (x0 : Tree) : Option (Int) := f31.b L N some x0
def f31.ent (L N : Nat) (args : List AV) (vw : View) (site : Nat) : Ans := match roD [(.st 1)] vw args with
  | some d => ⟨Int, f31 L N d.1, fun y => ((.tv i64 y), [], [])⟩
  | none => Ans.no
noncomputable def E31 (L N : Nat) : Env := { P := Try.prog, ty := tyOf, Φ := (Φ58 L N), inl := fun _ => false, live := lives, liveX := livesX, L := L }
theorem f31.b_pre {R : Type} (L N : Nat) (κ : AV → Option R) (x0 : Tree) :
    evBody (E31 L N) (evCallI (E31 L N) 0 1000) 1000 31 Try.f31 [(.tv (.st 1) x0)] [] [] (finC (.one i64) κ)
    = f31.b' L N (fun a0 => κ (.tv i64 a0)) x0 := by kernel_rfl
theorem f31.b_eq {R : Type} (L N : Nat) (κ : AV → Option R) (x0 : Tree) :
    evBody (E31 L N) (evCallI (E31 L N) 0 1000) 1000 31 Try.f31 [(.tv (.st 1) x0)] [] [] (finC (.one i64) κ)
    = f31.b L N (fun a0 => κ (.tv i64 a0)) x0 := by
  rw [f31.b_pre]
  unfold f31.b
  rfl
theorem f31.b'_nat {R R' : Type} (j : R → Option R') (L N : Nat) (k : Int → Option R) (x0 : Tree) :
    f31.b' L N (fun a0 => (k a0).bind j) x0 = (f31.b' L N k x0).bind j := by
  unfold f31.b'
  repeat' (first | (with_reducible refine cond_nat ?_ ?_) | (with_reducible refine bind_nat fun _ => ?_) | rfl)
theorem f31.b_nat {R R' : Type} (j : R → Option R') (L N : Nat) (k : Int → Option R) (x0 : Tree) :
    f31.b L N (fun a0 => (k a0).bind j) x0 = (f31.b L N k x0).bind j := by
  unfold f31.b
  exact f31.b'_nat ..
theorem f31.ok (L N : Nat) (hΦ : TellsOk Try.prog ((Φ58 L N))) : EntOk Try.prog 31 (f31.ent L N) := by
  intro args vw site h
  unfold f31.ent
  split
  · rename_i d ha
    intro y hy hs
    refine call_ro (dep := 1000) (E := (E31 L N)) (rs := (.one i64)) (v := (.tv i64 y)) (sound_of hΦ) okP (callI_sound (sound_of hΦ) okP 0 1000) (f := Try.f31) rfl hs ha ?_ rfl site
    refine (f31.b_eq L N some d.1).trans ?_
    refine ((f31.b_nat (fun y => (some (.tv i64 y) : Option AV)) L N some d.1)).trans ?_
    rw [show f31.b L N some d.1 = some y from hy]
    rfl
  · intro y hy
    cases hy
def Φ31 (L N : Nat) : Tells := (addT (Φ58 L N) 31 (f31.ent L N))
theorem Φ31_ok (L N : Nat) : TellsOk Try.prog (Φ31 L N) := addT_ok (Φ58_ok L N) (f31.ok L N (Φ58_ok L N))
def f7.b' {R : Type} (L N : Nat) (k : Bool → Option R) (x0 : (List Int)) : Option R :=
  bif (decide ((x0.length : Int) > (1048576 : Int))) then
    k true
  else (f29 L N x0).bind fun y0 =>
  (f30 L N (Tree.mk y0.op y0.n y0.parts)).bind fun y1 =>
  (f31 L N (Tree.mk y0.op y0.n y0.parts)).bind fun y2 =>
  bif (y1 != y2) then
    k false
  else bif (decide (y1 < (0 : Int))) then
    k true
  else (f27 L N (Tree.mk (3 : Int) (1 : Int) ([(Tree.mk y0.op y0.n y0.parts)] : (List Tree)))).bind fun y3 =>
  bif (!y3) then
    (f27 L N (Tree.mk (1 : Int) (0 : Int) ([(Tree.mk y0.op y0.n y0.parts)] : (List Tree)))).bind fun y4 =>
    bif (!y4) then
      k true
    else (f30 L N (Tree.mk (1 : Int) (0 : Int) ([(Tree.mk y0.op y0.n y0.parts)] : (List Tree)))).bind fun y5 =>
    k (y5 == y1)
  else (f30 L N (Tree.mk (3 : Int) (1 : Int) ([(Tree.mk y0.op y0.n y0.parts)] : (List Tree)))).bind fun y6 =>
  bif (y6 == (wi (y1 + (1 : Int)))) then
    (f27 L N (Tree.mk (1 : Int) (0 : Int) ([(Tree.mk y0.op y0.n y0.parts)] : (List Tree)))).bind fun y7 =>
    bif (!y7) then
      k true
    else (f30 L N (Tree.mk (1 : Int) (0 : Int) ([(Tree.mk y0.op y0.n y0.parts)] : (List Tree)))).bind fun y8 =>
    k (y8 == y1)
  else k false
def f7.b {R : Type} (L N : Nat) (k : Bool → Option R) (x0 : (List Int)) : Option R :=
  f7.b' L N k x0
def f7 (L N : Nat) (x0 : (List Int)) : Option (Bool) := f7.b L N some x0
def f7.ent (L N : Nat) (args : List AV) (vw : View) (site : Nat) : Ans := match roD [(.sl (.int .u8))] vw args with
  | some d => ⟨Bool, f7 L N d.1, fun y => ((.tv .bool y), [], [])⟩
  | none => Ans.no
noncomputable def E7 (L N : Nat) : Env := { P := Try.prog, ty := tyOf, Φ := (Φ31 L N), inl := fun _ => false, live := lives, liveX := livesX, L := L }
theorem f7.b_pre {R : Type} (L N : Nat) (κ : AV → Option R) (x0 : (List Int)) :
    evBody (E7 L N) (evCallI (E7 L N) 0 1000) 1000 7 Try.f7 [(.tv (.sl (.int .u8)) x0)] [] [] (finC (.one .bool) κ)
    = f7.b' L N (fun a0 => κ (.tv .bool a0)) x0 := by kernel_rfl
theorem f7.b_eq {R : Type} (L N : Nat) (κ : AV → Option R) (x0 : (List Int)) :
    evBody (E7 L N) (evCallI (E7 L N) 0 1000) 1000 7 Try.f7 [(.tv (.sl (.int .u8)) x0)] [] [] (finC (.one .bool) κ)
    = f7.b L N (fun a0 => κ (.tv .bool a0)) x0 := by
  rw [f7.b_pre]
  unfold f7.b
  rfl
theorem f7.b'_nat {R R' : Type} (j : R → Option R') (L N : Nat) (k : Bool → Option R) (x0 : (List Int)) :
    f7.b' L N (fun a0 => (k a0).bind j) x0 = (f7.b' L N k x0).bind j := by
  unfold f7.b'
  repeat' (first | (with_reducible refine cond_nat ?_ ?_) | (with_reducible refine bind_nat fun _ => ?_) | rfl)
theorem f7.b_nat {R R' : Type} (j : R → Option R') (L N : Nat) (k : Bool → Option R) (x0 : (List Int)) :
    f7.b L N (fun a0 => (k a0).bind j) x0 = (f7.b L N k x0).bind j := by
  unfold f7.b
  exact f7.b'_nat ..
theorem f7.ok (L N : Nat) (hΦ : TellsOk Try.prog ((Φ31 L N))) : EntOk Try.prog 7 (f7.ent L N) := by
  intro args vw site h
  unfold f7.ent
  split
  · rename_i d ha
    intro y hy hs
    refine call_ro (dep := 1000) (E := (E7 L N)) (rs := (.one .bool)) (v := (.tv .bool y)) (sound_of hΦ) okP (callI_sound (sound_of hΦ) okP 0 1000) (f := Try.f7) rfl hs ha ?_ rfl site
    refine (f7.b_eq L N some d.1).trans ?_
    refine ((f7.b_nat (fun y => (some (.tv .bool y) : Option AV)) L N some d.1)).trans ?_
    rw [show f7.b L N some d.1 = some y from hy]
    rfl
  · intro y hy
    cases hy
def Φ7 (L N : Nat) : Tells := (addT (Φ31 L N) 7 (f7.ent L N))
theorem Φ7_ok (L N : Nat) : TellsOk Try.prog (Φ7 L N) := addT_ok (Φ31_ok L N) (f7.ok L N (Φ31_ok L N))
def f8.b' {R : Type} (L N : Nat) (k : Bool → Option R) (x0 : Tree) : Option R :=
  (f24 L N N (Tree.mk x0.op x0.n x0.parts) (1048576 : Int)).bind fun y0 =>
  bif (decide (y0 < (0 : Int))) then
    k true
  else (f26 L N N (Tree.mk x0.op x0.n x0.parts)).bind fun y1 =>
  (f31 L N y1).bind fun y2 =>
  (f26 L N N (Tree.mk x0.op x0.n x0.parts)).bind fun y3 =>
  (f30 L N (Tree.mk y3.op y3.n y3.parts)).bind fun y4 =>
  bif (y4 != y2) then
    k false
  else (f26 L N N (Tree.mk x0.op x0.n x0.parts)).bind fun y5 =>
  (f28 L N N (Tree.mk y3.op y3.n y3.parts) y5).bind fun y6 =>
  bif (!y6) then
    k false
  else k true
def f8.b {R : Type} (L N : Nat) (k : Bool → Option R) (x0 : Tree) : Option R :=
  f8.b' L N k x0
def f8 (L N : Nat) (x0 : Tree) : Option (Bool) := f8.b L N some x0
def f8.ent (L N : Nat) (args : List AV) (vw : View) (site : Nat) : Ans := match roD [(.st 1)] vw args with
  | some d => ⟨Bool, f8 L N d.1, fun y => ((.tv .bool y), [], [])⟩
  | none => Ans.no
noncomputable def E8 (L N : Nat) : Env := { P := Try.prog, ty := tyOf, Φ := (Φ7 L N), inl := fun _ => false, live := lives, liveX := livesX, L := L }
theorem f8.b_pre {R : Type} (L N : Nat) (κ : AV → Option R) (x0 : Tree) :
    evBody (E8 L N) (evCallI (E8 L N) 0 1000) 1000 8 Try.f8 [(.tv (.st 1) x0)] [] [] (finC (.one .bool) κ)
    = f8.b' L N (fun a0 => κ (.tv .bool a0)) x0 := by kernel_rfl
theorem f8.b_eq {R : Type} (L N : Nat) (κ : AV → Option R) (x0 : Tree) :
    evBody (E8 L N) (evCallI (E8 L N) 0 1000) 1000 8 Try.f8 [(.tv (.st 1) x0)] [] [] (finC (.one .bool) κ)
    = f8.b L N (fun a0 => κ (.tv .bool a0)) x0 := by
  rw [f8.b_pre]
  unfold f8.b
  rfl
theorem f8.b'_nat {R R' : Type} (j : R → Option R') (L N : Nat) (k : Bool → Option R) (x0 : Tree) :
    f8.b' L N (fun a0 => (k a0).bind j) x0 = (f8.b' L N k x0).bind j := by
  unfold f8.b'
  repeat' (first | (with_reducible refine cond_nat ?_ ?_) | (with_reducible refine bind_nat fun _ => ?_) | rfl)
theorem f8.b_nat {R R' : Type} (j : R → Option R') (L N : Nat) (k : Bool → Option R) (x0 : Tree) :
    f8.b L N (fun a0 => (k a0).bind j) x0 = (f8.b L N k x0).bind j := by
  unfold f8.b
  exact f8.b'_nat ..
theorem f8.ok (L N : Nat) (hΦ : TellsOk Try.prog ((Φ7 L N))) : EntOk Try.prog 8 (f8.ent L N) := by
  intro args vw site h
  unfold f8.ent
  split
  · rename_i d ha
    intro y hy hs
    refine call_ro (dep := 1000) (E := (E8 L N)) (rs := (.one .bool)) (v := (.tv .bool y)) (sound_of hΦ) okP (callI_sound (sound_of hΦ) okP 0 1000) (f := Try.f8) rfl hs ha ?_ rfl site
    refine (f8.b_eq L N some d.1).trans ?_
    refine ((f8.b_nat (fun y => (some (.tv .bool y) : Option AV)) L N some d.1)).trans ?_
    rw [show f8.b L N some d.1 = some y from hy]
    rfl
  · intro y hy
    cases hy
def Φ8 (L N : Nat) : Tells := (addT (Φ7 L N) 8 (f8.ent L N))
theorem Φ8_ok (L N : Nat) : TellsOk Try.prog (Φ8 L N) := addT_ok (Φ7_ok L N) (f8.ok L N (Φ7_ok L N))
def f32.b' {R : Type} (L N : Nat) (k : Tree → Option R) (x0 : (List Int)) : Option R :=
  (f44 L N x0).bind fun y0 =>
  (f56 L N y0.1 y0.2 (5 : Int)).bind fun y1 =>
  (f55 L N N y1.2.1 y1.2.2 y1.1).bind fun y2 =>
  k (Tree.mk ((Tree.mk y2.1.op y2.1.n y2.1.parts).op) ((Tree.mk y2.1.op y2.1.n y2.1.parts).n) ((Tree.mk y2.1.op y2.1.n y2.1.parts).parts))
def f32.b {R : Type} (L N : Nat) (k : Tree → Option R) (x0 : (List Int)) : Option R :=
  f32.b' L N k x0
def f32 (L N : Nat) (x0 : (List Int)) : Option (Tree) := f32.b L N some x0
def f32.ent (L N : Nat) (args : List AV) (vw : View) (site : Nat) : Ans := match coeD [(.sl (.int .u8))] vw args with
  | some (d, u) => ⟨Tree, f32 L N d.1, fun y => ((.tv (.st 1) y), u, [])⟩
  | none => Ans.no
noncomputable def E32 (L N : Nat) : Env := { P := Try.prog, ty := tyOf, Φ := (Φ8 L N), inl := fun _ => false, live := lives, liveX := livesX, L := L }
theorem f32.b_pre {R : Type} (L N : Nat) (κ : AV → Option R) (x0 : (List Int)) :
    evBody (E32 L N) (evCallI (E32 L N) 0 1000) 1000 32 Try.f32 [(.tv (.sl (.int .u8)) x0)] [] [] (finC (.one (.st 1)) κ)
    = f32.b' L N (fun a0 => κ (.tv (.st 1) a0)) x0 := by kernel_rfl
theorem f32.b_eq {R : Type} (L N : Nat) (κ : AV → Option R) (x0 : (List Int)) :
    evBody (E32 L N) (evCallI (E32 L N) 0 1000) 1000 32 Try.f32 [(.tv (.sl (.int .u8)) x0)] [] [] (finC (.one (.st 1)) κ)
    = f32.b L N (fun a0 => κ (.tv (.st 1) a0)) x0 := by
  rw [f32.b_pre]
  unfold f32.b
  rfl
theorem f32.b'_nat {R R' : Type} (j : R → Option R') (L N : Nat) (k : Tree → Option R) (x0 : (List Int)) :
    f32.b' L N (fun a0 => (k a0).bind j) x0 = (f32.b' L N k x0).bind j := by
  unfold f32.b'
  repeat' (first | (with_reducible refine cond_nat ?_ ?_) | (with_reducible refine bind_nat fun _ => ?_) | rfl)
theorem f32.b_nat {R R' : Type} (j : R → Option R') (L N : Nat) (k : Tree → Option R) (x0 : (List Int)) :
    f32.b L N (fun a0 => (k a0).bind j) x0 = (f32.b L N k x0).bind j := by
  unfold f32.b
  exact f32.b'_nat ..
theorem f32.ok (L N : Nat) (hΦ : TellsOk Try.prog ((Φ8 L N))) : EntOk Try.prog 32 (f32.ent L N) := by
  intro args vw site h
  unfold f32.ent
  split
  · rename_i d u ha
    intro y hy hs
    refine call_data (dep := 1000) (E := (E32 L N)) (rs := (.one (.st 1))) (v' := (.tv (.st 1) y)) (sound_of hΦ) okP (callI_sound (sound_of hΦ) okP 0 1000) (f := Try.f32) rfl hs ha ?_ site
    refine (f32.b_eq L N some d.1).trans ?_
    refine ((f32.b_nat (fun y => (some (.tv (.st 1) y) : Option AV)) L N some d.1)).trans ?_
    rw [show f32.b L N some d.1 = some y from hy]
    rfl
  · intro y hy
    cases hy
def Φ32 (L N : Nat) : Tells := (addT (Φ8 L N) 32 (f32.ent L N))
theorem Φ32_ok (L N : Nat) : TellsOk Try.prog (Φ32 L N) := addT_ok (Φ8_ok L N) (f32.ok L N (Φ8_ok L N))
def f93.b' {R : Type} (L N : Nat) (k : ByteArray → Option R) (x0 : Int) : Option R :=
  k (strOfNums ([(IntKind.wrap .u8 ((wi ((97 : Int) + x0))))] : (List Int)))
def f93.b {R : Type} (L N : Nat) (k : ByteArray → Option R) (x0 : Int) : Option R :=
  f93.b' L N k x0
def f93 (L N : Nat) (x0 : Int) : Option (ByteArray) := f93.b L N some x0
def f93.ent (L N : Nat) (args : List AV) (vw : View) (site : Nat) : Ans := match roD [i64] vw args with
  | some d => ⟨ByteArray, f93 L N d.1, fun y => ((.tv .str y), [], [])⟩
  | none => Ans.no
noncomputable def E93 (L N : Nat) : Env := { P := Try.prog, ty := tyOf, Φ := (Φ32 L N), inl := fun _ => false, live := lives, liveX := livesX, L := L }
theorem f93.b_pre {R : Type} (L N : Nat) (κ : AV → Option R) (x0 : Int) :
    evBody (E93 L N) (evCallI (E93 L N) 0 1000) 1000 93 Try.f93 [(.tv i64 x0)] [] [] (finC (.one .str) κ)
    = f93.b' L N (fun a0 => κ (.tv .str a0)) x0 := by kernel_rfl
theorem f93.b_eq {R : Type} (L N : Nat) (κ : AV → Option R) (x0 : Int) :
    evBody (E93 L N) (evCallI (E93 L N) 0 1000) 1000 93 Try.f93 [(.tv i64 x0)] [] [] (finC (.one .str) κ)
    = f93.b L N (fun a0 => κ (.tv .str a0)) x0 := by
  rw [f93.b_pre]
  unfold f93.b
  rfl
theorem f93.b'_nat {R R' : Type} (j : R → Option R') (L N : Nat) (k : ByteArray → Option R) (x0 : Int) :
    f93.b' L N (fun a0 => (k a0).bind j) x0 = (f93.b' L N k x0).bind j := by
  unfold f93.b'
  repeat' (first | (with_reducible refine cond_nat ?_ ?_) | (with_reducible refine bind_nat fun _ => ?_) | rfl)
theorem f93.b_nat {R R' : Type} (j : R → Option R') (L N : Nat) (k : ByteArray → Option R) (x0 : Int) :
    f93.b L N (fun a0 => (k a0).bind j) x0 = (f93.b L N k x0).bind j := by
  unfold f93.b
  exact f93.b'_nat ..
theorem f93.ok (L N : Nat) (hΦ : TellsOk Try.prog ((Φ32 L N))) : EntOk Try.prog 93 (f93.ent L N) := by
  intro args vw site h
  unfold f93.ent
  split
  · rename_i d ha
    intro y hy hs
    refine call_ro (dep := 1000) (E := (E93 L N)) (rs := (.one .str)) (v := (.tv .str y)) (sound_of hΦ) okP (callI_sound (sound_of hΦ) okP 0 1000) (f := Try.f93) rfl hs ha ?_ rfl site
    refine (f93.b_eq L N some d.1).trans ?_
    refine ((f93.b_nat (fun y => (some (.tv .str y) : Option AV)) L N some d.1)).trans ?_
    rw [show f93.b L N some d.1 = some y from hy]
    rfl
  · intro y hy
    cases hy
def Φ93 (L N : Nat) : Tells := (addT (Φ32 L N) 93 (f93.ent L N))
theorem Φ93_ok (L N : Nat) : TellsOk Try.prog (Φ93 L N) := addT_ok (Φ32_ok L N) (f93.ok L N (Φ32_ok L N))
def f94.b' {R : Type} (L N : Nat) (k : Int → Option R) (x0 : Int) : Option R :=
  k (wi ((bif decide ((wi (0 - x0)) > x0) then (wi (0 - x0)) else x0) - (1 : Int)))
def f94.b {R : Type} (L N : Nat) (k : Int → Option R) (x0 : Int) : Option R :=
  f94.b' L N k x0
def f94 (L N : Nat) (x0 : Int) : Option (Int) := f94.b L N some x0
def f94.ent (L N : Nat) (args : List AV) (vw : View) (site : Nat) : Ans := match roD [i64] vw args with
  | some d => ⟨Int, f94 L N d.1, fun y => ((.tv i64 y), [], [])⟩
  | none => Ans.no
noncomputable def E94 (L N : Nat) : Env := { P := Try.prog, ty := tyOf, Φ := (Φ93 L N), inl := fun _ => false, live := lives, liveX := livesX, L := L }
theorem f94.b_pre {R : Type} (L N : Nat) (κ : AV → Option R) (x0 : Int) :
    evBody (E94 L N) (evCallI (E94 L N) 0 1000) 1000 94 Try.f94 [(.tv i64 x0)] [] [] (finC (.one i64) κ)
    = f94.b' L N (fun a0 => κ (.tv i64 a0)) x0 := by kernel_rfl
theorem f94.b_eq {R : Type} (L N : Nat) (κ : AV → Option R) (x0 : Int) :
    evBody (E94 L N) (evCallI (E94 L N) 0 1000) 1000 94 Try.f94 [(.tv i64 x0)] [] [] (finC (.one i64) κ)
    = f94.b L N (fun a0 => κ (.tv i64 a0)) x0 := by
  rw [f94.b_pre]
  unfold f94.b
  rfl
theorem f94.b'_nat {R R' : Type} (j : R → Option R') (L N : Nat) (k : Int → Option R) (x0 : Int) :
    f94.b' L N (fun a0 => (k a0).bind j) x0 = (f94.b' L N k x0).bind j := by
  unfold f94.b'
  repeat' (first | (with_reducible refine cond_nat ?_ ?_) | (with_reducible refine bind_nat fun _ => ?_) | rfl)
theorem f94.b_nat {R R' : Type} (j : R → Option R') (L N : Nat) (k : Int → Option R) (x0 : Int) :
    f94.b L N (fun a0 => (k a0).bind j) x0 = (f94.b L N k x0).bind j := by
  unfold f94.b
  exact f94.b'_nat ..
theorem f94.ok (L N : Nat) (hΦ : TellsOk Try.prog ((Φ93 L N))) : EntOk Try.prog 94 (f94.ent L N) := by
  intro args vw site h
  unfold f94.ent
  split
  · rename_i d ha
    intro y hy hs
    refine call_ro (dep := 1000) (E := (E94 L N)) (rs := (.one i64)) (v := (.tv i64 y)) (sound_of hΦ) okP (callI_sound (sound_of hΦ) okP 0 1000) (f := Try.f94) rfl hs ha ?_ rfl site
    refine (f94.b_eq L N some d.1).trans ?_
    refine ((f94.b_nat (fun y => (some (.tv i64 y) : Option AV)) L N some d.1)).trans ?_
    rw [show f94.b L N some d.1 = some y from hy]
    rfl
  · intro y hy
    cases hy
def Φ94 (L N : Nat) : Tells := (addT (Φ93 L N) 94 (f94.ent L N))
theorem Φ94_ok (L N : Nat) : TellsOk Try.prog (Φ94 L N) := addT_ok (Φ93_ok L N) (f94.ok L N (Φ93_ok L N))
def f76.b' {R : Type} (L N : Nat) (k : ByteArray → Option R) (x0 : Int) : Option R :=
  (f74 L N x0).bind fun y0 =>
  bif (!y0) then
    k (ByteArray.mk #[])
  else bif (x0 == (0 : Int)) then
    k (ByteArray.mk #[116, 97, 117])
  else bif (decide (x0 > (0 : Int))) then
    (f94 L N x0).bind fun y1 =>
    (f93 L N y1).bind fun y2 =>
    k y2
  else (f94 L N x0).bind fun y3 =>
  (f93 L N y3).bind fun y4 =>
  bif (decide ((ByteArray.mk #[33]).size + y4.size ≤ 4611686018427387904)) then
    k ((ByteArray.mk #[33]) ++ y4)
  else none
def f76.b {R : Type} (L N : Nat) (k : ByteArray → Option R) (x0 : Int) : Option R :=
  f76.b' L N k x0
def f76 (L N : Nat) (x0 : Int) : Option (ByteArray) := f76.b L N some x0
def f76.ent (L N : Nat) (args : List AV) (vw : View) (site : Nat) : Ans := match roD [i64] vw args with
  | some d => ⟨ByteArray, f76 L N d.1, fun y => ((.tv .str y), [], [])⟩
  | none => Ans.no
noncomputable def E76 (L N : Nat) : Env := { P := Try.prog, ty := tyOf, Φ := (Φ94 L N), inl := fun _ => false, live := lives, liveX := livesX, L := L }
theorem f76.b_pre {R : Type} (L N : Nat) (κ : AV → Option R) (x0 : Int) :
    evBody (E76 L N) (evCallI (E76 L N) 0 1000) 1000 76 Try.f76 [(.tv i64 x0)] [] [] (finC (.one .str) κ)
    = f76.b' L N (fun a0 => κ (.tv .str a0)) x0 := by kernel_rfl
theorem f76.b_eq {R : Type} (L N : Nat) (κ : AV → Option R) (x0 : Int) :
    evBody (E76 L N) (evCallI (E76 L N) 0 1000) 1000 76 Try.f76 [(.tv i64 x0)] [] [] (finC (.one .str) κ)
    = f76.b L N (fun a0 => κ (.tv .str a0)) x0 := by
  rw [f76.b_pre]
  unfold f76.b
  rfl
theorem f76.b'_nat {R R' : Type} (j : R → Option R') (L N : Nat) (k : ByteArray → Option R) (x0 : Int) :
    f76.b' L N (fun a0 => (k a0).bind j) x0 = (f76.b' L N k x0).bind j := by
  unfold f76.b'
  repeat' (first | (with_reducible refine cond_nat ?_ ?_) | (with_reducible refine bind_nat fun _ => ?_) | rfl)
theorem f76.b_nat {R R' : Type} (j : R → Option R') (L N : Nat) (k : ByteArray → Option R) (x0 : Int) :
    f76.b L N (fun a0 => (k a0).bind j) x0 = (f76.b L N k x0).bind j := by
  unfold f76.b
  exact f76.b'_nat ..
theorem f76.ok (L N : Nat) (hΦ : TellsOk Try.prog ((Φ94 L N))) : EntOk Try.prog 76 (f76.ent L N) := by
  intro args vw site h
  unfold f76.ent
  split
  · rename_i d ha
    intro y hy hs
    refine call_ro (dep := 1000) (E := (E76 L N)) (rs := (.one .str)) (v := (.tv .str y)) (sound_of hΦ) okP (callI_sound (sound_of hΦ) okP 0 1000) (f := Try.f76) rfl hs ha ?_ rfl site
    refine (f76.b_eq L N some d.1).trans ?_
    refine ((f76.b_nat (fun y => (some (.tv .str y) : Option AV)) L N some d.1)).trans ?_
    rw [show f76.b L N some d.1 = some y from hy]
    rfl
  · intro y hy
    cases hy
def Φ76 (L N : Nat) : Tells := (addT (Φ94 L N) 76 (f76.ent L N))
theorem Φ76_ok (L N : Nat) : TellsOk Try.prog (Φ76 L N) := addT_ok (Φ94_ok L N) (f76.ok L N (Φ94_ok L N))
def f59.b' {R : Type} (L N : Nat) (self59 : Tree → Option (ByteArray)) (k : ByteArray → Option R) (x0 : Tree) : Option R :=
  bif (x0.op == (1 : Int)) then
    bif (decide (0 ≤ (0 : Int)) && decide ((0 : Int) < (x0.parts.length : Int))) then
      (self59 (listAt x0.parts (Ty.dflt (.st 1)) (0 : Int).toNat)).bind fun y0 =>
      bif (decide ((ByteArray.mk #[40, 110, 111, 116, 32]).size + y0.size ≤ 4611686018427387904)) then
        bif (decide (((ByteArray.mk #[40, 110, 111, 116, 32]) ++ y0).size + (ByteArray.mk #[41]).size ≤ 4611686018427387904)) then
          k (((ByteArray.mk #[40, 110, 111, 116, 32]) ++ y0) ++ (ByteArray.mk #[41]))
        else none
      else none
    else none
  else bif (x0.op == (2 : Int)) then
    bif (decide (0 ≤ (0 : Int)) && decide ((0 : Int) < (x0.parts.length : Int))) then
      (self59 (listAt x0.parts (Ty.dflt (.st 1)) (0 : Int).toNat)).bind fun y1 =>
      bif (decide ((ByteArray.mk #[40, 97, 110, 100, 32]).size + y1.size ≤ 4611686018427387904)) then
        bif (decide (((ByteArray.mk #[40, 97, 110, 100, 32]) ++ y1).size + (ByteArray.mk #[32]).size ≤ 4611686018427387904)) then
          bif (decide (0 ≤ (1 : Int)) && decide ((1 : Int) < (x0.parts.length : Int))) then
            (self59 (listAt x0.parts (Ty.dflt (.st 1)) (1 : Int).toNat)).bind fun y2 =>
            bif (decide ((((ByteArray.mk #[40, 97, 110, 100, 32]) ++ y1) ++ (ByteArray.mk #[32])).size + y2.size ≤ 4611686018427387904)) then
              bif (decide (((((ByteArray.mk #[40, 97, 110, 100, 32]) ++ y1) ++ (ByteArray.mk #[32])) ++ y2).size + (ByteArray.mk #[41]).size ≤ 4611686018427387904)) then
                k (((((ByteArray.mk #[40, 97, 110, 100, 32]) ++ y1) ++ (ByteArray.mk #[32])) ++ y2) ++ (ByteArray.mk #[41]))
              else none
            else none
          else none
        else none
      else none
    else none
  else bif (x0.op == (3 : Int)) then
    (f76 L N x0.n).bind fun y3 =>
    bif (decide ((ByteArray.mk #[40, 109, 97, 121, 32]).size + y3.size ≤ 4611686018427387904)) then
      bif (decide (((ByteArray.mk #[40, 109, 97, 121, 32]) ++ y3).size + (ByteArray.mk #[32]).size ≤ 4611686018427387904)) then
        bif (decide (0 ≤ (0 : Int)) && decide ((0 : Int) < (x0.parts.length : Int))) then
          (self59 (listAt x0.parts (Ty.dflt (.st 1)) (0 : Int).toNat)).bind fun y4 =>
          bif (decide ((((ByteArray.mk #[40, 109, 97, 121, 32]) ++ y3) ++ (ByteArray.mk #[32])).size + y4.size ≤ 4611686018427387904)) then
            bif (decide (((((ByteArray.mk #[40, 109, 97, 121, 32]) ++ y3) ++ (ByteArray.mk #[32])) ++ y4).size + (ByteArray.mk #[41]).size ≤ 4611686018427387904)) then
              k (((((ByteArray.mk #[40, 109, 97, 121, 32]) ++ y3) ++ (ByteArray.mk #[32])) ++ y4) ++ (ByteArray.mk #[41]))
            else none
          else none
        else none
      else none
    else none
  else k (ByteArray.mk #[84])
def f59.b {R : Type} (L N : Nat) (self59 : Tree → Option (ByteArray)) (k : ByteArray → Option R) (x0 : Tree) : Option R :=
  f59.b' L N self59 k x0
def f59 (L N : Nat) : Nat → Tree → Option (ByteArray)
  | 0, _ => none
  | n + 1, x0 => f59.b L N (f59 L N n) some x0
def f59.ent (L N m : Nat) (args : List AV) (vw : View) (site : Nat) : Ans := match roD [(.st 1)] vw args with
  | some d => ⟨ByteArray, f59 L N m d.1, fun y => ((.tv .str y), [], [])⟩
  | none => Ans.no
def Φ59s (L N m : Nat) : Tells := (addT (Φ76 L N) 59 (f59.ent L N m))
noncomputable def E59 (L N m : Nat) : Env := { P := Try.prog, ty := tyOf, Φ := Φ59s L N m, inl := fun _ => false, live := lives, liveX := livesX, L := L }
theorem f59.b_pre {R : Type} (L N m : Nat) (κ : AV → Option R) (x0 : Tree) :
    evBody (E59 L N m) (evCallI (E59 L N m) 0 1000) 1000 59 Try.f59 [(.tv (.st 1) x0)] [] [] (finC (.one .str) κ)
    = f59.b' L N (f59 L N m) (fun a0 => κ (.tv .str a0)) x0 := by kernel_rfl
theorem f59.b_eq {R : Type} (L N m : Nat) (κ : AV → Option R) (x0 : Tree) :
    evBody (E59 L N m) (evCallI (E59 L N m) 0 1000) 1000 59 Try.f59 [(.tv (.st 1) x0)] [] [] (finC (.one .str) κ)
    = f59.b L N (f59 L N m) (fun a0 => κ (.tv .str a0)) x0 := by
  rw [f59.b_pre]
  unfold f59.b
  rfl
theorem f59.b'_nat {R R' : Type} (j : R → Option R') (L N : Nat) (self59 : Tree → Option (ByteArray)) (k : ByteArray → Option R) (x0 : Tree) :
    f59.b' L N self59 (fun a0 => (k a0).bind j) x0 = (f59.b' L N self59 k x0).bind j := by
  unfold f59.b'
  repeat' (first | (with_reducible refine cond_nat ?_ ?_) | (with_reducible refine bind_nat fun _ => ?_) | rfl)
theorem f59.b_nat {R R' : Type} (j : R → Option R') (L N : Nat) (self59 : Tree → Option (ByteArray)) (k : ByteArray → Option R) (x0 : Tree) :
    f59.b L N self59 (fun a0 => (k a0).bind j) x0 = (f59.b L N self59 k x0).bind j := by
  unfold f59.b
  exact f59.b'_nat ..
theorem f59.ok (L N m : Nat) (hΦ : TellsOk Try.prog (Φ59s L N m)) : EntOk Try.prog 59 (f59.ent L N (m + 1)) := by
  intro args vw site h
  unfold f59.ent
  split
  · rename_i d ha
    intro y hy hs
    refine call_ro (dep := 1000) (E := (E59 L N m)) (rs := (.one .str)) (v := (.tv .str y)) (sound_of hΦ) okP (callI_sound (sound_of hΦ) okP 0 1000) (f := Try.f59) rfl hs ha ?_ rfl site
    refine (f59.b_eq L N m some d.1).trans ?_
    refine ((f59.b_nat (fun y => (some (.tv .str y) : Option AV)) L N (f59 L N m) some d.1)).trans ?_
    rw [show f59.b L N (f59 L N m) some d.1 = some y from hy]
    rfl
  · intro y hy
    cases hy
theorem Φ59s_ok (L N : Nat) : ∀ m, TellsOk Try.prog (Φ59s L N m) := by
  intro m
  induction m with
  | zero => exact (addT_ok (Φ76_ok L N) (fun args vw site h => by unfold f59.ent; split <;> (intro y hy; cases hy)))
  | succ m ih => exact (addT_ok (Φ76_ok L N) (f59.ok L N m ih))
def Φ59 (L N : Nat) : Tells := (addT (Φ76 L N) 59 (f59.ent L N N))
theorem Φ59_ok (L N : Nat) : TellsOk Try.prog (Φ59 L N) := Φ59s_ok L N N
def f33.b' {R : Type} (L N : Nat) (k : ByteArray → Option R) (x0 : Tree) : Option R :=
  (f27 L N (Tree.mk x0.op x0.n x0.parts)).bind fun y0 =>
  bif (!y0) then
    k (ByteArray.mk #[])
  else (f59 L N N (Tree.mk x0.op x0.n x0.parts)).bind fun y1 =>
  k y1
def f33.b {R : Type} (L N : Nat) (k : ByteArray → Option R) (x0 : Tree) : Option R :=
  f33.b' L N k x0
def f33 (L N : Nat) (x0 : Tree) : Option (ByteArray) := f33.b L N some x0
def f33.ent (L N : Nat) (args : List AV) (vw : View) (site : Nat) : Ans := match roD [(.st 1)] vw args with
  | some d => ⟨ByteArray, f33 L N d.1, fun y => ((.tv .str y), [], [])⟩
  | none => Ans.no
noncomputable def E33 (L N : Nat) : Env := { P := Try.prog, ty := tyOf, Φ := (Φ59 L N), inl := fun _ => false, live := lives, liveX := livesX, L := L }
theorem f33.b_pre {R : Type} (L N : Nat) (κ : AV → Option R) (x0 : Tree) :
    evBody (E33 L N) (evCallI (E33 L N) 0 1000) 1000 33 Try.f33 [(.tv (.st 1) x0)] [] [] (finC (.one .str) κ)
    = f33.b' L N (fun a0 => κ (.tv .str a0)) x0 := by kernel_rfl
theorem f33.b_eq {R : Type} (L N : Nat) (κ : AV → Option R) (x0 : Tree) :
    evBody (E33 L N) (evCallI (E33 L N) 0 1000) 1000 33 Try.f33 [(.tv (.st 1) x0)] [] [] (finC (.one .str) κ)
    = f33.b L N (fun a0 => κ (.tv .str a0)) x0 := by
  rw [f33.b_pre]
  unfold f33.b
  rfl
theorem f33.b'_nat {R R' : Type} (j : R → Option R') (L N : Nat) (k : ByteArray → Option R) (x0 : Tree) :
    f33.b' L N (fun a0 => (k a0).bind j) x0 = (f33.b' L N k x0).bind j := by
  unfold f33.b'
  repeat' (first | (with_reducible refine cond_nat ?_ ?_) | (with_reducible refine bind_nat fun _ => ?_) | rfl)
theorem f33.b_nat {R R' : Type} (j : R → Option R') (L N : Nat) (k : ByteArray → Option R) (x0 : Tree) :
    f33.b L N (fun a0 => (k a0).bind j) x0 = (f33.b L N k x0).bind j := by
  unfold f33.b
  exact f33.b'_nat ..
theorem f33.ok (L N : Nat) (hΦ : TellsOk Try.prog ((Φ59 L N))) : EntOk Try.prog 33 (f33.ent L N) := by
  intro args vw site h
  unfold f33.ent
  split
  · rename_i d ha
    intro y hy hs
    refine call_ro (dep := 1000) (E := (E33 L N)) (rs := (.one .str)) (v := (.tv .str y)) (sound_of hΦ) okP (callI_sound (sound_of hΦ) okP 0 1000) (f := Try.f33) rfl hs ha ?_ rfl site
    refine (f33.b_eq L N some d.1).trans ?_
    refine ((f33.b_nat (fun y => (some (.tv .str y) : Option AV)) L N some d.1)).trans ?_
    rw [show f33.b L N some d.1 = some y from hy]
    rfl
  · intro y hy
    cases hy
def Φ33 (L N : Nat) : Tells := (addT (Φ59 L N) 33 (f33.ent L N))
theorem Φ33_ok (L N : Nat) : TellsOk Try.prog (Φ33 L N) := addT_ok (Φ59_ok L N) (f33.ok L N (Φ59_ok L N))
def f9.b' {R : Type} (L N : Nat) (k : Bool → Option R) (x0 : (List Int)) : Option R :=
  bif (decide ((x0.length : Int) > (1048576 : Int))) then
    k true
  else (f32 L N x0).bind fun y0 =>
  (f27 L N (Tree.mk y0.op y0.n y0.parts)).bind fun y1 =>
  (f25 L N (Tree.mk y0.op y0.n y0.parts)).bind fun y2 =>
  bif (!(y1 == y2)) then
    k false
  else (f33 L N (Tree.mk y0.op y0.n y0.parts)).bind fun y3 =>
  bif (y1 == (!(y3.toList == (ByteArray.mk #[]).toList))) then
    (f30 L N (Tree.mk y0.op y0.n y0.parts)).bind fun y4 =>
    k (y1 == (decide (y4 ≥ (0 : Int))))
  else k false
def f9.b {R : Type} (L N : Nat) (k : Bool → Option R) (x0 : (List Int)) : Option R :=
  f9.b' L N k x0
def f9 (L N : Nat) (x0 : (List Int)) : Option (Bool) := f9.b L N some x0
def f9.ent (L N : Nat) (args : List AV) (vw : View) (site : Nat) : Ans := match roD [(.sl (.int .u8))] vw args with
  | some d => ⟨Bool, f9 L N d.1, fun y => ((.tv .bool y), [], [])⟩
  | none => Ans.no
noncomputable def E9 (L N : Nat) : Env := { P := Try.prog, ty := tyOf, Φ := (Φ33 L N), inl := fun _ => false, live := lives, liveX := livesX, L := L }
theorem f9.b_pre {R : Type} (L N : Nat) (κ : AV → Option R) (x0 : (List Int)) :
    evBody (E9 L N) (evCallI (E9 L N) 0 1000) 1000 9 Try.f9 [(.tv (.sl (.int .u8)) x0)] [] [] (finC (.one .bool) κ)
    = f9.b' L N (fun a0 => κ (.tv .bool a0)) x0 := by kernel_rfl
theorem f9.b_eq {R : Type} (L N : Nat) (κ : AV → Option R) (x0 : (List Int)) :
    evBody (E9 L N) (evCallI (E9 L N) 0 1000) 1000 9 Try.f9 [(.tv (.sl (.int .u8)) x0)] [] [] (finC (.one .bool) κ)
    = f9.b L N (fun a0 => κ (.tv .bool a0)) x0 := by
  rw [f9.b_pre]
  unfold f9.b
  rfl
theorem f9.b'_nat {R R' : Type} (j : R → Option R') (L N : Nat) (k : Bool → Option R) (x0 : (List Int)) :
    f9.b' L N (fun a0 => (k a0).bind j) x0 = (f9.b' L N k x0).bind j := by
  unfold f9.b'
  repeat' (first | (with_reducible refine cond_nat ?_ ?_) | (with_reducible refine bind_nat fun _ => ?_) | rfl)
theorem f9.b_nat {R R' : Type} (j : R → Option R') (L N : Nat) (k : Bool → Option R) (x0 : (List Int)) :
    f9.b L N (fun a0 => (k a0).bind j) x0 = (f9.b L N k x0).bind j := by
  unfold f9.b
  exact f9.b'_nat ..
theorem f9.ok (L N : Nat) (hΦ : TellsOk Try.prog ((Φ33 L N))) : EntOk Try.prog 9 (f9.ent L N) := by
  intro args vw site h
  unfold f9.ent
  split
  · rename_i d ha
    intro y hy hs
    refine call_ro (dep := 1000) (E := (E9 L N)) (rs := (.one .bool)) (v := (.tv .bool y)) (sound_of hΦ) okP (callI_sound (sound_of hΦ) okP 0 1000) (f := Try.f9) rfl hs ha ?_ rfl site
    refine (f9.b_eq L N some d.1).trans ?_
    refine ((f9.b_nat (fun y => (some (.tv .bool y) : Option AV)) L N some d.1)).trans ?_
    rw [show f9.b L N some d.1 = some y from hy]
    rfl
  · intro y hy
    cases hy
def Φ9 (L N : Nat) : Tells := (addT (Φ33 L N) 9 (f9.ent L N))
theorem Φ9_ok (L N : Nat) : TellsOk Try.prog (Φ9 L N) := addT_ok (Φ33_ok L N) (f9.ok L N (Φ33_ok L N))
def f34.b' {R : Type} (L N : Nat) (k : Tree → Option R) (x0 : (List Int)) : Option R :=
  (f44 L N x0).bind fun y0 =>
  (f56 L N y0.1 y0.2 (5 : Int)).bind fun y1 =>
  (f55 L N N y1.2.1 y1.2.2 y1.1).bind fun y2 =>
  k (Tree.mk ((Tree.mk y2.1.op y2.1.n y2.1.parts).op) ((Tree.mk y2.1.op y2.1.n y2.1.parts).n) ((Tree.mk y2.1.op y2.1.n y2.1.parts).parts))
def f34.b {R : Type} (L N : Nat) (k : Tree → Option R) (x0 : (List Int)) : Option R :=
  f34.b' L N k x0
def f34 (L N : Nat) (x0 : (List Int)) : Option (Tree) := f34.b L N some x0
def f34.ent (L N : Nat) (args : List AV) (vw : View) (site : Nat) : Ans := match coeD [(.sl (.int .u8))] vw args with
  | some (d, u) => ⟨Tree, f34 L N d.1, fun y => ((.tv (.st 1) y), u, [])⟩
  | none => Ans.no
noncomputable def E34 (L N : Nat) : Env := { P := Try.prog, ty := tyOf, Φ := (Φ9 L N), inl := fun _ => false, live := lives, liveX := livesX, L := L }
theorem f34.b_pre {R : Type} (L N : Nat) (κ : AV → Option R) (x0 : (List Int)) :
    evBody (E34 L N) (evCallI (E34 L N) 0 1000) 1000 34 Try.f34 [(.tv (.sl (.int .u8)) x0)] [] [] (finC (.one (.st 1)) κ)
    = f34.b' L N (fun a0 => κ (.tv (.st 1) a0)) x0 := by kernel_rfl
theorem f34.b_eq {R : Type} (L N : Nat) (κ : AV → Option R) (x0 : (List Int)) :
    evBody (E34 L N) (evCallI (E34 L N) 0 1000) 1000 34 Try.f34 [(.tv (.sl (.int .u8)) x0)] [] [] (finC (.one (.st 1)) κ)
    = f34.b L N (fun a0 => κ (.tv (.st 1) a0)) x0 := by
  rw [f34.b_pre]
  unfold f34.b
  rfl
theorem f34.b'_nat {R R' : Type} (j : R → Option R') (L N : Nat) (k : Tree → Option R) (x0 : (List Int)) :
    f34.b' L N (fun a0 => (k a0).bind j) x0 = (f34.b' L N k x0).bind j := by
  unfold f34.b'
  repeat' (first | (with_reducible refine cond_nat ?_ ?_) | (with_reducible refine bind_nat fun _ => ?_) | rfl)
theorem f34.b_nat {R R' : Type} (j : R → Option R') (L N : Nat) (k : Tree → Option R) (x0 : (List Int)) :
    f34.b L N (fun a0 => (k a0).bind j) x0 = (f34.b L N k x0).bind j := by
  unfold f34.b
  exact f34.b'_nat ..
theorem f34.ok (L N : Nat) (hΦ : TellsOk Try.prog ((Φ9 L N))) : EntOk Try.prog 34 (f34.ent L N) := by
  intro args vw site h
  unfold f34.ent
  split
  · rename_i d u ha
    intro y hy hs
    refine call_data (dep := 1000) (E := (E34 L N)) (rs := (.one (.st 1))) (v' := (.tv (.st 1) y)) (sound_of hΦ) okP (callI_sound (sound_of hΦ) okP 0 1000) (f := Try.f34) rfl hs ha ?_ site
    refine (f34.b_eq L N some d.1).trans ?_
    refine ((f34.b_nat (fun y => (some (.tv (.st 1) y) : Option AV)) L N some d.1)).trans ?_
    rw [show f34.b L N some d.1 = some y from hy]
    rfl
  · intro y hy
    cases hy
def Φ34 (L N : Nat) : Tells := (addT (Φ9 L N) 34 (f34.ent L N))
theorem Φ34_ok (L N : Nat) : TellsOk Try.prog (Φ34 L N) := addT_ok (Φ9_ok L N) (f34.ok L N (Φ9_ok L N))
def f95.b' {R : Type} (L N : Nat) (k : Int → Option R) (x0 : Int) : Option R :=
  k (wi ((bif decide ((wi (0 - x0)) > x0) then (wi (0 - x0)) else x0) - (1 : Int)))
def f95.b {R : Type} (L N : Nat) (k : Int → Option R) (x0 : Int) : Option R :=
  f95.b' L N k x0
def f95 (L N : Nat) (x0 : Int) : Option (Int) := f95.b L N some x0
def f95.ent (L N : Nat) (args : List AV) (vw : View) (site : Nat) : Ans := match roD [i64] vw args with
  | some d => ⟨Int, f95 L N d.1, fun y => ((.tv i64 y), [], [])⟩
  | none => Ans.no
noncomputable def E95 (L N : Nat) : Env := { P := Try.prog, ty := tyOf, Φ := (Φ34 L N), inl := fun _ => false, live := lives, liveX := livesX, L := L }
theorem f95.b_pre {R : Type} (L N : Nat) (κ : AV → Option R) (x0 : Int) :
    evBody (E95 L N) (evCallI (E95 L N) 0 1000) 1000 95 Try.f95 [(.tv i64 x0)] [] [] (finC (.one i64) κ)
    = f95.b' L N (fun a0 => κ (.tv i64 a0)) x0 := by kernel_rfl
theorem f95.b_eq {R : Type} (L N : Nat) (κ : AV → Option R) (x0 : Int) :
    evBody (E95 L N) (evCallI (E95 L N) 0 1000) 1000 95 Try.f95 [(.tv i64 x0)] [] [] (finC (.one i64) κ)
    = f95.b L N (fun a0 => κ (.tv i64 a0)) x0 := by
  rw [f95.b_pre]
  unfold f95.b
  rfl
theorem f95.b'_nat {R R' : Type} (j : R → Option R') (L N : Nat) (k : Int → Option R) (x0 : Int) :
    f95.b' L N (fun a0 => (k a0).bind j) x0 = (f95.b' L N k x0).bind j := by
  unfold f95.b'
  repeat' (first | (with_reducible refine cond_nat ?_ ?_) | (with_reducible refine bind_nat fun _ => ?_) | rfl)
theorem f95.b_nat {R R' : Type} (j : R → Option R') (L N : Nat) (k : Int → Option R) (x0 : Int) :
    f95.b L N (fun a0 => (k a0).bind j) x0 = (f95.b L N k x0).bind j := by
  unfold f95.b
  exact f95.b'_nat ..
theorem f95.ok (L N : Nat) (hΦ : TellsOk Try.prog ((Φ34 L N))) : EntOk Try.prog 95 (f95.ent L N) := by
  intro args vw site h
  unfold f95.ent
  split
  · rename_i d ha
    intro y hy hs
    refine call_ro (dep := 1000) (E := (E95 L N)) (rs := (.one i64)) (v := (.tv i64 y)) (sound_of hΦ) okP (callI_sound (sound_of hΦ) okP 0 1000) (f := Try.f95) rfl hs ha ?_ rfl site
    refine (f95.b_eq L N some d.1).trans ?_
    refine ((f95.b_nat (fun y => (some (.tv i64 y) : Option AV)) L N some d.1)).trans ?_
    rw [show f95.b L N some d.1 = some y from hy]
    rfl
  · intro y hy
    cases hy
def Φ95 (L N : Nat) : Tells := (addT (Φ34 L N) 95 (f95.ent L N))
theorem Φ95_ok (L N : Nat) : TellsOk Try.prog (Φ95 L N) := addT_ok (Φ34_ok L N) (f95.ok L N (Φ34_ok L N))
def f77.b' {R : Type} (L N : Nat) (k : ByteArray → Option R) (x0 : Int) : Option R :=
  bif (x0 == (0 : Int)) then
    k (ByteArray.mk #[116, 97, 117])
  else bif (decide (x0 < (0 : Int))) then
    (f95 L N x0).bind fun y0 =>
    (f95 L N x0).bind fun y1 =>
    bif (slB y0 (wi (y1 + (1 : Int))) (ByteArray.mk #[97, 98, 99, 100]).size) then
      bif (decide ((ByteArray.mk #[33]).size + ((ByteArray.mk #[97, 98, 99, 100]).extract y0.toNat (wi (y1 + (1 : Int))).toNat).size ≤ 4611686018427387904)) then
        k ((ByteArray.mk #[33]) ++ ((ByteArray.mk #[97, 98, 99, 100]).extract y0.toNat (wi (y1 + (1 : Int))).toNat))
      else none
    else none
  else (f95 L N x0).bind fun y2 =>
  (f95 L N x0).bind fun y3 =>
  bif (slB y2 (wi (y3 + (1 : Int))) (ByteArray.mk #[97, 98, 99, 100]).size) then
    k ((ByteArray.mk #[97, 98, 99, 100]).extract y2.toNat (wi (y3 + (1 : Int))).toNat)
  else none
def f77.b {R : Type} (L N : Nat) (k : ByteArray → Option R) (x0 : Int) : Option R :=
  f77.b' L N k x0
def f77 (L N : Nat) (x0 : Int) : Option (ByteArray) := f77.b L N some x0
def f77.ent (L N : Nat) (args : List AV) (vw : View) (site : Nat) : Ans := match roD [i64] vw args with
  | some d => ⟨ByteArray, f77 L N d.1, fun y => ((.tv .str y), [], [])⟩
  | none => Ans.no
noncomputable def E77 (L N : Nat) : Env := { P := Try.prog, ty := tyOf, Φ := (Φ95 L N), inl := fun _ => false, live := lives, liveX := livesX, L := L }
theorem f77.b_pre {R : Type} (L N : Nat) (κ : AV → Option R) (x0 : Int) :
    evBody (E77 L N) (evCallI (E77 L N) 0 1000) 1000 77 Try.f77 [(.tv i64 x0)] [] [] (finC (.one .str) κ)
    = f77.b' L N (fun a0 => κ (.tv .str a0)) x0 := by kernel_rfl
theorem f77.b_eq {R : Type} (L N : Nat) (κ : AV → Option R) (x0 : Int) :
    evBody (E77 L N) (evCallI (E77 L N) 0 1000) 1000 77 Try.f77 [(.tv i64 x0)] [] [] (finC (.one .str) κ)
    = f77.b L N (fun a0 => κ (.tv .str a0)) x0 := by
  rw [f77.b_pre]
  unfold f77.b
  rfl
theorem f77.b'_nat {R R' : Type} (j : R → Option R') (L N : Nat) (k : ByteArray → Option R) (x0 : Int) :
    f77.b' L N (fun a0 => (k a0).bind j) x0 = (f77.b' L N k x0).bind j := by
  unfold f77.b'
  repeat' (first | (with_reducible refine cond_nat ?_ ?_) | (with_reducible refine bind_nat fun _ => ?_) | rfl)
theorem f77.b_nat {R R' : Type} (j : R → Option R') (L N : Nat) (k : ByteArray → Option R) (x0 : Int) :
    f77.b L N (fun a0 => (k a0).bind j) x0 = (f77.b L N k x0).bind j := by
  unfold f77.b
  exact f77.b'_nat ..
theorem f77.ok (L N : Nat) (hΦ : TellsOk Try.prog ((Φ95 L N))) : EntOk Try.prog 77 (f77.ent L N) := by
  intro args vw site h
  unfold f77.ent
  split
  · rename_i d ha
    intro y hy hs
    refine call_ro (dep := 1000) (E := (E77 L N)) (rs := (.one .str)) (v := (.tv .str y)) (sound_of hΦ) okP (callI_sound (sound_of hΦ) okP 0 1000) (f := Try.f77) rfl hs ha ?_ rfl site
    refine (f77.b_eq L N some d.1).trans ?_
    refine ((f77.b_nat (fun y => (some (.tv .str y) : Option AV)) L N some d.1)).trans ?_
    rw [show f77.b L N some d.1 = some y from hy]
    rfl
  · intro y hy
    cases hy
def Φ77 (L N : Nat) : Tells := (addT (Φ95 L N) 77 (f77.ent L N))
theorem Φ77_ok (L N : Nat) : TellsOk Try.prog (Φ77 L N) := addT_ok (Φ95_ok L N) (f77.ok L N (Φ95_ok L N))
def f60.b' {R : Type} (L N : Nat) (self60 : Tree → Option (ByteArray)) (k : ByteArray → Option R) (x0 : Tree) : Option R :=
  bif (x0.op == (0 : Int)) then
    k (ByteArray.mk #[84])
  else bif (x0.op == (1 : Int)) then
    bif (decide (0 ≤ (0 : Int)) && decide ((0 : Int) < (x0.parts.length : Int))) then
      (self60 (listAt x0.parts (Ty.dflt (.st 1)) (0 : Int).toNat)).bind fun y0 =>
      bif (decide ((ByteArray.mk #[40, 110, 111, 116, 32]).size + y0.size ≤ 4611686018427387904)) then
        bif (decide (((ByteArray.mk #[40, 110, 111, 116, 32]) ++ y0).size + (ByteArray.mk #[41]).size ≤ 4611686018427387904)) then
          k (((ByteArray.mk #[40, 110, 111, 116, 32]) ++ y0) ++ (ByteArray.mk #[41]))
        else none
      else none
    else none
  else bif (x0.op == (2 : Int)) then
    bif (decide (0 ≤ (0 : Int)) && decide ((0 : Int) < (x0.parts.length : Int))) then
      (self60 (listAt x0.parts (Ty.dflt (.st 1)) (0 : Int).toNat)).bind fun y1 =>
      bif (decide ((ByteArray.mk #[40, 97, 110, 100, 32]).size + y1.size ≤ 4611686018427387904)) then
        bif (decide (((ByteArray.mk #[40, 97, 110, 100, 32]) ++ y1).size + (ByteArray.mk #[32]).size ≤ 4611686018427387904)) then
          bif (decide (0 ≤ (1 : Int)) && decide ((1 : Int) < (x0.parts.length : Int))) then
            (self60 (listAt x0.parts (Ty.dflt (.st 1)) (1 : Int).toNat)).bind fun y2 =>
            bif (decide ((((ByteArray.mk #[40, 97, 110, 100, 32]) ++ y1) ++ (ByteArray.mk #[32])).size + y2.size ≤ 4611686018427387904)) then
              bif (decide (((((ByteArray.mk #[40, 97, 110, 100, 32]) ++ y1) ++ (ByteArray.mk #[32])) ++ y2).size + (ByteArray.mk #[41]).size ≤ 4611686018427387904)) then
                k (((((ByteArray.mk #[40, 97, 110, 100, 32]) ++ y1) ++ (ByteArray.mk #[32])) ++ y2) ++ (ByteArray.mk #[41]))
              else none
            else none
          else none
        else none
      else none
    else none
  else (f77 L N x0.n).bind fun y3 =>
  bif (decide ((ByteArray.mk #[40, 109, 97, 121, 32]).size + y3.size ≤ 4611686018427387904)) then
    bif (decide (((ByteArray.mk #[40, 109, 97, 121, 32]) ++ y3).size + (ByteArray.mk #[32]).size ≤ 4611686018427387904)) then
      bif (decide (0 ≤ (0 : Int)) && decide ((0 : Int) < (x0.parts.length : Int))) then
        (self60 (listAt x0.parts (Ty.dflt (.st 1)) (0 : Int).toNat)).bind fun y4 =>
        bif (decide ((((ByteArray.mk #[40, 109, 97, 121, 32]) ++ y3) ++ (ByteArray.mk #[32])).size + y4.size ≤ 4611686018427387904)) then
          bif (decide (((((ByteArray.mk #[40, 109, 97, 121, 32]) ++ y3) ++ (ByteArray.mk #[32])) ++ y4).size + (ByteArray.mk #[41]).size ≤ 4611686018427387904)) then
            k (((((ByteArray.mk #[40, 109, 97, 121, 32]) ++ y3) ++ (ByteArray.mk #[32])) ++ y4) ++ (ByteArray.mk #[41]))
          else none
        else none
      else none
    else none
  else none
def f60.b {R : Type} (L N : Nat) (self60 : Tree → Option (ByteArray)) (k : ByteArray → Option R) (x0 : Tree) : Option R :=
  f60.b' L N self60 k x0
def f60 (L N : Nat) : Nat → Tree → Option (ByteArray)
  | 0, _ => none
  | n + 1, x0 => f60.b L N (f60 L N n) some x0
def f60.ent (L N m : Nat) (args : List AV) (vw : View) (site : Nat) : Ans := match roD [(.st 1)] vw args with
  | some d => ⟨ByteArray, f60 L N m d.1, fun y => ((.tv .str y), [], [])⟩
  | none => Ans.no
def Φ60s (L N m : Nat) : Tells := (addT (Φ77 L N) 60 (f60.ent L N m))
noncomputable def E60 (L N m : Nat) : Env := { P := Try.prog, ty := tyOf, Φ := Φ60s L N m, inl := fun _ => false, live := lives, liveX := livesX, L := L }
theorem f60.b_pre {R : Type} (L N m : Nat) (κ : AV → Option R) (x0 : Tree) :
    evBody (E60 L N m) (evCallI (E60 L N m) 0 1000) 1000 60 Try.f60 [(.tv (.st 1) x0)] [] [] (finC (.one .str) κ)
    = f60.b' L N (f60 L N m) (fun a0 => κ (.tv .str a0)) x0 := by kernel_rfl
theorem f60.b_eq {R : Type} (L N m : Nat) (κ : AV → Option R) (x0 : Tree) :
    evBody (E60 L N m) (evCallI (E60 L N m) 0 1000) 1000 60 Try.f60 [(.tv (.st 1) x0)] [] [] (finC (.one .str) κ)
    = f60.b L N (f60 L N m) (fun a0 => κ (.tv .str a0)) x0 := by
  rw [f60.b_pre]
  unfold f60.b
  rfl
theorem f60.b'_nat {R R' : Type} (j : R → Option R') (L N : Nat) (self60 : Tree → Option (ByteArray)) (k : ByteArray → Option R) (x0 : Tree) :
    f60.b' L N self60 (fun a0 => (k a0).bind j) x0 = (f60.b' L N self60 k x0).bind j := by
  unfold f60.b'
  repeat' (first | (with_reducible refine cond_nat ?_ ?_) | (with_reducible refine bind_nat fun _ => ?_) | rfl)
theorem f60.b_nat {R R' : Type} (j : R → Option R') (L N : Nat) (self60 : Tree → Option (ByteArray)) (k : ByteArray → Option R) (x0 : Tree) :
    f60.b L N self60 (fun a0 => (k a0).bind j) x0 = (f60.b L N self60 k x0).bind j := by
  unfold f60.b
  exact f60.b'_nat ..
theorem f60.ok (L N m : Nat) (hΦ : TellsOk Try.prog (Φ60s L N m)) : EntOk Try.prog 60 (f60.ent L N (m + 1)) := by
  intro args vw site h
  unfold f60.ent
  split
  · rename_i d ha
    intro y hy hs
    refine call_ro (dep := 1000) (E := (E60 L N m)) (rs := (.one .str)) (v := (.tv .str y)) (sound_of hΦ) okP (callI_sound (sound_of hΦ) okP 0 1000) (f := Try.f60) rfl hs ha ?_ rfl site
    refine (f60.b_eq L N m some d.1).trans ?_
    refine ((f60.b_nat (fun y => (some (.tv .str y) : Option AV)) L N (f60 L N m) some d.1)).trans ?_
    rw [show f60.b L N (f60 L N m) some d.1 = some y from hy]
    rfl
  · intro y hy
    cases hy
theorem Φ60s_ok (L N : Nat) : ∀ m, TellsOk Try.prog (Φ60s L N m) := by
  intro m
  induction m with
  | zero => exact (addT_ok (Φ77_ok L N) (fun args vw site h => by unfold f60.ent; split <;> (intro y hy; cases hy)))
  | succ m ih => exact (addT_ok (Φ77_ok L N) (f60.ok L N m ih))
def Φ60 (L N : Nat) : Tells := (addT (Φ77 L N) 60 (f60.ent L N N))
theorem Φ60_ok (L N : Nat) : TellsOk Try.prog (Φ60 L N) := Φ60s_ok L N N
def f35.b' {R : Type} (L N : Nat) (k : ByteArray → Option R) (x0 : Tree) : Option R :=
  (f25 L N (Tree.mk x0.op x0.n x0.parts)).bind fun y0 =>
  bif (!y0) then
    k (ByteArray.mk #[])
  else (f60 L N N (Tree.mk x0.op x0.n x0.parts)).bind fun y1 =>
  k y1
def f35.b {R : Type} (L N : Nat) (k : ByteArray → Option R) (x0 : Tree) : Option R :=
  f35.b' L N k x0
def f35 (L N : Nat) (x0 : Tree) : Option (ByteArray) := f35.b L N some x0
def f35.ent (L N : Nat) (args : List AV) (vw : View) (site : Nat) : Ans := match roD [(.st 1)] vw args with
  | some d => ⟨ByteArray, f35 L N d.1, fun y => ((.tv .str y), [], [])⟩
  | none => Ans.no
noncomputable def E35 (L N : Nat) : Env := { P := Try.prog, ty := tyOf, Φ := (Φ60 L N), inl := fun _ => false, live := lives, liveX := livesX, L := L }
theorem f35.b_pre {R : Type} (L N : Nat) (κ : AV → Option R) (x0 : Tree) :
    evBody (E35 L N) (evCallI (E35 L N) 0 1000) 1000 35 Try.f35 [(.tv (.st 1) x0)] [] [] (finC (.one .str) κ)
    = f35.b' L N (fun a0 => κ (.tv .str a0)) x0 := by kernel_rfl
theorem f35.b_eq {R : Type} (L N : Nat) (κ : AV → Option R) (x0 : Tree) :
    evBody (E35 L N) (evCallI (E35 L N) 0 1000) 1000 35 Try.f35 [(.tv (.st 1) x0)] [] [] (finC (.one .str) κ)
    = f35.b L N (fun a0 => κ (.tv .str a0)) x0 := by
  rw [f35.b_pre]
  unfold f35.b
  rfl
theorem f35.b'_nat {R R' : Type} (j : R → Option R') (L N : Nat) (k : ByteArray → Option R) (x0 : Tree) :
    f35.b' L N (fun a0 => (k a0).bind j) x0 = (f35.b' L N k x0).bind j := by
  unfold f35.b'
  repeat' (first | (with_reducible refine cond_nat ?_ ?_) | (with_reducible refine bind_nat fun _ => ?_) | rfl)
theorem f35.b_nat {R R' : Type} (j : R → Option R') (L N : Nat) (k : ByteArray → Option R) (x0 : Tree) :
    f35.b L N (fun a0 => (k a0).bind j) x0 = (f35.b L N k x0).bind j := by
  unfold f35.b
  exact f35.b'_nat ..
theorem f35.ok (L N : Nat) (hΦ : TellsOk Try.prog ((Φ60 L N))) : EntOk Try.prog 35 (f35.ent L N) := by
  intro args vw site h
  unfold f35.ent
  split
  · rename_i d ha
    intro y hy hs
    refine call_ro (dep := 1000) (E := (E35 L N)) (rs := (.one .str)) (v := (.tv .str y)) (sound_of hΦ) okP (callI_sound (sound_of hΦ) okP 0 1000) (f := Try.f35) rfl hs ha ?_ rfl site
    refine (f35.b_eq L N some d.1).trans ?_
    refine ((f35.b_nat (fun y => (some (.tv .str y) : Option AV)) L N some d.1)).trans ?_
    rw [show f35.b L N some d.1 = some y from hy]
    rfl
  · intro y hy
    cases hy
def Φ35 (L N : Nat) : Tells := (addT (Φ60 L N) 35 (f35.ent L N))
theorem Φ35_ok (L N : Nat) : TellsOk Try.prog (Φ35 L N) := addT_ok (Φ60_ok L N) (f35.ok L N (Φ60_ok L N))
def f10.b' {R : Type} (L N : Nat) (k : Bool → Option R) (x0 : (List Int)) : Option R :=
  bif (decide ((x0.length : Int) > (1048576 : Int))) then
    k true
  else (f34 L N x0).bind fun y0 =>
  (f33 L N (Tree.mk y0.op y0.n y0.parts)).bind fun y1 =>
  (f35 L N (Tree.mk y0.op y0.n y0.parts)).bind fun y2 =>
  bif (!(y1.toList == y2.toList)) then
    k false
  else (f27 L N (Tree.mk (2 : Int) (0 : Int) ([(Tree.mk y0.op y0.n y0.parts), (Tree.mk y0.op y0.n y0.parts)] : (List Tree)))).bind fun y3 =>
  bif (!y3) then
    k true
  else (f33 L N (Tree.mk (2 : Int) (0 : Int) ([(Tree.mk y0.op y0.n y0.parts), (Tree.mk y0.op y0.n y0.parts)] : (List Tree)))).bind fun y4 =>
  bif (decide ((ByteArray.mk #[40, 97, 110, 100, 32]).size + y1.size ≤ 4611686018427387904)) then
    bif (decide (((ByteArray.mk #[40, 97, 110, 100, 32]) ++ y1).size + (ByteArray.mk #[32]).size ≤ 4611686018427387904)) then
      bif (decide ((((ByteArray.mk #[40, 97, 110, 100, 32]) ++ y1) ++ (ByteArray.mk #[32])).size + y1.size ≤ 4611686018427387904)) then
        bif (decide (((((ByteArray.mk #[40, 97, 110, 100, 32]) ++ y1) ++ (ByteArray.mk #[32])) ++ y1).size + (ByteArray.mk #[41]).size ≤ 4611686018427387904)) then
          k (y4.toList == (((((ByteArray.mk #[40, 97, 110, 100, 32]) ++ y1) ++ (ByteArray.mk #[32])) ++ y1) ++ (ByteArray.mk #[41])).toList)
        else none
      else none
    else none
  else none
def f10.b {R : Type} (L N : Nat) (k : Bool → Option R) (x0 : (List Int)) : Option R :=
  f10.b' L N k x0
def f10 (L N : Nat) (x0 : (List Int)) : Option (Bool) := f10.b L N some x0
def f10.ent (L N : Nat) (args : List AV) (vw : View) (site : Nat) : Ans := match roD [(.sl (.int .u8))] vw args with
  | some d => ⟨Bool, f10 L N d.1, fun y => ((.tv .bool y), [], [])⟩
  | none => Ans.no
noncomputable def E10 (L N : Nat) : Env := { P := Try.prog, ty := tyOf, Φ := (Φ35 L N), inl := fun _ => false, live := lives, liveX := livesX, L := L }
theorem f10.b_pre {R : Type} (L N : Nat) (κ : AV → Option R) (x0 : (List Int)) :
    evBody (E10 L N) (evCallI (E10 L N) 0 1000) 1000 10 Try.f10 [(.tv (.sl (.int .u8)) x0)] [] [] (finC (.one .bool) κ)
    = f10.b' L N (fun a0 => κ (.tv .bool a0)) x0 := by kernel_rfl
theorem f10.b_eq {R : Type} (L N : Nat) (κ : AV → Option R) (x0 : (List Int)) :
    evBody (E10 L N) (evCallI (E10 L N) 0 1000) 1000 10 Try.f10 [(.tv (.sl (.int .u8)) x0)] [] [] (finC (.one .bool) κ)
    = f10.b L N (fun a0 => κ (.tv .bool a0)) x0 := by
  rw [f10.b_pre]
  unfold f10.b
  rfl
theorem f10.b'_nat {R R' : Type} (j : R → Option R') (L N : Nat) (k : Bool → Option R) (x0 : (List Int)) :
    f10.b' L N (fun a0 => (k a0).bind j) x0 = (f10.b' L N k x0).bind j := by
  unfold f10.b'
  repeat' (first | (with_reducible refine cond_nat ?_ ?_) | (with_reducible refine bind_nat fun _ => ?_) | rfl)
theorem f10.b_nat {R R' : Type} (j : R → Option R') (L N : Nat) (k : Bool → Option R) (x0 : (List Int)) :
    f10.b L N (fun a0 => (k a0).bind j) x0 = (f10.b L N k x0).bind j := by
  unfold f10.b
  exact f10.b'_nat ..
theorem f10.ok (L N : Nat) (hΦ : TellsOk Try.prog ((Φ35 L N))) : EntOk Try.prog 10 (f10.ent L N) := by
  intro args vw site h
  unfold f10.ent
  split
  · rename_i d ha
    intro y hy hs
    refine call_ro (dep := 1000) (E := (E10 L N)) (rs := (.one .bool)) (v := (.tv .bool y)) (sound_of hΦ) okP (callI_sound (sound_of hΦ) okP 0 1000) (f := Try.f10) rfl hs ha ?_ rfl site
    refine (f10.b_eq L N some d.1).trans ?_
    refine ((f10.b_nat (fun y => (some (.tv .bool y) : Option AV)) L N some d.1)).trans ?_
    rw [show f10.b L N some d.1 = some y from hy]
    rfl
  · intro y hy
    cases hy
def Φ10 (L N : Nat) : Tells := (addT (Φ35 L N) 10 (f10.ent L N))
theorem Φ10_ok (L N : Nat) : TellsOk Try.prog (Φ10 L N) := addT_ok (Φ35_ok L N) (f10.ok L N (Φ35_ok L N))
def f11.b' {R : Type} (L N : Nat) (k : Bool → Option R) (x0 : Tree) : Option R :=
  (f24 L N N (Tree.mk x0.op x0.n x0.parts) (1048576 : Int)).bind fun y0 =>
  bif (decide (y0 < (0 : Int))) then
    k true
  else (f26 L N N (Tree.mk x0.op x0.n x0.parts)).bind fun y1 =>
  (f35 L N y1).bind fun y2 =>
  (f26 L N N (Tree.mk x0.op x0.n x0.parts)).bind fun y3 =>
  (f33 L N (Tree.mk y3.op y3.n y3.parts)).bind fun y4 =>
  bif (!(y4.toList == y2.toList)) then
    k false
  else (f26 L N N (Tree.mk x0.op x0.n x0.parts)).bind fun y5 =>
  (f28 L N N (Tree.mk y3.op y3.n y3.parts) y5).bind fun y6 =>
  bif (!y6) then
    k false
  else k true
def f11.b {R : Type} (L N : Nat) (k : Bool → Option R) (x0 : Tree) : Option R :=
  f11.b' L N k x0
def f11 (L N : Nat) (x0 : Tree) : Option (Bool) := f11.b L N some x0
def f11.ent (L N : Nat) (args : List AV) (vw : View) (site : Nat) : Ans := match roD [(.st 1)] vw args with
  | some d => ⟨Bool, f11 L N d.1, fun y => ((.tv .bool y), [], [])⟩
  | none => Ans.no
noncomputable def E11 (L N : Nat) : Env := { P := Try.prog, ty := tyOf, Φ := (Φ10 L N), inl := fun _ => false, live := lives, liveX := livesX, L := L }
theorem f11.b_pre {R : Type} (L N : Nat) (κ : AV → Option R) (x0 : Tree) :
    evBody (E11 L N) (evCallI (E11 L N) 0 1000) 1000 11 Try.f11 [(.tv (.st 1) x0)] [] [] (finC (.one .bool) κ)
    = f11.b' L N (fun a0 => κ (.tv .bool a0)) x0 := by kernel_rfl
theorem f11.b_eq {R : Type} (L N : Nat) (κ : AV → Option R) (x0 : Tree) :
    evBody (E11 L N) (evCallI (E11 L N) 0 1000) 1000 11 Try.f11 [(.tv (.st 1) x0)] [] [] (finC (.one .bool) κ)
    = f11.b L N (fun a0 => κ (.tv .bool a0)) x0 := by
  rw [f11.b_pre]
  unfold f11.b
  rfl
theorem f11.b'_nat {R R' : Type} (j : R → Option R') (L N : Nat) (k : Bool → Option R) (x0 : Tree) :
    f11.b' L N (fun a0 => (k a0).bind j) x0 = (f11.b' L N k x0).bind j := by
  unfold f11.b'
  repeat' (first | (with_reducible refine cond_nat ?_ ?_) | (with_reducible refine bind_nat fun _ => ?_) | rfl)
theorem f11.b_nat {R R' : Type} (j : R → Option R') (L N : Nat) (k : Bool → Option R) (x0 : Tree) :
    f11.b L N (fun a0 => (k a0).bind j) x0 = (f11.b L N k x0).bind j := by
  unfold f11.b
  exact f11.b'_nat ..
theorem f11.ok (L N : Nat) (hΦ : TellsOk Try.prog ((Φ10 L N))) : EntOk Try.prog 11 (f11.ent L N) := by
  intro args vw site h
  unfold f11.ent
  split
  · rename_i d ha
    intro y hy hs
    refine call_ro (dep := 1000) (E := (E11 L N)) (rs := (.one .bool)) (v := (.tv .bool y)) (sound_of hΦ) okP (callI_sound (sound_of hΦ) okP 0 1000) (f := Try.f11) rfl hs ha ?_ rfl site
    refine (f11.b_eq L N some d.1).trans ?_
    refine ((f11.b_nat (fun y => (some (.tv .bool y) : Option AV)) L N some d.1)).trans ?_
    rw [show f11.b L N some d.1 = some y from hy]
    rfl
  · intro y hy
    cases hy
def Φ11 (L N : Nat) : Tells := (addT (Φ10 L N) 11 (f11.ent L N))
theorem Φ11_ok (L N : Nat) : TellsOk Try.prog (Φ11 L N) := addT_ok (Φ10_ok L N) (f11.ok L N (Φ10_ok L N))
end Go.Proofs.Ythkonljgjjlloaa.Ev
