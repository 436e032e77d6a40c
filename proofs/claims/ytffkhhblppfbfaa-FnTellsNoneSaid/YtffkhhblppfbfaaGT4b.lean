/- The seat's functions as plain functions, continued: made by program (wip/gen/gen.py). -/
import Derived.Test.YtffkhhblppfbfaaGT4a
namespace Go.Proofs.Ytffkhhblppfbfaa.Ev
open Go
set_option linter.unusedVariables false
set_option maxRecDepth 20000
def f77.b' {R : Type} (L N : Nat) (k : Tree → LI → Int → Option R) (c0 : LI) (c1 : Int) (x0 : Int) : Option R :=
  (f62 L N c0 c1 (4 : Int)).bind fun y0 =>
  (f86 L N N y0.2.1 y0.2.2 (wi ((1 : Int) + y0.1)) x0 false).bind fun y1 =>
  (f62 L N y1.2.1 y1.2.2 (24 : Int)).bind fun y2 =>
  bif (y2.1 == (0 : Int)) then
    k (Tree.mk ((Tree.mk y1.1.op (wi (y1.1.n + (7 : Int))) y1.1.parts).op) ((Tree.mk y1.1.op (wi (y1.1.n + (7 : Int))) y1.1.parts).n) ((Tree.mk y1.1.op (wi (y1.1.n + (7 : Int))) y1.1.parts).parts)) y2.2.1 y2.2.2
  else bif (y2.1 == (1 : Int)) then
    (f62 L N y2.2.1 y2.2.2 (8 : Int)).bind fun y3 =>
    k (Tree.mk ((Tree.mk y3.1 y1.1.n y1.1.parts).op) ((Tree.mk y3.1 y1.1.n y1.1.parts).n) ((Tree.mk y3.1 y1.1.n y1.1.parts).parts)) y3.2.1 y3.2.2
  else bif (y2.1 == (2 : Int)) then
    bif (decide (([(Tree.mk (0 : Int) (0 : Int) [])] : LT).length + y1.1.parts.length ≤ lim)) then
      k (Tree.mk y1.1.op y1.1.n (([(Tree.mk (0 : Int) (0 : Int) [])] : LT) ++ y1.1.parts)) y2.2.1 y2.2.2
    else none
  else k (Tree.mk ((Tree.mk y1.1.op y1.1.n y1.1.parts).op) ((Tree.mk y1.1.op y1.1.n y1.1.parts).n) ((Tree.mk y1.1.op y1.1.n y1.1.parts).parts)) y2.2.1 y2.2.2
def f77.b {R : Type} (L N : Nat) (k : Tree → LI → Int → Option R) (c0 : LI) (c1 : Int) (x0 : Int) : Option R :=
  f77.b' L N k c0 c1 x0
def f77 (L N : Nat) (c0 : LI) (c1 : Int) (x0 : Int) : Option (Tree × LI × Int) := f77.b L N (fun a0 a1 a2 => some (a0, a1, a2)) c0 c1 x0
def f77.ent (L N : Nat) (args : List AV) (vw : View) (site : Nat) : Ans := match boxD [(.sl (.int .u8)), i64] [i64] vw args with
  | some (o, d0, d, u) => ⟨Tree × LI × Int, f77 L N d0.1 d0.2.1 d.1, fun y => ((.tv (.st 1) y.1), u ++ [(o, some (.box [(.tv (.sl (.int .u8)) y.2.1), (.tv i64 y.2.2)]))], [])⟩
  | none => Ans.no
noncomputable def E77 (L N : Nat) : Env := { P := Try.prog, ty := tyOf, Φ := (Φ76 L N), inl := inlT, live := lives, liveX := livesX, L := L, dp := none, prom := promT, heal := healT, ren := renT }
theorem f77.b_eq {R : Type} (L N : Nat) (κ : AV → Dens [(.sl (.int .u8)), i64] → Option R) (c0 : LI) (c1 : Int) (x0 : Int) :
    evBody (E77 L N) (evCallI (E77 L N) 1 2000) 1000 77 Try.f77 [(.ptr 0 0), (.tv i64 x0)] [.ptr 0 0] [(0, (.box [(.tv (.sl (.int .u8)) c0), (.tv i64 c1)]))] (finM (.one (.st 1)) [(.sl (.int .u8)), i64] κ)
    = f77.b L N (fun a0 a1 a2 => κ (.tv (.st 1) a0) (a1, a2, ())) c0 c1 x0 := by kernel_rfl
theorem f77.ok (L N : Nat) (hΦ : TellsOk Try.prog ((Φ76 L N))) : EntOk Try.prog 77 (f77.ent L N) := by
  intro args vw site h
  unfold f77.ent
  split
  · rename_i o d0 d u ha
    intro y hy hs
    obtain ⟨rest, cs, rfl, ho, hd0, hr, hu⟩ := boxD_some ha
    refine call_box (y := y) (dep := 1000) (v' := (.tv (.st 1) y.1)) (d1 := (y.2.1, y.2.2, ())) (E := (E77 L N)) (ts := [(.sl (.int .u8)), i64]) (tr := [i64]) (rs := (.one (.st 1))) (κ := (fun v d => (unR (.one (.st 1)) v).bind fun x => some (x, d.1, d.2.1))) (sound_of hΦ) okP (callI_sound (sound_of hΦ) okP 1 2000) (f := Try.f77) rfl hs ho hd0 hr hu ?_ (fun _ _ h => by obtain ⟨x, h1, h2⟩ := unR_bind h; obtain rfl := Option.some.inj h2; exact ⟨h1, rfl⟩) site
    exact (f77.b_eq L N (fun v d => (unR (.one (.st 1)) v).bind fun x => some (x, d.1, d.2.1)) d0.1 d0.2.1 d.1).trans (Eq.trans (b := f77.b L N (fun a0 a1 a2 => some (a0, a1, a2)) d0.1 d0.2.1 d.1) (by kernel_rfl) hy)
  · intro y hy
    cases hy
def Φ77 (L N : Nat) : Tells := (addT (Φ76 L N) 77 (f77.ent L N))
theorem Φ77_ok (L N : Nat) : TellsOk Try.prog (Φ77 L N) := addT_ok (Φ76_ok L N) (f77.ok L N (Φ76_ok L N))
def f63.j0' {R : Type} (L N : Nat) (k : Tree → LT → LI → Int → Option R) (v3 : LT) (v4 : Bool) (v5 : LI) (v6 : Int) (v7 : Int) (v8 : Int) (v9 : Int) (v10 : Int) (v11 : LT) : Option R :=
  bif v4 then
    (f62 L N v5 v6 (v3.length : Int)).bind fun y12 =>
    k (Tree.mk (5 : Int) y12.1 []) v3 y12.2.1 y12.2.2
  else k (Tree.mk ((Tree.mk v9 v10 v11).op) ((Tree.mk v9 v10 v11).n) ((Tree.mk v9 v10 v11).parts)) v3 v5 v6
def f63.b' {R : Type} (L N : Nat) (k : Tree → LT → LI → Int → Option R) (c0 : LI) (c1 : Int) : Option R :=
  (f76 L N c0 c1).bind fun y0 =>
  (f77 L N y0.2.1 y0.2.2 (y0.1.length : Int)).bind fun y1 =>
  bif (decide ((y0.1.length : Int) > (0 : Int))) then
    (f62 L N y1.2.1 y1.2.2 (3 : Int)).bind fun y2 =>
    f63.j0' L N k y0.1 (y2.1 == (0 : Int)) y2.2.1 y2.2.2 (0 : Int) (0 : Int) y1.1.op y1.1.n y1.1.parts
  else f63.j0' L N k y0.1 false y1.2.1 y1.2.2 (0 : Int) (0 : Int) y1.1.op y1.1.n y1.1.parts
def f63.b {R : Type} (L N : Nat) (k : Tree → LT → LI → Int → Option R) (c0 : LI) (c1 : Int) : Option R :=
  f63.b' L N k c0 c1
def f63 (L N : Nat) (c0 : LI) (c1 : Int) : Option (Tree × LT × LI × Int) := f63.b L N (fun a0 a1 a2 a3 => some (a0, a1, a2, a3)) c0 c1
def f63.ent (L N : Nat) (args : List AV) (vw : View) (site : Nat) : Ans := match boxD [(.sl (.int .u8)), i64] [] vw args with
  | some (o, d0, d, u) => ⟨Tree × LT × LI × Int, f63 L N d0.1 d0.2.1, fun y => ((.tup [(.tv (.st 1) y.1), (.tv (.sl (.st 1)) y.2.1)]), u ++ [(o, some (.box [(.tv (.sl (.int .u8)) y.2.2.1), (.tv i64 y.2.2.2)]))], [])⟩
  | none => Ans.no
noncomputable def E63 (L N : Nat) : Env := { P := Try.prog, ty := tyOf, Φ := (Φ77 L N), inl := inlT, live := lives, liveX := livesX, L := L, dp := none, prom := promT, heal := healT, ren := renT }
theorem f63.b_eq {R : Type} (L N : Nat) (κ : AV → Dens [(.sl (.int .u8)), i64] → Option R) (c0 : LI) (c1 : Int) :
    evBody (E63 L N) (evCallI (E63 L N) 1 2000) 1000 63 Try.f63 [(.ptr 0 0)] [.ptr 0 0] [(0, (.box [(.tv (.sl (.int .u8)) c0), (.tv i64 c1)]))] (finM (.many [(.st 1), (.sl (.st 1))]) [(.sl (.int .u8)), i64] κ)
    = f63.b L N (fun a0 a1 a2 a3 => κ (.tup [(.tv (.st 1) a0), (.tv (.sl (.st 1)) a1)]) (a2, a3, ())) c0 c1 := by kernel_rfl
theorem f63.ok (L N : Nat) (hΦ : TellsOk Try.prog ((Φ77 L N))) : EntOk Try.prog 63 (f63.ent L N) := by
  intro args vw site h
  unfold f63.ent
  split
  · rename_i o d0 d u ha
    intro y hy hs
    obtain ⟨rest, cs, rfl, ho, hd0, hr, hu⟩ := boxD_some ha
    refine call_box (y := y) (dep := 1000) (v' := (.tup [(.tv (.st 1) y.1), (.tv (.sl (.st 1)) y.2.1)])) (d1 := (y.2.2.1, y.2.2.2, ())) (E := (E63 L N)) (ts := [(.sl (.int .u8)), i64]) (tr := []) (rs := (.many [(.st 1), (.sl (.st 1))])) (κ := (fun v d => (unR (.many [(.st 1), (.sl (.st 1))]) v).bind fun x => some (x.1, x.2, d.1, d.2.1))) (sound_of hΦ) okP (callI_sound (sound_of hΦ) okP 1 2000) (f := Try.f63) rfl hs ho hd0 hr hu ?_ (fun _ _ h => by obtain ⟨x, h1, h2⟩ := unR_bind h; obtain rfl := Option.some.inj h2; exact ⟨h1, rfl⟩) site
    exact (f63.b_eq L N (fun v d => (unR (.many [(.st 1), (.sl (.st 1))]) v).bind fun x => some (x.1, x.2, d.1, d.2.1)) d0.1 d0.2.1).trans (Eq.trans (b := f63.b L N (fun a0 a1 a2 a3 => some (a0, a1, a2, a3)) d0.1 d0.2.1) (by kernel_rfl) hy)
  · intro y hy
    cases hy
def Φ63 (L N : Nat) : Tells := (addT (Φ77 L N) 63 (f63.ent L N))
theorem Φ63_ok (L N : Nat) : TellsOk Try.prog (Φ63 L N) := addT_ok (Φ77_ok L N) (f63.ok L N (Φ77_ok L N))
def f102.j0' {R : Type} (L N : Nat) (self102 : Tree → Bool → Option (Int)) (k0_e0 : Int → Option R) (rec0 : Bool → Int → Int → Int → Int → LT → Option R) (v14 : Bool) (v15 : Int) (v16 : Int) (v17 : Int) (v18 : Int) (v19 : LT) : Option R :=
  bif (decide (0 ≤ v16) && decide (v16 < (v19.length : Int))) then
    (self102 (listAt v19 (Ty.dflt (.st 1)) v16.toNat) v14).bind fun y20 =>
    rec0 v14 (bif decide (y20 > v15) then y20 else v15) (wi (v16 + (1 : Int))) v17 v18 v19
  else none
def f102.s0' {R : Type} (L N : Nat) (self102 : Tree → Bool → Option (Int)) (k0_e0 : Int → Option R) (rec0 : Bool → Int → Int → Int → Int → LT → Option R) (s0 : Bool) (s1 : Int) (s2 : Int) (s3 : Int) (s4 : Int) (s5 : LT) : Option R :=
  bif (decide (s2 < (s5.length : Int))) then
    bif s0 then
      bif (!(s3 == (1 : Int))) then
        f102.j0' L N self102 k0_e0 rec0 s0 s1 s2 s3 s4 s5
      else k0_e0 s1
    else bif (!false) then
      f102.j0' L N self102 k0_e0 rec0 s0 s1 s2 s3 s4 s5
    else k0_e0 s1
  else k0_e0 s1
def f102.s0 {R : Type} (L N : Nat) (self102 : Tree → Bool → Option (Int)) (k0_e0 : Int → Option R) (rec0 : Bool → Int → Int → Int → Int → LT → Option R) (s0 : Bool) (s1 : Int) (s2 : Int) (s3 : Int) (s4 : Int) (s5 : LT) : Option R :=
  f102.s0' L N self102 k0_e0 rec0 s0 s1 s2 s3 s4 s5
def f102.l0 {R : Type} (L N : Nat) (self102 : Tree → Bool → Option (Int)) (k0_e0 : Int → Option R) : Nat → Bool → Int → Int → Int → Int → LT → Option R
  | 0, _, _, _, _, _, _ => none
  | n + 1, s0, s1, s2, s3, s4, s5 => f102.s0 L N self102 k0_e0 (f102.l0 L N self102 k0_e0 n) s0 s1 s2 s3 s4 s5
def f102.T0 (s0 : Bool) (s1 : Int) (s2 : Int) (s3 : Int) (s4 : Int) (s5 : LT) : T := mkT 38 [(1, (.tv .bool s0)), (2, (.ptr 1002 0)), (5, (.tv i64 s1)), (6, (.tv i64 s2))]
def f102.H0 (s0 : Bool) (s1 : Int) (s2 : Int) (s3 : Int) (s4 : Int) (s5 : LT) : H := [(1002, (.box [(.tv i64 s3), (.tv i64 s4), (.tv (.sl (.st 1)) s5)]))]
def f102.T0_e0 (z13 : Int) : T := mkT 38 [(5, (.tv i64 z13))]
def f102.H0_e0 (z13 : Int) : H := []
def f102.p0_e0' {R : Type} (L N : Nat) (self102 : Tree → Bool → Option (Int)) (k : Int → Option R) (z13 : Int) : Option R :=
  k z13
def f102.p0_e0 {R : Type} (L N : Nat) (self102 : Tree → Bool → Option (Int)) (k : Int → Option R) (z13 : Int) : Option R :=
  f102.p0_e0' L N self102 k z13
def f102.b' {R : Type} (L N : Nat) (self102 : Tree → Bool → Option (Int)) (k : Int → Option R) (w0 : Bool → Int → Int → Int → Int → LT → Option R) (x0 : Tree) (x1 : Bool) : Option R :=
  bif (x0.op == (5 : Int)) then
    k x0.n
  else w0 x1 (-1 : Int) (0 : Int) x0.op x0.n x0.parts
def f102.b {R : Type} (L N : Nat) (self102 : Tree → Bool → Option (Int)) (k : Int → Option R) (x0 : Tree) (x1 : Bool) : Option R :=
  f102.b' L N self102 k (fun s0 s1 s2 s3 s4 s5 => f102.l0 L N self102 (fun z13 => f102.p0_e0 L N self102 k z13) L s0 s1 s2 s3 s4 s5) x0 x1
def f102 (L N : Nat) : Nat → Tree → Bool → Option (Int)
  | 0, _, _ => none
  | n + 1, x0, x1 => f102.b L N (f102 L N n) some x0 x1
def f102.ent (L N m : Nat) := entRo [(.st 1), .bool] (.one i64) fun d => f102 L N m d.1 d.2.1
def Φ102s (L N m : Nat) : Tells := (addT (Φ63 L N) 102 (f102.ent L N m))
noncomputable def E102 (L N m : Nat) : Env := { P := Try.prog, ty := tyOf, Φ := Φ102s L N m, inl := inlT, live := lives, liveX := livesX, L := L, dp := none, prom := promT, heal := healT, ren := renT }
noncomputable def f102.c0 : Code := loopAt 0 (codeOf Try.f102)
def f102.X0_e0 {R : Type} (κ : KX R) := fun z13 => κ (.exit 0) (f102.T0_e0 z13) (f102.H0_e0 z13)
def f102.R0 {R : Type} (rec : KT R) := fun s0 s1 s2 s3 s4 s5 => rec (f102.T0 s0 s1 s2 s3 s4 s5) (f102.H0 s0 s1 s2 s3 s4 s5)
theorem f102.s0_eq {R : Type} (L N m : Nat) (κ : KX R) (rec : KT R) (s0 : Bool) (s1 : Int) (s2 : Int) (s3 : Int) (s4 : Int) (s5 : LT) :
    evRd (E102 L N m) (evCallI (E102 L N m) 1 2000) 1000 102 38 0 f102.c0 κ rec (f102.T0 s0 s1 s2 s3 s4 s5) (f102.H0 s0 s1 s2 s3 s4 s5)
    = f102.s0 L N (f102 L N m) (f102.X0_e0 κ) (f102.R0 rec) s0 s1 s2 s3 s4 s5 := by kernel_rfl
theorem f102.l0_eq {R : Type} (L N m : Nat) (κ : KX R) : ∀ (n : Nat) (s0 : Bool) (s1 : Int) (s2 : Int) (s3 : Int) (s4 : Int) (s5 : LT),
    evLp (E102 L N m) (evCallI (E102 L N m) 1 2000) 1000 102 38 0 f102.c0 κ n (f102.T0 s0 s1 s2 s3 s4 s5) (f102.H0 s0 s1 s2 s3 s4 s5)
    = f102.l0 L N (f102 L N m) (f102.X0_e0 κ) n s0 s1 s2 s3 s4 s5 := by
  intro n
  induction n with
  | zero => intros; rfl
  | succ n ih =>
    intro s0 s1 s2 s3 s4 s5
    rw [evLp_succ, f102.s0_eq]
    delta f102.R0
    simp only [ih]
    rfl
theorem f102.p0_e0_eq {R : Type} (L N m : Nat) (κ : AV → Option R) (z13 : Int) :
    (contAt (E102 L N m) (evCallI (E102 L N m) 1 2000) 1000 102 38 0 (codeOf Try.f102) (finK (E102 L N m) 1000 Try.f102 (finC (.one i64) κ))) (.exit 0) (f102.T0_e0 z13) (f102.H0_e0 z13)
    = f102.p0_e0 L N (f102 L N m) (fun a0 => κ (.tv i64 a0)) z13 := by kernel_rfl
theorem f102.b_eq {R : Type} (L N m : Nat) (κ : AV → Option R) (x0 : Tree) (x1 : Bool) :
    evBody (E102 L N m) (evCallI (E102 L N m) 1 2000) 1000 102 Try.f102 [(.tv (.st 1) x0), (.tv .bool x1)] [] [] (finC (.one i64) κ)
    = f102.b L N (f102 L N m) (fun a0 => κ (.tv i64 a0)) x0 x1 := by
  refine Eq.trans (b := f102.b' L N (f102 L N m) (fun a0 => κ (.tv i64 a0)) (fun s0 s1 s2 s3 s4 s5 => evLp (E102 L N m) (evCallI (E102 L N m) 1 2000) 1000 102 38 0 f102.c0 (contAt (E102 L N m) (evCallI (E102 L N m) 1 2000) 1000 102 38 0 (codeOf Try.f102) (finK (E102 L N m) 1000 Try.f102 (finC (.one i64) κ))) L (f102.T0 s0 s1 s2 s3 s4 s5) (f102.H0 s0 s1 s2 s3 s4 s5)) x0 x1) (by kernel_rfl) ?_
  unfold f102.b
  simp only [f102.l0_eq]
  delta f102.X0_e0
  simp only [f102.p0_e0_eq]
theorem f102.ok (L N m : Nat) (hΦ : TellsOk Try.prog (Φ102s L N m)) : EntOk Try.prog 102 (f102.ent L N (m + 1)) := entRo_ok (E := (E102 L N m)) (dep := 1000) (f := Try.f102) (sound_of hΦ) okP (callI_sound (sound_of hΦ) okP 1 2000) rfl rfl fun d _ hy => (f102.b_eq L N m (unR (.one i64)) d.1 d.2.1).trans (Eq.trans (b := f102.b L N (f102 L N m) some d.1 d.2.1) (by kernel_rfl) hy)
theorem Φ102s_ok (L N : Nat) : ∀ m, TellsOk Try.prog (Φ102s L N m) := by
  intro m
  induction m with
  | zero => exact (addT_ok (Φ63_ok L N) (entRo_no fun _ => rfl))
  | succ m ih => exact (addT_ok (Φ63_ok L N) (f102.ok L N m ih))
def Φ102 (L N : Nat) : Tells := (addT (Φ63 L N) 102 (f102.ent L N N))
theorem Φ102_ok (L N : Nat) : TellsOk Try.prog (Φ102 L N) := Φ102s_ok L N N
def f91.s0' {R : Type} (L N : Nat) (self91 : Tree → Option (Int)) (k0_e1 : Int → Option R) (k0_r : Int → Int → Option R) (rec0 : Int → Int → Int → Int → Int → LT → Option R) (s24 : Int) (s25 : Int) (s26 : Int) (s27 : Int) (s28 : Int) (s29 : LT) : Option R :=
  bif (decide (s26 < s24)) then
    bif (decide (0 ≤ s26) && decide (s26 < (s29.length : Int))) then
      (self91 (listAt s29 (Ty.dflt (.st 1)) s26.toNat)).bind fun y31 =>
      bif (y31 == (0 : Int)) then
        k0_r (0 : Int) s25
      else rec0 s24 (bif decide ((wi (s25 + y31)) < (1000 : Int)) then (wi (s25 + y31)) else (1000 : Int)) (wi (s26 + (1 : Int))) s27 s28 s29
    else none
  else k0_e1 s25
def f91.s0 {R : Type} (L N : Nat) (self91 : Tree → Option (Int)) (k0_e1 : Int → Option R) (k0_r : Int → Int → Option R) (rec0 : Int → Int → Int → Int → Int → LT → Option R) (s24 : Int) (s25 : Int) (s26 : Int) (s27 : Int) (s28 : Int) (s29 : LT) : Option R :=
  f91.s0' L N self91 k0_e1 k0_r rec0 s24 s25 s26 s27 s28 s29
def f91.l0 {R : Type} (L N : Nat) (self91 : Tree → Option (Int)) (k0_e1 : Int → Option R) (k0_r : Int → Int → Option R) : Nat → Int → Int → Int → Int → Int → LT → Option R
  | 0, _, _, _, _, _, _ => none
  | n + 1, s24, s25, s26, s27, s28, s29 => f91.s0 L N self91 k0_e1 k0_r (f91.l0 L N self91 k0_e1 k0_r n) s24 s25 s26 s27 s28 s29
def f91.T0 (s24 : Int) (s25 : Int) (s26 : Int) (s27 : Int) (s28 : Int) (s29 : LT) : T := mkT 60 [(1, (.ptr 1001 0)), (3, (.tv i64 s24)), (5, (.tv i64 s25)), (6, (.tv i64 s26))]
def f91.H0 (s24 : Int) (s25 : Int) (s26 : Int) (s27 : Int) (s28 : Int) (s29 : LT) : H := [(1001, (.box [(.tv i64 s27), (.tv i64 s28), (.tv (.sl (.st 1)) s29)]))]
def f91.T0_e1 (z30 : Int) : T := mkT 60 [(5, (.tv i64 z30))]
def f91.H0_e1 (z30 : Int) : H := []
def f91.T0_r (z32 : Int) (z33 : Int) : T := mkT 60 [(2, (.tv i64 z32)), (5, (.tv i64 z33))]
def f91.H0_r (z32 : Int) (z33 : Int) : H := []
def f91.p0_e1' {R : Type} (L N : Nat) (self91 : Tree → Option (Int)) (k : Int → Option R) (z30 : Int) : Option R :=
  k z30
def f91.p0_e1 {R : Type} (L N : Nat) (self91 : Tree → Option (Int)) (k : Int → Option R) (z30 : Int) : Option R :=
  f91.p0_e1' L N self91 k z30
def f91.p0_r' {R : Type} (L N : Nat) (self91 : Tree → Option (Int)) (k : Int → Option R) (z32 : Int) (z33 : Int) : Option R :=
  k z32
def f91.p0_r {R : Type} (L N : Nat) (self91 : Tree → Option (Int)) (k : Int → Option R) (z32 : Int) (z33 : Int) : Option R :=
  f91.p0_r' L N self91 k z32 z33
def f91.j1' {R : Type} (L N : Nat) (self91 : Tree → Option (Int)) (k : Int → Option R) (w0 : Int → Int → Int → Int → Int → LT → Option R) (v20 : Int) (v21 : Int) (v22 : Int) (v23 : LT) : Option R :=
  w0 v20 (1 : Int) (0 : Int) v21 v22 v23
def f91.j2' {R : Type} (L N : Nat) (self91 : Tree → Option (Int)) (k : Int → Option R) (w0 : Int → Int → Int → Int → Int → LT → Option R) (v10 : Int) (v11 : Bool) (v12 : Int) (v13 : Int) (v14 : LT) : Option R :=
  bif (!v11) then
    k (0 : Int)
  else bif ((v14.length : Int) != v10) then
    k (0 : Int)
  else f91.j1' L N self91 k w0 v10 v12 v13 v14
def f91.j0' {R : Type} (L N : Nat) (self91 : Tree → Option (Int)) (k : Int → Option R) (w0 : Int → Int → Int → Int → Int → LT → Option R) (v1 : Int) (v2 : Bool) (v3 : Int) (v4 : Bool) (v5 : Int) (v6 : Int) (v7 : LT) : Option R :=
  bif v4 then
    f91.j2' L N self91 k w0 (2 : Int) v2 v5 v6 v7
  else bif (v3 == (4 : Int)) then
    (f25 L N v6 (0 : Int) (3 : Int)).bind fun y8 =>
    f91.j2' L N self91 k w0 (1 : Int) y8 v5 v6 v7
  else bif (v3 == (5 : Int)) then
    (f25 L N v6 (0 : Int) (2 : Int)).bind fun y9 =>
    f91.j2' L N self91 k w0 v1 y9 v5 v6 v7
  else f91.j2' L N self91 k w0 v1 false v5 v6 v7
def f91.b' {R : Type} (L N : Nat) (self91 : Tree → Option (Int)) (k : Int → Option R) (w0 : Int → Int → Int → Int → Int → LT → Option R) (x0 : Tree) : Option R :=
  bif (x0.op == (0 : Int)) then
    f91.j2' L N self91 k w0 (0 : Int) (x0.n == (0 : Int)) x0.op x0.n x0.parts
  else bif (x0.op == (1 : Int)) then
    (f48 L N x0.n).bind fun y0 =>
    f91.j2' L N self91 k w0 (1 : Int) y0 x0.op x0.n x0.parts
  else bif (x0.op == (2 : Int)) then
    f91.j0' L N self91 k w0 (0 : Int) (x0.n == (0 : Int)) x0.op (x0.op == (2 : Int)) x0.op x0.n x0.parts
  else f91.j0' L N self91 k w0 (0 : Int) (x0.n == (0 : Int)) x0.op (x0.op == (3 : Int)) x0.op x0.n x0.parts
def f91.b {R : Type} (L N : Nat) (self91 : Tree → Option (Int)) (k : Int → Option R) (x0 : Tree) : Option R :=
  f91.b' L N self91 k (fun s24 s25 s26 s27 s28 s29 => f91.l0 L N self91 (fun z30 => f91.p0_e1 L N self91 k z30) (fun z32 z33 => f91.p0_r L N self91 k z32 z33) L s24 s25 s26 s27 s28 s29) x0
def f91 (L N : Nat) : Nat → Tree → Option (Int)
  | 0, _ => none
  | n + 1, x0 => f91.b L N (f91 L N n) some x0
def f91.ent (L N m : Nat) := entRo [(.st 1)] (.one i64) fun d => f91 L N m d.1
def Φ91s (L N m : Nat) : Tells := (addT (Φ102 L N) 91 (f91.ent L N m))
noncomputable def E91 (L N m : Nat) : Env := { P := Try.prog, ty := tyOf, Φ := Φ91s L N m, inl := inlT, live := lives, liveX := livesX, L := L, dp := none, prom := promT, heal := healT, ren := renT }
noncomputable def f91.c0 : Code := loopAt 1 (codeOf Try.f91)
def f91.X0_e1 {R : Type} (κ : KX R) := fun z30 => κ (.exit 1) (f91.T0_e1 z30) (f91.H0_e1 z30)
def f91.X0_r {R : Type} (κ : KX R) := fun z32 z33 => κ .ret (f91.T0_r z32 z33) (f91.H0_r z32 z33)
def f91.R0 {R : Type} (rec : KT R) := fun s24 s25 s26 s27 s28 s29 => rec (f91.T0 s24 s25 s26 s27 s28 s29) (f91.H0 s24 s25 s26 s27 s28 s29)
theorem f91.s0_eq {R : Type} (L N m : Nat) (κ : KX R) (rec : KT R) (s24 : Int) (s25 : Int) (s26 : Int) (s27 : Int) (s28 : Int) (s29 : LT) :
    evRd (E91 L N m) (evCallI (E91 L N m) 1 2000) 1000 91 60 1 f91.c0 κ rec (f91.T0 s24 s25 s26 s27 s28 s29) (f91.H0 s24 s25 s26 s27 s28 s29)
    = f91.s0 L N (f91 L N m) (f91.X0_e1 κ) (f91.X0_r κ) (f91.R0 rec) s24 s25 s26 s27 s28 s29 := by kernel_rfl
theorem f91.l0_eq {R : Type} (L N m : Nat) (κ : KX R) : ∀ (n : Nat) (s24 : Int) (s25 : Int) (s26 : Int) (s27 : Int) (s28 : Int) (s29 : LT),
    evLp (E91 L N m) (evCallI (E91 L N m) 1 2000) 1000 91 60 1 f91.c0 κ n (f91.T0 s24 s25 s26 s27 s28 s29) (f91.H0 s24 s25 s26 s27 s28 s29)
    = f91.l0 L N (f91 L N m) (f91.X0_e1 κ) (f91.X0_r κ) n s24 s25 s26 s27 s28 s29 := by
  intro n
  induction n with
  | zero => intros; rfl
  | succ n ih =>
    intro s24 s25 s26 s27 s28 s29
    rw [evLp_succ, f91.s0_eq]
    delta f91.R0
    simp only [ih]
    rfl
theorem f91.p0_e1_eq {R : Type} (L N m : Nat) (κ : AV → Option R) (z30 : Int) :
    (contAt (E91 L N m) (evCallI (E91 L N m) 1 2000) 1000 91 60 1 (codeOf Try.f91) (finK (E91 L N m) 1000 Try.f91 (finC (.one i64) κ))) (.exit 1) (f91.T0_e1 z30) (f91.H0_e1 z30)
    = f91.p0_e1 L N (f91 L N m) (fun a0 => κ (.tv i64 a0)) z30 := by kernel_rfl
theorem f91.p0_r_eq {R : Type} (L N m : Nat) (κ : AV → Option R) (z32 : Int) (z33 : Int) :
    (contAt (E91 L N m) (evCallI (E91 L N m) 1 2000) 1000 91 60 1 (codeOf Try.f91) (finK (E91 L N m) 1000 Try.f91 (finC (.one i64) κ))) .ret (f91.T0_r z32 z33) (f91.H0_r z32 z33)
    = f91.p0_r L N (f91 L N m) (fun a0 => κ (.tv i64 a0)) z32 z33 := by kernel_rfl
theorem f91.b_eq {R : Type} (L N m : Nat) (κ : AV → Option R) (x0 : Tree) :
    evBody (E91 L N m) (evCallI (E91 L N m) 1 2000) 1000 91 Try.f91 [(.tv (.st 1) x0)] [] [] (finC (.one i64) κ)
    = f91.b L N (f91 L N m) (fun a0 => κ (.tv i64 a0)) x0 := by
  refine Eq.trans (b := f91.b' L N (f91 L N m) (fun a0 => κ (.tv i64 a0)) (fun s24 s25 s26 s27 s28 s29 => evLp (E91 L N m) (evCallI (E91 L N m) 1 2000) 1000 91 60 1 f91.c0 (contAt (E91 L N m) (evCallI (E91 L N m) 1 2000) 1000 91 60 1 (codeOf Try.f91) (finK (E91 L N m) 1000 Try.f91 (finC (.one i64) κ))) L (f91.T0 s24 s25 s26 s27 s28 s29) (f91.H0 s24 s25 s26 s27 s28 s29)) x0) (by kernel_rfl) ?_
  unfold f91.b
  simp only [f91.l0_eq]
  delta f91.X0_e1 f91.X0_r
  simp only [f91.p0_e1_eq, f91.p0_r_eq]
theorem f91.ok (L N m : Nat) (hΦ : TellsOk Try.prog (Φ91s L N m)) : EntOk Try.prog 91 (f91.ent L N (m + 1)) := entRo_ok (E := (E91 L N m)) (dep := 1000) (f := Try.f91) (sound_of hΦ) okP (callI_sound (sound_of hΦ) okP 1 2000) rfl rfl fun d _ hy => (f91.b_eq L N m (unR (.one i64)) d.1).trans (Eq.trans (b := f91.b L N (f91 L N m) some d.1) (by kernel_rfl) hy)
theorem Φ91s_ok (L N : Nat) : ∀ m, TellsOk Try.prog (Φ91s L N m) := by
  intro m
  induction m with
  | zero => exact (addT_ok (Φ102_ok L N) (entRo_no fun _ => rfl))
  | succ m ih => exact (addT_ok (Φ102_ok L N) (f91.ok L N m ih))
def Φ91 (L N : Nat) : Tells := (addT (Φ102 L N) 91 (f91.ent L N N))
theorem Φ91_ok (L N : Nat) : TellsOk Try.prog (Φ91 L N) := Φ91s_ok L N N
def f103.b' {R : Type} (L N : Nat) (k : Bool → Option R) (x0 : Tree) : Option R :=
  (f91 L N N (Tree.mk x0.op x0.n x0.parts)).bind fun y0 =>
  (f25 L N y0 (1 : Int) (24 : Int)).bind fun y1 =>
  k y1
def f103.b {R : Type} (L N : Nat) (k : Bool → Option R) (x0 : Tree) : Option R :=
  f103.b' L N k x0
def f103 (L N : Nat) (x0 : Tree) : Option (Bool) := f103.b L N some x0
def f103.ent (L N : Nat) := entRo [(.st 1)] (.one .bool) fun d => f103 L N d.1
noncomputable def E103 (L N : Nat) : Env := { P := Try.prog, ty := tyOf, Φ := (Φ91 L N), inl := inlT, live := lives, liveX := livesX, L := L, dp := none, prom := promT, heal := healT, ren := renT }
theorem f103.b_eq {R : Type} (L N : Nat) (κ : AV → Option R) (x0 : Tree) :
    evBody (E103 L N) (evCallI (E103 L N) 1 2000) 1000 103 Try.f103 [(.tv (.st 1) x0)] [] [] (finC (.one .bool) κ)
    = f103.b L N (fun a0 => κ (.tv .bool a0)) x0 := by kernel_rfl
theorem f103.ok (L N : Nat) (hΦ : TellsOk Try.prog ((Φ91 L N))) : EntOk Try.prog 103 (f103.ent L N) := entRo_ok (E := (E103 L N)) (dep := 1000) (f := Try.f103) (sound_of hΦ) okP (callI_sound (sound_of hΦ) okP 1 2000) rfl rfl fun d _ hy => (f103.b_eq L N (unR (.one .bool)) d.1).trans (Eq.trans (b := f103.b L N some d.1) (by kernel_rfl) hy)
def Φ103 (L N : Nat) : Tells := (addT (Φ91 L N) 103 (f103.ent L N))
theorem Φ103_ok (L N : Nat) : TellsOk Try.prog (Φ103 L N) := addT_ok (Φ91_ok L N) (f103.ok L N (Φ91_ok L N))
def f88.b' {R : Type} (L N : Nat) (k : Bool → Option R) (x0 : Tree) (x1 : Int) : Option R :=
  (f103 L N (Tree.mk x0.op x0.n x0.parts)).bind fun y0 =>
  bif y0 then
    (f25 L N x1 (0 : Int) (3 : Int)).bind fun y1 =>
    bif y1 then
      (f102 L N N (Tree.mk x0.op x0.n x0.parts) false).bind fun y2 =>
      k (decide (y2 < x1))
    else k false
  else k false
def f88.b {R : Type} (L N : Nat) (k : Bool → Option R) (x0 : Tree) (x1 : Int) : Option R :=
  f88.b' L N k x0 x1
def f88 (L N : Nat) (x0 : Tree) (x1 : Int) : Option (Bool) := f88.b L N some x0 x1
def f88.ent (L N : Nat) := entRo [(.st 1), i64] (.one .bool) fun d => f88 L N d.1 d.2.1
noncomputable def E88 (L N : Nat) : Env := { P := Try.prog, ty := tyOf, Φ := (Φ103 L N), inl := inlT, live := lives, liveX := livesX, L := L, dp := none, prom := promT, heal := healT, ren := renT }
theorem f88.b_eq {R : Type} (L N : Nat) (κ : AV → Option R) (x0 : Tree) (x1 : Int) :
    evBody (E88 L N) (evCallI (E88 L N) 1 2000) 1000 88 Try.f88 [(.tv (.st 1) x0), (.tv i64 x1)] [] [] (finC (.one .bool) κ)
    = f88.b L N (fun a0 => κ (.tv .bool a0)) x0 x1 := by kernel_rfl
theorem f88.ok (L N : Nat) (hΦ : TellsOk Try.prog ((Φ103 L N))) : EntOk Try.prog 88 (f88.ent L N) := entRo_ok (E := (E88 L N)) (dep := 1000) (f := Try.f88) (sound_of hΦ) okP (callI_sound (sound_of hΦ) okP 1 2000) rfl rfl fun d _ hy => (f88.b_eq L N (unR (.one .bool)) d.1 d.2.1).trans (Eq.trans (b := f88.b L N some d.1 d.2.1) (by kernel_rfl) hy)
def Φ88 (L N : Nat) : Tells := (addT (Φ103 L N) 88 (f88.ent L N))
theorem Φ88_ok (L N : Nat) : TellsOk Try.prog (Φ88 L N) := addT_ok (Φ103_ok L N) (f88.ok L N (Φ103_ok L N))
def f87.s0' {R : Type} (L N : Nat) (k0_e0 : LT → Option R) (k0_r : LT → Bool → Option R) (rec0 : LT → Int → Option R) (s0 : LT) (s1 : Int) : Option R :=
  bif (decide (s1 < (s0.length : Int))) then
    bif (decide (0 ≤ s1) && decide (s1 < (s0.length : Int))) then
      (f88 L N (listAt s0 (Ty.dflt (.st 1)) s1.toNat) (s0.length : Int)).bind fun y3 =>
      bif (!y3) then
        k0_r s0 false
      else bif (decide (0 ≤ s1) && decide (s1 < (s0.length : Int))) then
        (f102 L N N (listAt s0 (Ty.dflt (.st 1)) s1.toNat) true).bind fun y4 =>
        bif (decide (y4 ≥ (0 : Int))) then
          k0_r s0 false
        else rec0 s0 (wi (s1 + (1 : Int)))
      else none
    else none
  else k0_e0 s0
def f87.s0 {R : Type} (L N : Nat) (k0_e0 : LT → Option R) (k0_r : LT → Bool → Option R) (rec0 : LT → Int → Option R) (s0 : LT) (s1 : Int) : Option R :=
  f87.s0' L N k0_e0 k0_r rec0 s0 s1
def f87.l0 {R : Type} (L N : Nat) (k0_e0 : LT → Option R) (k0_r : LT → Bool → Option R) : Nat → LT → Int → Option R
  | 0, _, _ => none
  | n + 1, s0, s1 => f87.s0 L N k0_e0 k0_r (f87.l0 L N k0_e0 k0_r n) s0 s1
def f87.T0 (s0 : LT) (s1 : Int) : T := mkT 29 [(0, (.tv (.sl (.st 1)) s0)), (3, (.tv i64 s1))]
def f87.H0 (s0 : LT) (s1 : Int) : H := []
def f87.T0_e0 (z2 : LT) : T := mkT 29 [(0, (.tv (.sl (.st 1)) z2))]
def f87.H0_e0 (z2 : LT) : H := []
def f87.T0_r (z8 : LT) (z9 : Bool) : T := mkT 29 [(0, (.tv (.sl (.st 1)) z8)), (2, (.tv .bool z9))]
def f87.H0_r (z8 : LT) (z9 : Bool) : H := []
def f87.p0_e0' {R : Type} (L N : Nat) (k : Bool → Option R) (z2 : LT) : Option R :=
  k (decide ((z2.length : Int) ≤ (3 : Int)))
def f87.p0_e0 {R : Type} (L N : Nat) (k : Bool → Option R) (z2 : LT) : Option R :=
  f87.p0_e0' L N k z2
def f87.p0_r' {R : Type} (L N : Nat) (k : Bool → Option R) (z8 : LT) (z9 : Bool) : Option R :=
  k z9
def f87.p0_r {R : Type} (L N : Nat) (k : Bool → Option R) (z8 : LT) (z9 : Bool) : Option R :=
  f87.p0_r' L N k z8 z9
def f87.b' {R : Type} (L N : Nat) (k : Bool → Option R) (w0 : LT → Int → Option R) (x0 : LT) : Option R :=
  w0 x0 (0 : Int)
def f87.b {R : Type} (L N : Nat) (k : Bool → Option R) (x0 : LT) : Option R :=
  f87.b' L N k (fun s0 s1 => f87.l0 L N (fun z2 => f87.p0_e0 L N k z2) (fun z8 z9 => f87.p0_r L N k z8 z9) L s0 s1) x0
def f87 (L N : Nat) (x0 : LT) : Option (Bool) := f87.b L N some x0
def f87.ent (L N : Nat) := entRo [(.sl (.st 1))] (.one .bool) fun d => f87 L N d.1
noncomputable def E87 (L N : Nat) : Env := { P := Try.prog, ty := tyOf, Φ := (Φ88 L N), inl := inlT, live := lives, liveX := livesX, L := L, dp := none, prom := promT, heal := healT, ren := renT }
noncomputable def f87.c0 : Code := loopAt 0 (codeOf Try.f87)
def f87.X0_e0 {R : Type} (κ : KX R) := fun z2 => κ (.exit 0) (f87.T0_e0 z2) (f87.H0_e0 z2)
def f87.X0_r {R : Type} (κ : KX R) := fun z8 z9 => κ .ret (f87.T0_r z8 z9) (f87.H0_r z8 z9)
def f87.R0 {R : Type} (rec : KT R) := fun s0 s1 => rec (f87.T0 s0 s1) (f87.H0 s0 s1)
theorem f87.s0_eq {R : Type} (L N : Nat) (κ : KX R) (rec : KT R) (s0 : LT) (s1 : Int) :
    evRd (E87 L N) (evCallI (E87 L N) 1 2000) 1000 87 29 0 f87.c0 κ rec (f87.T0 s0 s1) (f87.H0 s0 s1)
    = f87.s0 L N (f87.X0_e0 κ) (f87.X0_r κ) (f87.R0 rec) s0 s1 := by kernel_rfl
theorem f87.l0_eq {R : Type} (L N : Nat) (κ : KX R) : ∀ (n : Nat) (s0 : LT) (s1 : Int),
    evLp (E87 L N) (evCallI (E87 L N) 1 2000) 1000 87 29 0 f87.c0 κ n (f87.T0 s0 s1) (f87.H0 s0 s1)
    = f87.l0 L N (f87.X0_e0 κ) (f87.X0_r κ) n s0 s1 := by
  intro n
  induction n with
  | zero => intros; rfl
  | succ n ih =>
    intro s0 s1
    rw [evLp_succ, f87.s0_eq]
    delta f87.R0
    simp only [ih]
    rfl
theorem f87.p0_e0_eq {R : Type} (L N : Nat) (κ : AV → Option R) (z2 : LT) :
    (contAt (E87 L N) (evCallI (E87 L N) 1 2000) 1000 87 29 0 (codeOf Try.f87) (finK (E87 L N) 1000 Try.f87 (finC (.one .bool) κ))) (.exit 0) (f87.T0_e0 z2) (f87.H0_e0 z2)
    = f87.p0_e0 L N (fun a0 => κ (.tv .bool a0)) z2 := by kernel_rfl
theorem f87.p0_r_eq {R : Type} (L N : Nat) (κ : AV → Option R) (z8 : LT) (z9 : Bool) :
    (contAt (E87 L N) (evCallI (E87 L N) 1 2000) 1000 87 29 0 (codeOf Try.f87) (finK (E87 L N) 1000 Try.f87 (finC (.one .bool) κ))) .ret (f87.T0_r z8 z9) (f87.H0_r z8 z9)
    = f87.p0_r L N (fun a0 => κ (.tv .bool a0)) z8 z9 := by kernel_rfl
theorem f87.b_eq {R : Type} (L N : Nat) (κ : AV → Option R) (x0 : LT) :
    evBody (E87 L N) (evCallI (E87 L N) 1 2000) 1000 87 Try.f87 [(.tv (.sl (.st 1)) x0)] [] [] (finC (.one .bool) κ)
    = f87.b L N (fun a0 => κ (.tv .bool a0)) x0 := by
  refine Eq.trans (b := f87.b' L N (fun a0 => κ (.tv .bool a0)) (fun s0 s1 => evLp (E87 L N) (evCallI (E87 L N) 1 2000) 1000 87 29 0 f87.c0 (contAt (E87 L N) (evCallI (E87 L N) 1 2000) 1000 87 29 0 (codeOf Try.f87) (finK (E87 L N) 1000 Try.f87 (finC (.one .bool) κ))) L (f87.T0 s0 s1) (f87.H0 s0 s1)) x0) (by kernel_rfl) ?_
  unfold f87.b
  simp only [f87.l0_eq]
  delta f87.X0_e0 f87.X0_r
  simp only [f87.p0_e0_eq, f87.p0_r_eq]
theorem f87.ok (L N : Nat) (hΦ : TellsOk Try.prog ((Φ88 L N))) : EntOk Try.prog 87 (f87.ent L N) := entRo_ok (E := (E87 L N)) (dep := 1000) (f := Try.f87) (sound_of hΦ) okP (callI_sound (sound_of hΦ) okP 1 2000) rfl rfl fun d _ hy => (f87.b_eq L N (unR (.one .bool)) d.1).trans (Eq.trans (b := f87.b L N some d.1) (by kernel_rfl) hy)
def Φ87 (L N : Nat) : Tells := (addT (Φ88 L N) 87 (f87.ent L N))
theorem Φ87_ok (L N : Nat) : TellsOk Try.prog (Φ87 L N) := addT_ok (Φ88_ok L N) (f87.ok L N (Φ88_ok L N))
def f78.b' {R : Type} (L N : Nat) (k : Bool → Option R) (x0 : Tree) (x1 : LT) : Option R :=
  (f87 L N x1).bind fun y0 =>
  bif y0 then
    (f88 L N (Tree.mk x0.op x0.n x0.parts) (x1.length : Int)).bind fun y1 =>
    k y1
  else k false
def f78.b {R : Type} (L N : Nat) (k : Bool → Option R) (x0 : Tree) (x1 : LT) : Option R :=
  f78.b' L N k x0 x1
def f78 (L N : Nat) (x0 : Tree) (x1 : LT) : Option (Bool) := f78.b L N some x0 x1
def f78.ent (L N : Nat) := entRo [(.st 1), (.sl (.st 1))] (.one .bool) fun d => f78 L N d.1 d.2.1
noncomputable def E78 (L N : Nat) : Env := { P := Try.prog, ty := tyOf, Φ := (Φ87 L N), inl := inlT, live := lives, liveX := livesX, L := L, dp := none, prom := promT, heal := healT, ren := renT }
theorem f78.b_eq {R : Type} (L N : Nat) (κ : AV → Option R) (x0 : Tree) (x1 : LT) :
    evBody (E78 L N) (evCallI (E78 L N) 1 2000) 1000 78 Try.f78 [(.tv (.st 1) x0), (.tv (.sl (.st 1)) x1)] [] [] (finC (.one .bool) κ)
    = f78.b L N (fun a0 => κ (.tv .bool a0)) x0 x1 := by kernel_rfl
theorem f78.ok (L N : Nat) (hΦ : TellsOk Try.prog ((Φ87 L N))) : EntOk Try.prog 78 (f78.ent L N) := entRo_ok (E := (E78 L N)) (dep := 1000) (f := Try.f78) (sound_of hΦ) okP (callI_sound (sound_of hΦ) okP 1 2000) rfl rfl fun d _ hy => (f78.b_eq L N (unR (.one .bool)) d.1 d.2.1).trans (Eq.trans (b := f78.b L N some d.1 d.2.1) (by kernel_rfl) hy)
def Φ78 (L N : Nat) : Tells := (addT (Φ87 L N) 78 (f78.ent L N))
theorem Φ78_ok (L N : Nat) : TellsOk Try.prog (Φ78 L N) := addT_ok (Φ87_ok L N) (f78.ok L N (Φ87_ok L N))
def f81.s1' {R : Type} (L N : Nat) (k1_e2 : LM → Int → Int → LM → Option R) (rec1 : LM → Int → Int → LM → Option R) (s4 : LM) (s5 : Int) (s6 : Int) (s7 : LM) : Option R :=
  bif (decide (s6 > (0 : Int))) then
    bif (decide (0 ≤ s5) && decide (s5 < (s4.length : Int))) then
      bif (decide (0 ≤ (wi (s6 - (1 : Int)))) && decide ((wi (s6 - (1 : Int))) < (s7.length : Int))) then
        (f49 L N (listAt s4 (Ty.dflt (.st 0)) s5.toNat) (listAt s7 (Ty.dflt (.st 0)) (wi (s6 - (1 : Int))).toNat)).bind fun y8 =>
        bif y8 then
          rec1 s4 s5 (wi (s6 - (1 : Int))) s7
        else k1_e2 s4 s5 s6 s7
      else none
    else none
  else k1_e2 s4 s5 s6 s7
def f81.s1 {R : Type} (L N : Nat) (k1_e2 : LM → Int → Int → LM → Option R) (rec1 : LM → Int → Int → LM → Option R) (s4 : LM) (s5 : Int) (s6 : Int) (s7 : LM) : Option R :=
  f81.s1' L N k1_e2 rec1 s4 s5 s6 s7
def f81.l1 {R : Type} (L N : Nat) (k1_e2 : LM → Int → Int → LM → Option R) : Nat → LM → Int → Int → LM → Option R
  | 0, _, _, _, _ => none
  | n + 1, s4, s5, s6, s7 => f81.s1 L N k1_e2 (f81.l1 L N k1_e2 n) s4 s5 s6 s7
def f81.T1 (s4 : LM) (s5 : Int) (s6 : Int) (s7 : LM) : T := mkT 74 [(0, (.tv (.sl (.st 0)) s4)), (3, (.row 1007)), (4, (.tv i64 s5)), (5, (.tv i64 s6))]
def f81.H1 (s4 : LM) (s5 : Int) (s6 : Int) (s7 : LM) : H := [(1007, (.row 72 (.st 0) s7))]
def f81.T1_e2 (z14 : LM) (z15 : Int) (z16 : Int) (z17 : LM) : T := mkT 74 [(0, (.tv (.sl (.st 0)) z14)), (3, (.row 1007)), (4, (.tv i64 z15)), (5, (.tv i64 z16))]
def f81.H1_e2 (z14 : LM) (z15 : Int) (z16 : Int) (z17 : LM) : H := [(1007, (.row 72 (.st 0) z17))]
def f81.s2' {R : Type} (L N : Nat) (k2_e4 : LM → Int → Int → LM → Option R) (rec2 : LM → Int → Int → Int → LM → Option R) (s31 : LM) (s32 : Int) (s33 : Int) (s34 : Int) (s35 : LM) : Option R :=
  bif (decide (s34 > s33)) then
    bif (decide (0 ≤ (wi (s34 - (1 : Int)))) && decide ((wi (s34 - (1 : Int))) < (s35.length : Int))) then
      bif (decide (0 ≤ s34) && decide (s34 < (s35.length : Int))) then
        rec2 s31 s32 s33 (wi (s34 - (1 : Int))) (s35.set s34.toNat (listAt s35 (Ty.dflt (.st 0)) (wi (s34 - (1 : Int))).toNat))
      else none
    else none
  else k2_e4 s31 s32 s33 s35
def f81.s2 {R : Type} (L N : Nat) (k2_e4 : LM → Int → Int → LM → Option R) (rec2 : LM → Int → Int → Int → LM → Option R) (s31 : LM) (s32 : Int) (s33 : Int) (s34 : Int) (s35 : LM) : Option R :=
  f81.s2' L N k2_e4 rec2 s31 s32 s33 s34 s35
def f81.l2 {R : Type} (L N : Nat) (k2_e4 : LM → Int → Int → LM → Option R) : Nat → LM → Int → Int → Int → LM → Option R
  | 0, _, _, _, _, _ => none
  | n + 1, s31, s32, s33, s34, s35 => f81.s2 L N k2_e4 (f81.l2 L N k2_e4 n) s31 s32 s33 s34 s35
def f81.T2 (s31 : LM) (s32 : Int) (s33 : Int) (s34 : Int) (s35 : LM) : T := mkT 74 [(0, (.tv (.sl (.st 0)) s31)), (3, (.row 1007)), (4, (.tv i64 s32)), (5, (.tv i64 s33)), (6, (.tv i64 s34))]
def f81.H2 (s31 : LM) (s32 : Int) (s33 : Int) (s34 : Int) (s35 : LM) : H := [(1007, (.row 72 (.st 0) s35))]
def f81.T2_e4 (z36 : LM) (z37 : Int) (z38 : Int) (z39 : LM) : T := mkT 74 [(0, (.tv (.sl (.st 0)) z36)), (3, (.row 1007)), (4, (.tv i64 z37)), (5, (.tv i64 z38))]
def f81.H2_e4 (z36 : LM) (z37 : Int) (z38 : Int) (z39 : LM) : H := [(1007, (.row 72 (.st 0) z39))]
def f81.p2_e4' {R : Type} (L N : Nat) (k0_e0 : LM → Option R) (rec0 : LM → Int → LM → Option R) (z36 : LM) (z37 : Int) (z38 : Int) (z39 : LM) : Option R :=
  bif (decide (0 ≤ z37) && decide (z37 < (z36.length : Int))) then
    bif (decide (0 ≤ z38) && decide (z38 < (z39.length : Int))) then
      rec0 z36 (wi (z37 + (1 : Int))) (z39.set z38.toNat (listAt z36 (Ty.dflt (.st 0)) z37.toNat))
    else none
  else none
def f81.p2_e4 {R : Type} (L N : Nat) (k0_e0 : LM → Option R) (rec0 : LM → Int → LM → Option R) (z36 : LM) (z37 : Int) (z38 : Int) (z39 : LM) : Option R :=
  f81.p2_e4' L N k0_e0 rec0 z36 z37 z38 z39
def f81.j0' {R : Type} (L N : Nat) (k0_e0 : LM → Option R) (rec0 : LM → Int → LM → Option R) (w2 : LM → Int → Int → Int → LM → Option R) (v27 : LM) (v28 : Int) (v29 : Int) (v30 : LM) : Option R :=
  bif (decide (v30.length + ([(Move.mk (0 : Int) (0 : Int))] : LM).length ≤ lim)) then
    w2 v27 v28 v29 (wi (((v30 ++ ([(Move.mk (0 : Int) (0 : Int))] : LM)).length : Int) - (1 : Int))) (v30 ++ ([(Move.mk (0 : Int) (0 : Int))] : LM))
  else none
def f81.p1_e2' {R : Type} (L N : Nat) (k0_e0 : LM → Option R) (rec0 : LM → Int → LM → Option R) (w2 : LM → Int → Int → Int → LM → Option R) (z14 : LM) (z15 : Int) (z16 : Int) (z17 : LM) : Option R :=
  bif (decide (z16 > (0 : Int))) then
    bif (decide (0 ≤ (wi (z16 - (1 : Int)))) && decide ((wi (z16 - (1 : Int))) < (z17.length : Int))) then
      bif (decide (0 ≤ z15) && decide (z15 < (z14.length : Int))) then
        bif (Move.eqb (listAt z17 (Ty.dflt (.st 0)) (wi (z16 - (1 : Int))).toNat) (listAt z14 (Ty.dflt (.st 0)) z15.toNat)) then
          rec0 z14 (wi (z15 + (1 : Int))) z17
        else f81.j0' L N k0_e0 rec0 w2 z14 z15 z16 z17
      else none
    else none
  else f81.j0' L N k0_e0 rec0 w2 z14 z15 z16 z17
def f81.p1_e2 {R : Type} (L N : Nat) (k0_e0 : LM → Option R) (rec0 : LM → Int → LM → Option R) (z14 : LM) (z15 : Int) (z16 : Int) (z17 : LM) : Option R :=
  f81.p1_e2' L N k0_e0 rec0 (fun s31 s32 s33 s34 s35 => f81.l2 L N (fun z36 z37 z38 z39 => f81.p2_e4 L N k0_e0 rec0 z36 z37 z38 z39) L s31 s32 s33 s34 s35) z14 z15 z16 z17
def f81.s0' {R : Type} (L N : Nat) (k0_e0 : LM → Option R) (rec0 : LM → Int → LM → Option R) (w1 : LM → Int → Int → LM → Option R) (s0 : LM) (s1 : Int) (s2 : LM) : Option R :=
  bif (decide (s1 < (s0.length : Int))) then
    w1 s0 s1 (s2.length : Int) s2
  else k0_e0 s2
def f81.s0 {R : Type} (L N : Nat) (k0_e0 : LM → Option R) (rec0 : LM → Int → LM → Option R) (s0 : LM) (s1 : Int) (s2 : LM) : Option R :=
  f81.s0' L N k0_e0 rec0 (fun s4 s5 s6 s7 => f81.l1 L N (fun z14 z15 z16 z17 => f81.p1_e2 L N k0_e0 rec0 z14 z15 z16 z17) L s4 s5 s6 s7) s0 s1 s2
def f81.l0 {R : Type} (L N : Nat) (k0_e0 : LM → Option R) : Nat → LM → Int → LM → Option R
  | 0, _, _, _ => none
  | n + 1, s0, s1, s2 => f81.s0 L N k0_e0 (f81.l0 L N k0_e0 n) s0 s1 s2
def f81.T0 (s0 : LM) (s1 : Int) (s2 : LM) : T := mkT 74 [(0, (.tv (.sl (.st 0)) s0)), (3, (.row 1007)), (4, (.tv i64 s1))]
def f81.H0 (s0 : LM) (s1 : Int) (s2 : LM) : H := [(1007, (.row 72 (.st 0) s2))]
def f81.T0_e0 (z3 : LM) : T := mkT 74 [(3, (.row 1007))]
def f81.H0_e0 (z3 : LM) : H := [(1007, (.row 72 (.st 0) z3))]
def f81.p0_e0' {R : Type} (L N : Nat) (k : LM → Option R) (z3 : LM) : Option R :=
  k z3
def f81.p0_e0 {R : Type} (L N : Nat) (k : LM → Option R) (z3 : LM) : Option R :=
  f81.p0_e0' L N k z3
def f81.b' {R : Type} (L N : Nat) (k : LM → Option R) (w0 : LM → Int → LM → Option R) (x0 : LM) : Option R :=
  w0 x0 (0 : Int) ([] : LM)
def f81.b {R : Type} (L N : Nat) (k : LM → Option R) (x0 : LM) : Option R :=
  f81.b' L N k (fun s0 s1 s2 => f81.l0 L N (fun z3 => f81.p0_e0 L N k z3) L s0 s1 s2) x0
def f81 (L N : Nat) (x0 : LM) : Option (LM) := f81.b L N some x0
def f81.ent (L N : Nat) (args : List AV) (vw : View) (site : Nat) : Ans := match roD [(.sl (.st 0))] vw args with
  | some d => ⟨LM, f81 L N d.1, fun y => (RN.av site .row (), [(site, some (mkO none 72 (.st 0) y))], [])⟩
  | none => Ans.no
noncomputable def E81 (L N : Nat) : Env := { P := Try.prog, ty := tyOf, Φ := (Φ78 L N), inl := inlT, live := lives, liveX := livesX, L := L, dp := none, prom := promT, heal := healT, ren := renT }
noncomputable def f81.c0 : Code := loopAt 0 (codeOf Try.f81)
noncomputable def f81.c1 : Code := loopAt 2 f81.c0
def f81.X1_e2 {R : Type} (κ : KX R) := fun z14 z15 z16 z17 => κ (.exit 2) (f81.T1_e2 z14 z15 z16 z17) (f81.H1_e2 z14 z15 z16 z17)
def f81.R1 {R : Type} (rec : KT R) := fun s4 s5 s6 s7 => rec (f81.T1 s4 s5 s6 s7) (f81.H1 s4 s5 s6 s7)
theorem f81.s1_eq {R : Type} (L N : Nat) (κ : KX R) (rec : KT R) (s4 : LM) (s5 : Int) (s6 : Int) (s7 : LM) :
    evRd (E81 L N) (evCallI (E81 L N) 1 2000) 1000 81 74 2 f81.c1 κ rec (f81.T1 s4 s5 s6 s7) (f81.H1 s4 s5 s6 s7)
    = f81.s1 L N (f81.X1_e2 κ) (f81.R1 rec) s4 s5 s6 s7 := by kernel_rfl
theorem f81.l1_eq {R : Type} (L N : Nat) (κ : KX R) : ∀ (n : Nat) (s4 : LM) (s5 : Int) (s6 : Int) (s7 : LM),
    evLp (E81 L N) (evCallI (E81 L N) 1 2000) 1000 81 74 2 f81.c1 κ n (f81.T1 s4 s5 s6 s7) (f81.H1 s4 s5 s6 s7)
    = f81.l1 L N (f81.X1_e2 κ) n s4 s5 s6 s7 := by
  intro n
  induction n with
  | zero => intros; rfl
  | succ n ih =>
    intro s4 s5 s6 s7
    rw [evLp_succ, f81.s1_eq]
    delta f81.R1
    simp only [ih]
    rfl
noncomputable def f81.c2 : Code := loopAt 4 f81.c0
def f81.X2_e4 {R : Type} (κ : KX R) := fun z36 z37 z38 z39 => κ (.exit 4) (f81.T2_e4 z36 z37 z38 z39) (f81.H2_e4 z36 z37 z38 z39)
def f81.R2 {R : Type} (rec : KT R) := fun s31 s32 s33 s34 s35 => rec (f81.T2 s31 s32 s33 s34 s35) (f81.H2 s31 s32 s33 s34 s35)
theorem f81.s2_eq {R : Type} (L N : Nat) (κ : KX R) (rec : KT R) (s31 : LM) (s32 : Int) (s33 : Int) (s34 : Int) (s35 : LM) :
    evRd (E81 L N) (evCallI (E81 L N) 1 2000) 1000 81 74 4 f81.c2 κ rec (f81.T2 s31 s32 s33 s34 s35) (f81.H2 s31 s32 s33 s34 s35)
    = f81.s2 L N (f81.X2_e4 κ) (f81.R2 rec) s31 s32 s33 s34 s35 := by kernel_rfl
theorem f81.l2_eq {R : Type} (L N : Nat) (κ : KX R) : ∀ (n : Nat) (s31 : LM) (s32 : Int) (s33 : Int) (s34 : Int) (s35 : LM),
    evLp (E81 L N) (evCallI (E81 L N) 1 2000) 1000 81 74 4 f81.c2 κ n (f81.T2 s31 s32 s33 s34 s35) (f81.H2 s31 s32 s33 s34 s35)
    = f81.l2 L N (f81.X2_e4 κ) n s31 s32 s33 s34 s35 := by
  intro n
  induction n with
  | zero => intros; rfl
  | succ n ih =>
    intro s31 s32 s33 s34 s35
    rw [evLp_succ, f81.s2_eq]
    delta f81.R2
    simp only [ih]
    rfl
def f81.X0_e0 {R : Type} (κ : KX R) := fun z3 => κ (.exit 0) (f81.T0_e0 z3) (f81.H0_e0 z3)
def f81.R0 {R : Type} (rec : KT R) := fun s0 s1 s2 => rec (f81.T0 s0 s1 s2) (f81.H0 s0 s1 s2)
theorem f81.p2_e4_eq {R : Type} (L N : Nat) (κ : KX R) (rec : KT R) (z36 : LM) (z37 : Int) (z38 : Int) (z39 : LM) :
    (contAt (E81 L N) (evCallI (E81 L N) 1 2000) 1000 81 74 4 f81.c0 (rdK (E81 L N) 1000 81 74 0 κ rec)) (.exit 4) (f81.T2_e4 z36 z37 z38 z39) (f81.H2_e4 z36 z37 z38 z39)
    = f81.p2_e4 L N (f81.X0_e0 κ) (f81.R0 rec) z36 z37 z38 z39 := by kernel_rfl
theorem f81.p1_e2_eq {R : Type} (L N : Nat) (κ : KX R) (rec : KT R) (z14 : LM) (z15 : Int) (z16 : Int) (z17 : LM) :
    (contAt (E81 L N) (evCallI (E81 L N) 1 2000) 1000 81 74 2 f81.c0 (rdK (E81 L N) 1000 81 74 0 κ rec)) (.exit 2) (f81.T1_e2 z14 z15 z16 z17) (f81.H1_e2 z14 z15 z16 z17)
    = f81.p1_e2 L N (f81.X0_e0 κ) (f81.R0 rec) z14 z15 z16 z17 := by
  refine Eq.trans (b := f81.p1_e2' L N (f81.X0_e0 κ) (f81.R0 rec) (fun s31 s32 s33 s34 s35 => evLp (E81 L N) (evCallI (E81 L N) 1 2000) 1000 81 74 4 f81.c2 (contAt (E81 L N) (evCallI (E81 L N) 1 2000) 1000 81 74 4 f81.c0 (rdK (E81 L N) 1000 81 74 0 κ rec)) L (f81.T2 s31 s32 s33 s34 s35) (f81.H2 s31 s32 s33 s34 s35)) z14 z15 z16 z17) (by kernel_rfl) ?_
  unfold f81.p1_e2
  simp only [f81.l2_eq]
  delta f81.X2_e4
  simp only [f81.p2_e4_eq]
theorem f81.s0_eq {R : Type} (L N : Nat) (κ : KX R) (rec : KT R) (s0 : LM) (s1 : Int) (s2 : LM) :
    evRd (E81 L N) (evCallI (E81 L N) 1 2000) 1000 81 74 0 f81.c0 κ rec (f81.T0 s0 s1 s2) (f81.H0 s0 s1 s2)
    = f81.s0 L N (f81.X0_e0 κ) (f81.R0 rec) s0 s1 s2 := by
  refine Eq.trans (b := f81.s0' L N (f81.X0_e0 κ) (f81.R0 rec) (fun s4 s5 s6 s7 => evLp (E81 L N) (evCallI (E81 L N) 1 2000) 1000 81 74 2 f81.c1 (contAt (E81 L N) (evCallI (E81 L N) 1 2000) 1000 81 74 2 f81.c0 (rdK (E81 L N) 1000 81 74 0 κ rec)) L (f81.T1 s4 s5 s6 s7) (f81.H1 s4 s5 s6 s7)) s0 s1 s2) (by kernel_rfl) ?_
  unfold f81.s0
  simp only [f81.l1_eq]
  delta f81.X1_e2
  simp only [f81.p1_e2_eq]
theorem f81.l0_eq {R : Type} (L N : Nat) (κ : KX R) : ∀ (n : Nat) (s0 : LM) (s1 : Int) (s2 : LM),
    evLp (E81 L N) (evCallI (E81 L N) 1 2000) 1000 81 74 0 f81.c0 κ n (f81.T0 s0 s1 s2) (f81.H0 s0 s1 s2)
    = f81.l0 L N (f81.X0_e0 κ) n s0 s1 s2 := by
  intro n
  induction n with
  | zero => intros; rfl
  | succ n ih =>
    intro s0 s1 s2
    rw [evLp_succ, f81.s0_eq]
    delta f81.R0
    simp only [ih]
    rfl
theorem f81.p0_e0_eq {R : Type} (L N : Nat) (κ : RN.Den .row → List Move → Option R) (z3 : LM) :
    (contAt (E81 L N) (evCallI (E81 L N) 1 2000) 1000 81 74 0 (codeOf Try.f81) (finK (E81 L N) 1000 Try.f81 (finN .row none 72 (.st 0) κ))) (.exit 0) (f81.T0_e0 z3) (f81.H0_e0 z3)
    = f81.p0_e0 L N (fun a0 => κ () a0) z3 := by kernel_rfl
theorem f81.b_eq {R : Type} (L N : Nat) (κ : RN.Den .row → List Move → Option R) (x0 : LM) :
    evBody (E81 L N) (evCallI (E81 L N) 1 2000) 1000 81 Try.f81 [(.tv (.sl (.st 0)) x0)] [] [] (finN .row none 72 (.st 0) κ)
    = f81.b L N (fun a0 => κ () a0) x0 := by
  refine Eq.trans (b := f81.b' L N (fun a0 => κ () a0) (fun s0 s1 s2 => evLp (E81 L N) (evCallI (E81 L N) 1 2000) 1000 81 74 0 f81.c0 (contAt (E81 L N) (evCallI (E81 L N) 1 2000) 1000 81 74 0 (codeOf Try.f81) (finK (E81 L N) 1000 Try.f81 (finN .row none 72 (.st 0) κ))) L (f81.T0 s0 s1 s2) (f81.H0 s0 s1 s2)) x0) (by kernel_rfl) ?_
  unfold f81.b
  simp only [f81.l0_eq]
  delta f81.X0_e0
  simp only [f81.p0_e0_eq]
theorem f81.ok (L N : Nat) (hΦ : TellsOk Try.prog ((Φ78 L N))) : EntOk Try.prog 81 (f81.ent L N) := by
  intro args vw site h
  unfold f81.ent
  split
  · rename_i d ha
    intro y hy hs
    refine call_ron (y := y) (dep := 1000) (E := (E81 L N)) (ts := [(.sl (.st 0))]) (rn := .row) (q := none) (el := 72) (ty := (.st 0)) (d1 := ()) (xs := y) (κ := (fun d xs => some xs)) (sound_of hΦ) okP (callI_sound (sound_of hΦ) okP 1 2000) (f := Try.f81) rfl hs ha ?_ (fun _ _ h => by obtain rfl := Option.some.inj h; exact ⟨rfl, rfl⟩) rfl site
    exact (f81.b_eq L N (fun d xs => some xs) d.1).trans (Eq.trans (b := f81.b L N some d.1) (by kernel_rfl) hy)
  · intro y hy
    cases hy
def Φ81 (L N : Nat) : Tells := (addT (Φ78 L N) 81 (f81.ent L N))
theorem Φ81_ok (L N : Nat) : TellsOk Try.prog (Φ81 L N) := addT_ok (Φ78_ok L N) (f81.ok L N (Φ78_ok L N))
def f104.b' {R : Type} (L N : Nat) (self104 : Int → Option (ByteArray)) (k : ByteArray → Option R) (x0 : Int) : Option R :=
  bif (decide (x0 < (-9223372036854775807 : Int))) then
    k (ByteArray.mk #[45, 57, 50, 50, 51, 51, 55, 50, 48, 51, 54, 56, 53, 52, 55, 55, 53, 56, 48, 56])
  else bif (decide (x0 < (0 : Int))) then
    (self104 (wi (0 - x0))).bind fun y0 =>
    bif (decide ((ByteArray.mk #[45]).size + y0.size ≤ 4611686018427387904)) then
      k ((ByteArray.mk #[45]) ++ y0)
    else none
  else bif (decide (x0 < (10 : Int))) then
    k (strOfNums ([(IntKind.wrap .u8 ((wi ((48 : Int) + x0))))] : LI))
  else bif (decide ((10 : Int) = 0)) then
    none
  else (self104 (wi (Int.tdiv x0 (10 : Int)))).bind fun y1 =>
  bif (decide ((10 : Int) = 0)) then
    none
  else bif (decide (y1.size + (strOfNums ([(IntKind.wrap .u8 ((wi ((48 : Int) + (Int.tmod x0 (10 : Int))))))] : LI)).size ≤ 4611686018427387904)) then
    k (y1 ++ (strOfNums ([(IntKind.wrap .u8 ((wi ((48 : Int) + (Int.tmod x0 (10 : Int))))))] : LI)))
  else none
def f104.b {R : Type} (L N : Nat) (self104 : Int → Option (ByteArray)) (k : ByteArray → Option R) (x0 : Int) : Option R :=
  f104.b' L N self104 k x0
def f104 (L N : Nat) : Nat → Int → Option (ByteArray)
  | 0, _ => none
  | n + 1, x0 => f104.b L N (f104 L N n) some x0
def f104.ent (L N m : Nat) := entRo [i64] (.one .str) fun d => f104 L N m d.1
def Φ104s (L N m : Nat) : Tells := (addT (Φ81 L N) 104 (f104.ent L N m))
noncomputable def E104 (L N m : Nat) : Env := { P := Try.prog, ty := tyOf, Φ := Φ104s L N m, inl := inlT, live := lives, liveX := livesX, L := L, dp := none, prom := promT, heal := healT, ren := renT }
theorem f104.b_eq {R : Type} (L N m : Nat) (κ : AV → Option R) (x0 : Int) :
    evBody (E104 L N m) (evCallI (E104 L N m) 1 2000) 1000 104 Try.f104 [(.tv i64 x0)] [] [] (finC (.one .str) κ)
    = f104.b L N (f104 L N m) (fun a0 => κ (.tv .str a0)) x0 := by kernel_rfl
theorem f104.ok (L N m : Nat) (hΦ : TellsOk Try.prog (Φ104s L N m)) : EntOk Try.prog 104 (f104.ent L N (m + 1)) := entRo_ok (E := (E104 L N m)) (dep := 1000) (f := Try.f104) (sound_of hΦ) okP (callI_sound (sound_of hΦ) okP 1 2000) rfl rfl fun d _ hy => (f104.b_eq L N m (unR (.one .str)) d.1).trans (Eq.trans (b := f104.b L N (f104 L N m) some d.1) (by kernel_rfl) hy)
theorem Φ104s_ok (L N : Nat) : ∀ m, TellsOk Try.prog (Φ104s L N m) := by
  intro m
  induction m with
  | zero => exact (addT_ok (Φ81_ok L N) (entRo_no fun _ => rfl))
  | succ m ih => exact (addT_ok (Φ81_ok L N) (f104.ok L N m ih))
def Φ104 (L N : Nat) : Tells := (addT (Φ81 L N) 104 (f104.ent L N N))
theorem Φ104_ok (L N : Nat) : TellsOk Try.prog (Φ104 L N) := Φ104s_ok L N N
def f105.b' {R : Type} (L N : Nat) (k : LY → Option R) : Option R :=
  k ([(ByteArray.mk #[]), (ByteArray.mk #[97, 99, 116]), (ByteArray.mk #[115, 117, 109]), (ByteArray.mk #[112, 97, 114]), (ByteArray.mk #[104, 105, 100, 101])] : LY)
def f105.b {R : Type} (L N : Nat) (k : LY → Option R) : Option R :=
  f105.b' L N k
def f105 (L N : Nat) : Option (LY) := f105.b L N some
def f105.ent (L N : Nat) := entDa [] (.one (.sl .str)) fun d => f105 L N
noncomputable def E105 (L N : Nat) : Env := { P := Try.prog, ty := tyOf, Φ := (Φ104 L N), inl := inlT, live := lives, liveX := livesX, L := L, dp := none, prom := promT, heal := healT, ren := renT }
theorem f105.b_eq {R : Type} (L N : Nat) (κ : AV → Option R) :
    evBody (E105 L N) (evCallI (E105 L N) 1 2000) 1000 105 Try.f105 [] [] [] (finC (.one (.sl .str)) κ)
    = f105.b L N (fun a0 => κ (.tv (.sl .str) a0)) := by kernel_rfl
theorem f105.ok (L N : Nat) (hΦ : TellsOk Try.prog ((Φ104 L N))) : EntOk Try.prog 105 (f105.ent L N) := entDa_ok (E := (E105 L N)) (dep := 1000) (f := Try.f105) (sound_of hΦ) okP (callI_sound (sound_of hΦ) okP 1 2000) rfl fun _ _ hy => (f105.b_eq L N (unR (.one (.sl .str)))).trans (Eq.trans (b := f105.b L N some) (by kernel_rfl) hy)
def Φ105 (L N : Nat) : Tells := (addT (Φ104 L N) 105 (f105.ent L N))
theorem Φ105_ok (L N : Nat) : TellsOk Try.prog (Φ105 L N) := addT_ok (Φ104_ok L N) (f105.ok L N (Φ104_ok L N))
def f107.b' {R : Type} (L N : Nat) (k : Int → Option R) (x0 : Int) : Option R :=
  k (wi ((bif decide ((wi (0 - x0)) > x0) then (wi (0 - x0)) else x0) - (1 : Int)))
def f107.b {R : Type} (L N : Nat) (k : Int → Option R) (x0 : Int) : Option R :=
  f107.b' L N k x0
def f107 (L N : Nat) (x0 : Int) : Option (Int) := f107.b L N some x0
def f107.ent (L N : Nat) := entRo [i64] (.one i64) fun d => f107 L N d.1
noncomputable def E107 (L N : Nat) : Env := { P := Try.prog, ty := tyOf, Φ := (Φ105 L N), inl := inlT, live := lives, liveX := livesX, L := L, dp := none, prom := promT, heal := healT, ren := renT }
theorem f107.b_eq {R : Type} (L N : Nat) (κ : AV → Option R) (x0 : Int) :
    evBody (E107 L N) (evCallI (E107 L N) 1 2000) 1000 107 Try.f107 [(.tv i64 x0)] [] [] (finC (.one i64) κ)
    = f107.b L N (fun a0 => κ (.tv i64 a0)) x0 := by kernel_rfl
theorem f107.ok (L N : Nat) (hΦ : TellsOk Try.prog ((Φ105 L N))) : EntOk Try.prog 107 (f107.ent L N) := entRo_ok (E := (E107 L N)) (dep := 1000) (f := Try.f107) (sound_of hΦ) okP (callI_sound (sound_of hΦ) okP 1 2000) rfl rfl fun d _ hy => (f107.b_eq L N (unR (.one i64)) d.1).trans (Eq.trans (b := f107.b L N some d.1) (by kernel_rfl) hy)
def Φ107 (L N : Nat) : Tells := (addT (Φ105 L N) 107 (f107.ent L N))
theorem Φ107_ok (L N : Nat) : TellsOk Try.prog (Φ107 L N) := addT_ok (Φ105_ok L N) (f107.ok L N (Φ105_ok L N))
def f106.b' {R : Type} (L N : Nat) (k : ByteArray → Option R) (x0 : Int) : Option R :=
  bif (x0 == (0 : Int)) then
    k (ByteArray.mk #[116, 97, 117])
  else bif (decide (x0 < (0 : Int))) then
    (f107 L N x0).bind fun y0 =>
    (f107 L N x0).bind fun y1 =>
    bif (slB y0 (wi (y1 + (1 : Int))) (ByteArray.mk #[97, 98, 99, 100]).size) then
      bif (decide ((ByteArray.mk #[33]).size + ((ByteArray.mk #[97, 98, 99, 100]).extract y0.toNat (wi (y1 + (1 : Int))).toNat).size ≤ 4611686018427387904)) then
        k ((ByteArray.mk #[33]) ++ ((ByteArray.mk #[97, 98, 99, 100]).extract y0.toNat (wi (y1 + (1 : Int))).toNat))
      else none
    else none
  else (f107 L N x0).bind fun y2 =>
  (f107 L N x0).bind fun y3 =>
  bif (slB y2 (wi (y3 + (1 : Int))) (ByteArray.mk #[97, 98, 99, 100]).size) then
    k ((ByteArray.mk #[97, 98, 99, 100]).extract y2.toNat (wi (y3 + (1 : Int))).toNat)
  else none
def f106.b {R : Type} (L N : Nat) (k : ByteArray → Option R) (x0 : Int) : Option R :=
  f106.b' L N k x0
def f106 (L N : Nat) (x0 : Int) : Option (ByteArray) := f106.b L N some x0
def f106.ent (L N : Nat) := entRo [i64] (.one .str) fun d => f106 L N d.1
noncomputable def E106 (L N : Nat) : Env := { P := Try.prog, ty := tyOf, Φ := (Φ107 L N), inl := inlT, live := lives, liveX := livesX, L := L, dp := none, prom := promT, heal := healT, ren := renT }
theorem f106.b_eq {R : Type} (L N : Nat) (κ : AV → Option R) (x0 : Int) :
    evBody (E106 L N) (evCallI (E106 L N) 1 2000) 1000 106 Try.f106 [(.tv i64 x0)] [] [] (finC (.one .str) κ)
    = f106.b L N (fun a0 => κ (.tv .str a0)) x0 := by kernel_rfl
theorem f106.ok (L N : Nat) (hΦ : TellsOk Try.prog ((Φ107 L N))) : EntOk Try.prog 106 (f106.ent L N) := entRo_ok (E := (E106 L N)) (dep := 1000) (f := Try.f106) (sound_of hΦ) okP (callI_sound (sound_of hΦ) okP 1 2000) rfl rfl fun d _ hy => (f106.b_eq L N (unR (.one .str)) d.1).trans (Eq.trans (b := f106.b L N some d.1) (by kernel_rfl) hy)
def Φ106 (L N : Nat) : Tells := (addT (Φ107 L N) 106 (f106.ent L N))
theorem Φ106_ok (L N : Nat) : TellsOk Try.prog (Φ106 L N) := addT_ok (Φ107_ok L N) (f106.ok L N (Φ107_ok L N))
def f89.s0' {R : Type} (L N : Nat) (self89 : Tree → Option (ByteArray)) (k0_e1 : ByteArray → Option R) (rec0 : ByteArray → Int → Int → Int → LT → Option R) (s12 : ByteArray) (s13 : Int) (s14 : Int) (s15 : Int) (s16 : LT) : Option R :=
  bif (decide (s13 < (s16.length : Int))) then
    bif (decide (s12.size + (ByteArray.mk #[32]).size ≤ 4611686018427387904)) then
      bif (decide (0 ≤ s13) && decide (s13 < (s16.length : Int))) then
        (self89 (listAt s16 (Ty.dflt (.st 1)) s13.toNat)).bind fun y18 =>
        bif (decide ((s12 ++ (ByteArray.mk #[32])).size + y18.size ≤ 4611686018427387904)) then
          rec0 ((s12 ++ (ByteArray.mk #[32])) ++ y18) (wi (s13 + (1 : Int))) s14 s15 s16
        else none
      else none
    else none
  else k0_e1 s12
def f89.s0 {R : Type} (L N : Nat) (self89 : Tree → Option (ByteArray)) (k0_e1 : ByteArray → Option R) (rec0 : ByteArray → Int → Int → Int → LT → Option R) (s12 : ByteArray) (s13 : Int) (s14 : Int) (s15 : Int) (s16 : LT) : Option R :=
  f89.s0' L N self89 k0_e1 rec0 s12 s13 s14 s15 s16
def f89.l0 {R : Type} (L N : Nat) (self89 : Tree → Option (ByteArray)) (k0_e1 : ByteArray → Option R) : Nat → ByteArray → Int → Int → Int → LT → Option R
  | 0, _, _, _, _, _ => none
  | n + 1, s12, s13, s14, s15, s16 => f89.s0 L N self89 k0_e1 (f89.l0 L N self89 k0_e1 n) s12 s13 s14 s15 s16
def f89.T0 (s12 : ByteArray) (s13 : Int) (s14 : Int) (s15 : Int) (s16 : LT) : T := mkT 58 [(1, (.ptr 1001 0)), (3, (.tv .str s12)), (4, (.tv i64 s13))]
def f89.H0 (s12 : ByteArray) (s13 : Int) (s14 : Int) (s15 : Int) (s16 : LT) : H := [(1001, (.box [(.tv i64 s14), (.tv i64 s15), (.tv (.sl (.st 1)) s16)]))]
def f89.T0_e1 (z17 : ByteArray) : T := mkT 58 [(3, (.tv .str z17))]
def f89.H0_e1 (z17 : ByteArray) : H := []
def f89.p0_e1' {R : Type} (L N : Nat) (self89 : Tree → Option (ByteArray)) (k : ByteArray → Option R) (z17 : ByteArray) : Option R :=
  bif (decide (z17.size + (ByteArray.mk #[41]).size ≤ 4611686018427387904)) then
    k (z17 ++ (ByteArray.mk #[41]))
  else none
def f89.p0_e1 {R : Type} (L N : Nat) (self89 : Tree → Option (ByteArray)) (k : ByteArray → Option R) (z17 : ByteArray) : Option R :=
  f89.p0_e1' L N self89 k z17
def f89.j0' {R : Type} (L N : Nat) (self89 : Tree → Option (ByteArray)) (k : ByteArray → Option R) (w0 : ByteArray → Int → Int → Int → LT → Option R) (v8 : ByteArray) (v9 : Int) (v10 : Int) (v11 : LT) : Option R :=
  w0 v8 (0 : Int) v9 v10 v11
def f89.j1' {R : Type} (L N : Nat) (self89 : Tree → Option (ByteArray)) (k : ByteArray → Option R) (w0 : ByteArray → Int → Int → Int → LT → Option R) (v3 : ByteArray) (v4 : Int) (v5 : Int) (v6 : LT) : Option R :=
  bif (v4 == (4 : Int)) then
    bif (decide (v3.size + (ByteArray.mk #[32]).size ≤ 4611686018427387904)) then
      (f106 L N (wi (v5 + (1 : Int)))).bind fun y7 =>
      bif (decide ((v3 ++ (ByteArray.mk #[32])).size + y7.size ≤ 4611686018427387904)) then
        f89.j0' L N self89 k w0 ((v3 ++ (ByteArray.mk #[32])) ++ y7) v4 v5 v6
      else none
    else none
  else f89.j0' L N self89 k w0 v3 v4 v5 v6
def f89.b' {R : Type} (L N : Nat) (self89 : Tree → Option (ByteArray)) (k : ByteArray → Option R) (w0 : ByteArray → Int → Int → Int → LT → Option R) (x0 : Tree) : Option R :=
  bif (x0.op == (0 : Int)) then
    k (ByteArray.mk #[48])
  else bif (x0.op == (5 : Int)) then
    (f104 L N N x0.n).bind fun y0 =>
    bif (decide ((ByteArray.mk #[88]).size + y0.size ≤ 4611686018427387904)) then
      k ((ByteArray.mk #[88]) ++ y0)
    else none
  else (f105 L N).bind fun y1 =>
  bif (decide (0 ≤ x0.op) && decide (x0.op < (y1.length : Int))) then
    bif (decide ((ByteArray.mk #[40]).size + (listAt y1 ByteArray.empty x0.op.toNat).size ≤ 4611686018427387904)) then
      bif (x0.op == (1 : Int)) then
        bif (decide (((ByteArray.mk #[40]) ++ (listAt y1 ByteArray.empty x0.op.toNat)).size + (ByteArray.mk #[32]).size ≤ 4611686018427387904)) then
          (f106 L N x0.n).bind fun y2 =>
          bif (decide ((((ByteArray.mk #[40]) ++ (listAt y1 ByteArray.empty x0.op.toNat)) ++ (ByteArray.mk #[32])).size + y2.size ≤ 4611686018427387904)) then
            f89.j1' L N self89 k w0 ((((ByteArray.mk #[40]) ++ (listAt y1 ByteArray.empty x0.op.toNat)) ++ (ByteArray.mk #[32])) ++ y2) x0.op x0.n x0.parts
          else none
        else none
      else f89.j1' L N self89 k w0 ((ByteArray.mk #[40]) ++ (listAt y1 ByteArray.empty x0.op.toNat)) x0.op x0.n x0.parts
    else none
  else none
def f89.b {R : Type} (L N : Nat) (self89 : Tree → Option (ByteArray)) (k : ByteArray → Option R) (x0 : Tree) : Option R :=
  f89.b' L N self89 k (fun s12 s13 s14 s15 s16 => f89.l0 L N self89 (fun z17 => f89.p0_e1 L N self89 k z17) L s12 s13 s14 s15 s16) x0
def f89 (L N : Nat) : Nat → Tree → Option (ByteArray)
  | 0, _ => none
  | n + 1, x0 => f89.b L N (f89 L N n) some x0
def f89.ent (L N m : Nat) := entRo [(.st 1)] (.one .str) fun d => f89 L N m d.1
def Φ89s (L N m : Nat) : Tells := (addT (Φ106 L N) 89 (f89.ent L N m))
noncomputable def E89 (L N m : Nat) : Env := { P := Try.prog, ty := tyOf, Φ := Φ89s L N m, inl := inlT, live := lives, liveX := livesX, L := L, dp := none, prom := promT, heal := healT, ren := renT }
noncomputable def f89.c0 : Code := loopAt 1 (codeOf Try.f89)
def f89.X0_e1 {R : Type} (κ : KX R) := fun z17 => κ (.exit 1) (f89.T0_e1 z17) (f89.H0_e1 z17)
def f89.R0 {R : Type} (rec : KT R) := fun s12 s13 s14 s15 s16 => rec (f89.T0 s12 s13 s14 s15 s16) (f89.H0 s12 s13 s14 s15 s16)
theorem f89.s0_eq {R : Type} (L N m : Nat) (κ : KX R) (rec : KT R) (s12 : ByteArray) (s13 : Int) (s14 : Int) (s15 : Int) (s16 : LT) :
    evRd (E89 L N m) (evCallI (E89 L N m) 1 2000) 1000 89 58 1 f89.c0 κ rec (f89.T0 s12 s13 s14 s15 s16) (f89.H0 s12 s13 s14 s15 s16)
    = f89.s0 L N (f89 L N m) (f89.X0_e1 κ) (f89.R0 rec) s12 s13 s14 s15 s16 := by kernel_rfl
theorem f89.l0_eq {R : Type} (L N m : Nat) (κ : KX R) : ∀ (n : Nat) (s12 : ByteArray) (s13 : Int) (s14 : Int) (s15 : Int) (s16 : LT),
    evLp (E89 L N m) (evCallI (E89 L N m) 1 2000) 1000 89 58 1 f89.c0 κ n (f89.T0 s12 s13 s14 s15 s16) (f89.H0 s12 s13 s14 s15 s16)
    = f89.l0 L N (f89 L N m) (f89.X0_e1 κ) n s12 s13 s14 s15 s16 := by
  intro n
  induction n with
  | zero => intros; rfl
  | succ n ih =>
    intro s12 s13 s14 s15 s16
    rw [evLp_succ, f89.s0_eq]
    delta f89.R0
    simp only [ih]
    rfl
theorem f89.p0_e1_eq {R : Type} (L N m : Nat) (κ : AV → Option R) (z17 : ByteArray) :
    (contAt (E89 L N m) (evCallI (E89 L N m) 1 2000) 1000 89 58 1 (codeOf Try.f89) (finK (E89 L N m) 1000 Try.f89 (finC (.one .str) κ))) (.exit 1) (f89.T0_e1 z17) (f89.H0_e1 z17)
    = f89.p0_e1 L N (f89 L N m) (fun a0 => κ (.tv .str a0)) z17 := by kernel_rfl
theorem f89.b_eq {R : Type} (L N m : Nat) (κ : AV → Option R) (x0 : Tree) :
    evBody (E89 L N m) (evCallI (E89 L N m) 1 2000) 1000 89 Try.f89 [(.tv (.st 1) x0)] [] [] (finC (.one .str) κ)
    = f89.b L N (f89 L N m) (fun a0 => κ (.tv .str a0)) x0 := by
  refine Eq.trans (b := f89.b' L N (f89 L N m) (fun a0 => κ (.tv .str a0)) (fun s12 s13 s14 s15 s16 => evLp (E89 L N m) (evCallI (E89 L N m) 1 2000) 1000 89 58 1 f89.c0 (contAt (E89 L N m) (evCallI (E89 L N m) 1 2000) 1000 89 58 1 (codeOf Try.f89) (finK (E89 L N m) 1000 Try.f89 (finC (.one .str) κ))) L (f89.T0 s12 s13 s14 s15 s16) (f89.H0 s12 s13 s14 s15 s16)) x0) (by kernel_rfl) ?_
  unfold f89.b
  simp only [f89.l0_eq]
  delta f89.X0_e1
  simp only [f89.p0_e1_eq]
theorem f89.ok (L N m : Nat) (hΦ : TellsOk Try.prog (Φ89s L N m)) : EntOk Try.prog 89 (f89.ent L N (m + 1)) := entRo_ok (E := (E89 L N m)) (dep := 1000) (f := Try.f89) (sound_of hΦ) okP (callI_sound (sound_of hΦ) okP 1 2000) rfl rfl fun d _ hy => (f89.b_eq L N m (unR (.one .str)) d.1).trans (Eq.trans (b := f89.b L N (f89 L N m) some d.1) (by kernel_rfl) hy)
theorem Φ89s_ok (L N : Nat) : ∀ m, TellsOk Try.prog (Φ89s L N m) := by
  intro m
  induction m with
  | zero => exact (addT_ok (Φ106_ok L N) (entRo_no fun _ => rfl))
  | succ m ih => exact (addT_ok (Φ106_ok L N) (f89.ok L N m ih))
def Φ89 (L N : Nat) : Tells := (addT (Φ106 L N) 89 (f89.ent L N N))
theorem Φ89_ok (L N : Nat) : TellsOk Try.prog (Φ89 L N) := Φ89s_ok L N N
def f90.s0' {R : Type} (L N : Nat) (self90 : Tree → LT → Option (LS)) (k0_e1 : Int → Int → LT → LS → LS → LS → Option R) (rec0 : Int → Int → Int → LT → LS → LS → LS → Option R) (s4 : Int) (s5 : Int) (s6 : Int) (s7 : LT) (s8 : LS) (s9 : LS) (s10 : LS) : Option R :=
  bif (decide (s4 < (s9.length : Int))) then
    bif (decide (0 ≤ s4) && decide (s4 < (s9.length : Int))) then
      bif (decide (0 ≤ s4) && decide (s4 < (s9.length : Int))) then
        bif (decide (0 ≤ (1 : Int)) && decide ((1 : Int) < (s7.length : Int))) then
          bif (decide (s8.length + ([(Step.mk ((listAt s9 (Ty.dflt (.st 3)) s4.toNat).act) (Tree.mk (3 : Int) (0 : Int) ([(Tree.mk ((listAt s9 (Ty.dflt (.st 3)) s4.toNat).thn.op) ((listAt s9 (Ty.dflt (.st 3)) s4.toNat).thn.n) ((listAt s9 (Ty.dflt (.st 3)) s4.toNat).thn.parts)), (listAt s7 (Ty.dflt (.st 1)) (1 : Int).toNat)] : LT)))] : LS).length ≤ lim)) then
            rec0 (wi (s4 + (1 : Int))) s5 s6 s7 (s8 ++ ([(Step.mk ((listAt s9 (Ty.dflt (.st 3)) s4.toNat).act) (Tree.mk (3 : Int) (0 : Int) ([(Tree.mk ((listAt s9 (Ty.dflt (.st 3)) s4.toNat).thn.op) ((listAt s9 (Ty.dflt (.st 3)) s4.toNat).thn.n) ((listAt s9 (Ty.dflt (.st 3)) s4.toNat).thn.parts)), (listAt s7 (Ty.dflt (.st 1)) (1 : Int).toNat)] : LT)))] : LS)) s9 s10
          else none
        else none
      else none
    else none
  else k0_e1 s5 s6 s7 s8 s9 s10
def f90.s0 {R : Type} (L N : Nat) (self90 : Tree → LT → Option (LS)) (k0_e1 : Int → Int → LT → LS → LS → LS → Option R) (rec0 : Int → Int → Int → LT → LS → LS → LS → Option R) (s4 : Int) (s5 : Int) (s6 : Int) (s7 : LT) (s8 : LS) (s9 : LS) (s10 : LS) : Option R :=
  f90.s0' L N self90 k0_e1 rec0 s4 s5 s6 s7 s8 s9 s10
def f90.l0 {R : Type} (L N : Nat) (self90 : Tree → LT → Option (LS)) (k0_e1 : Int → Int → LT → LS → LS → LS → Option R) : Nat → Int → Int → Int → LT → LS → LS → LS → Option R
  | 0, _, _, _, _, _, _, _ => none
  | n + 1, s4, s5, s6, s7, s8, s9, s10 => f90.s0 L N self90 k0_e1 (f90.l0 L N self90 k0_e1 n) s4 s5 s6 s7 s8 s9 s10
def f90.T0 (s4 : Int) (s5 : Int) (s6 : Int) (s7 : LT) (s8 : LS) (s9 : LS) (s10 : LS) : T := mkT 217 [(2, (.ptr 1002 0)), (5, (.row 1014)), (6, (.row 1051)), (7, (.row 1057)), (8, (.tv i64 s4))]
def f90.H0 (s4 : Int) (s5 : Int) (s6 : Int) (s7 : LT) (s8 : LS) (s9 : LS) (s10 : LS) : H := [(1002, (.box [(.tv i64 s5), (.tv i64 s6), (.tv (.sl (.st 1)) s7)])), (1014, (.row 120 (.st 3) s8)), (1051, (.row 120 (.st 3) s9)), (1057, (.row 120 (.st 3) s10))]
def f90.T0_e1 (z11 : Int) (z12 : Int) (z13 : LT) (z14 : LS) (z15 : LS) (z16 : LS) : T := mkT 217 [(2, (.ptr 1002 0)), (5, (.row 1014)), (6, (.row 1051)), (7, (.row 1057))]
def f90.H0_e1 (z11 : Int) (z12 : Int) (z13 : LT) (z14 : LS) (z15 : LS) (z16 : LS) : H := [(1002, (.box [(.tv i64 z11), (.tv i64 z12), (.tv (.sl (.st 1)) z13)])), (1014, (.row 120 (.st 3) z14)), (1051, (.row 120 (.st 3) z15)), (1057, (.row 120 (.st 3) z16))]
def f90.s1' {R : Type} (L N : Nat) (self90 : Tree → LT → Option (LS)) (k1_e3 : LS → LS → LS → Option R) (rec1 : Int → Int → Int → LT → LS → LS → LS → Option R) (s17 : Int) (s18 : Int) (s19 : Int) (s20 : LT) (s21 : LS) (s22 : LS) (s23 : LS) : Option R :=
  bif (decide (s17 < (s23.length : Int))) then
    bif (decide (0 ≤ s17) && decide (s17 < (s23.length : Int))) then
      bif (decide (0 ≤ (0 : Int)) && decide ((0 : Int) < (s20.length : Int))) then
        bif (decide (0 ≤ s17) && decide (s17 < (s23.length : Int))) then
          bif (decide (s21.length + ([(Step.mk ((listAt s23 (Ty.dflt (.st 3)) s17.toNat).act) (Tree.mk (3 : Int) (0 : Int) ([(listAt s20 (Ty.dflt (.st 1)) (0 : Int).toNat), (Tree.mk ((listAt s23 (Ty.dflt (.st 3)) s17.toNat).thn.op) ((listAt s23 (Ty.dflt (.st 3)) s17.toNat).thn.n) ((listAt s23 (Ty.dflt (.st 3)) s17.toNat).thn.parts))] : LT)))] : LS).length ≤ lim)) then
            rec1 (wi (s17 + (1 : Int))) s18 s19 s20 (s21 ++ ([(Step.mk ((listAt s23 (Ty.dflt (.st 3)) s17.toNat).act) (Tree.mk (3 : Int) (0 : Int) ([(listAt s20 (Ty.dflt (.st 1)) (0 : Int).toNat), (Tree.mk ((listAt s23 (Ty.dflt (.st 3)) s17.toNat).thn.op) ((listAt s23 (Ty.dflt (.st 3)) s17.toNat).thn.n) ((listAt s23 (Ty.dflt (.st 3)) s17.toNat).thn.parts))] : LT)))] : LS)) s22 s23
          else none
        else none
      else none
    else none
  else k1_e3 s21 s22 s23
def f90.s1 {R : Type} (L N : Nat) (self90 : Tree → LT → Option (LS)) (k1_e3 : LS → LS → LS → Option R) (rec1 : Int → Int → Int → LT → LS → LS → LS → Option R) (s17 : Int) (s18 : Int) (s19 : Int) (s20 : LT) (s21 : LS) (s22 : LS) (s23 : LS) : Option R :=
  f90.s1' L N self90 k1_e3 rec1 s17 s18 s19 s20 s21 s22 s23
def f90.l1 {R : Type} (L N : Nat) (self90 : Tree → LT → Option (LS)) (k1_e3 : LS → LS → LS → Option R) : Nat → Int → Int → Int → LT → LS → LS → LS → Option R
  | 0, _, _, _, _, _, _, _ => none
  | n + 1, s17, s18, s19, s20, s21, s22, s23 => f90.s1 L N self90 k1_e3 (f90.l1 L N self90 k1_e3 n) s17 s18 s19 s20 s21 s22 s23
def f90.T1 (s17 : Int) (s18 : Int) (s19 : Int) (s20 : LT) (s21 : LS) (s22 : LS) (s23 : LS) : T := mkT 217 [(2, (.ptr 1002 0)), (5, (.row 1014)), (6, (.row 1051)), (7, (.row 1057)), (9, (.tv i64 s17))]
def f90.H1 (s17 : Int) (s18 : Int) (s19 : Int) (s20 : LT) (s21 : LS) (s22 : LS) (s23 : LS) : H := [(1002, (.box [(.tv i64 s18), (.tv i64 s19), (.tv (.sl (.st 1)) s20)])), (1014, (.row 120 (.st 3) s21)), (1051, (.row 120 (.st 3) s22)), (1057, (.row 120 (.st 3) s23))]
def f90.T1_e3 (z24 : LS) (z25 : LS) (z26 : LS) : T := mkT 217 [(5, (.row 1014)), (6, (.row 1051)), (7, (.row 1057))]
def f90.H1_e3 (z24 : LS) (z25 : LS) (z26 : LS) : H := [(1014, (.row 120 (.st 3) z24)), (1051, (.row 120 (.st 3) z25)), (1057, (.row 120 (.st 3) z26))]
def f90.j0' {R : Type} (L N : Nat) (self90 : Tree → LT → Option (LS)) (k3_e7 : Int → LS → LS → LS → Option R) (rec3 : Int → Int → LS → LS → LS → Option R) (v41 : Int) (v42 : Int) (v43 : Bool) (v44 : LS) (v45 : LS) (v46 : LS) : Option R :=
  bif v43 then
    bif (decide (0 ≤ v41) && decide (v41 < (v45.length : Int))) then
      bif (decide (0 ≤ v42) && decide (v42 < (v46.length : Int))) then
        bif (decide (v44.length + ([(Step.mk (0 : Int) (Tree.mk (3 : Int) (0 : Int) ([(Tree.mk ((listAt v45 (Ty.dflt (.st 3)) v41.toNat).thn.op) ((listAt v45 (Ty.dflt (.st 3)) v41.toNat).thn.n) ((listAt v45 (Ty.dflt (.st 3)) v41.toNat).thn.parts)), (Tree.mk ((listAt v46 (Ty.dflt (.st 3)) v42.toNat).thn.op) ((listAt v46 (Ty.dflt (.st 3)) v42.toNat).thn.n) ((listAt v46 (Ty.dflt (.st 3)) v42.toNat).thn.parts))] : LT)))] : LS).length ≤ lim)) then
          rec3 v41 (wi (v42 + (1 : Int))) (v44 ++ ([(Step.mk (0 : Int) (Tree.mk (3 : Int) (0 : Int) ([(Tree.mk ((listAt v45 (Ty.dflt (.st 3)) v41.toNat).thn.op) ((listAt v45 (Ty.dflt (.st 3)) v41.toNat).thn.n) ((listAt v45 (Ty.dflt (.st 3)) v41.toNat).thn.parts)), (Tree.mk ((listAt v46 (Ty.dflt (.st 3)) v42.toNat).thn.op) ((listAt v46 (Ty.dflt (.st 3)) v42.toNat).thn.n) ((listAt v46 (Ty.dflt (.st 3)) v42.toNat).thn.parts))] : LT)))] : LS)) v45 v46
        else none
      else none
    else none
  else rec3 v41 (wi (v42 + (1 : Int))) v44 v45 v46
def f90.s3' {R : Type} (L N : Nat) (self90 : Tree → LT → Option (LS)) (k3_e7 : Int → LS → LS → LS → Option R) (rec3 : Int → Int → LS → LS → LS → Option R) (s32 : Int) (s33 : Int) (s34 : LS) (s35 : LS) (s36 : LS) : Option R :=
  bif (decide (s33 < (s36.length : Int))) then
    bif (decide (0 ≤ s32) && decide (s32 < (s35.length : Int))) then
      bif ((listAt s35 (Ty.dflt (.st 3)) s32.toNat).act != (0 : Int)) then
        bif (decide (0 ≤ s32) && decide (s32 < (s35.length : Int))) then
          bif (decide (0 ≤ s33) && decide (s33 < (s36.length : Int))) then
            f90.j0' L N self90 k3_e7 rec3 s32 s33 ((listAt s35 (Ty.dflt (.st 3)) s32.toNat).act == (wi (0 - (listAt s36 (Ty.dflt (.st 3)) s33.toNat).act))) s34 s35 s36
          else none
        else none
      else f90.j0' L N self90 k3_e7 rec3 s32 s33 false s34 s35 s36
    else none
  else k3_e7 s32 s34 s35 s36
def f90.s3 {R : Type} (L N : Nat) (self90 : Tree → LT → Option (LS)) (k3_e7 : Int → LS → LS → LS → Option R) (rec3 : Int → Int → LS → LS → LS → Option R) (s32 : Int) (s33 : Int) (s34 : LS) (s35 : LS) (s36 : LS) : Option R :=
  f90.s3' L N self90 k3_e7 rec3 s32 s33 s34 s35 s36
def f90.l3 {R : Type} (L N : Nat) (self90 : Tree → LT → Option (LS)) (k3_e7 : Int → LS → LS → LS → Option R) : Nat → Int → Int → LS → LS → LS → Option R
  | 0, _, _, _, _, _ => none
  | n + 1, s32, s33, s34, s35, s36 => f90.s3 L N self90 k3_e7 (f90.l3 L N self90 k3_e7 n) s32 s33 s34 s35 s36
def f90.T3 (s32 : Int) (s33 : Int) (s34 : LS) (s35 : LS) (s36 : LS) : T := mkT 217 [(5, (.row 1014)), (6, (.row 1051)), (7, (.row 1057)), (10, (.tv i64 s32)), (11, (.tv i64 s33))]
def f90.H3 (s32 : Int) (s33 : Int) (s34 : LS) (s35 : LS) (s36 : LS) : H := [(1014, (.row 120 (.st 3) s34)), (1051, (.row 120 (.st 3) s35)), (1057, (.row 120 (.st 3) s36))]
def f90.T3_e7 (z37 : Int) (z38 : LS) (z39 : LS) (z40 : LS) : T := mkT 217 [(5, (.row 1014)), (6, (.row 1051)), (7, (.row 1057)), (10, (.tv i64 z37))]
def f90.H3_e7 (z37 : Int) (z38 : LS) (z39 : LS) (z40 : LS) : H := [(1014, (.row 120 (.st 3) z38)), (1051, (.row 120 (.st 3) z39)), (1057, (.row 120 (.st 3) z40))]
def f90.p3_e7' {R : Type} (L N : Nat) (self90 : Tree → LT → Option (LS)) (k2_e5 : LS → Option R) (rec2 : Int → LS → LS → LS → Option R) (z37 : Int) (z38 : LS) (z39 : LS) (z40 : LS) : Option R :=
  rec2 (wi (z37 + (1 : Int))) z38 z39 z40
def f90.p3_e7 {R : Type} (L N : Nat) (self90 : Tree → LT → Option (LS)) (k2_e5 : LS → Option R) (rec2 : Int → LS → LS → LS → Option R) (z37 : Int) (z38 : LS) (z39 : LS) (z40 : LS) : Option R :=
  f90.p3_e7' L N self90 k2_e5 rec2 z37 z38 z39 z40
def f90.s2' {R : Type} (L N : Nat) (self90 : Tree → LT → Option (LS)) (k2_e5 : LS → Option R) (rec2 : Int → LS → LS → LS → Option R) (w3 : Int → Int → LS → LS → LS → Option R) (s27 : Int) (s28 : LS) (s29 : LS) (s30 : LS) : Option R :=
  bif (decide (s27 < (s29.length : Int))) then
    w3 s27 (0 : Int) s28 s29 s30
  else k2_e5 s28
def f90.s2 {R : Type} (L N : Nat) (self90 : Tree → LT → Option (LS)) (k2_e5 : LS → Option R) (rec2 : Int → LS → LS → LS → Option R) (s27 : Int) (s28 : LS) (s29 : LS) (s30 : LS) : Option R :=
  f90.s2' L N self90 k2_e5 rec2 (fun s32 s33 s34 s35 s36 => f90.l3 L N self90 (fun z37 z38 z39 z40 => f90.p3_e7 L N self90 k2_e5 rec2 z37 z38 z39 z40) L s32 s33 s34 s35 s36) s27 s28 s29 s30
def f90.l2 {R : Type} (L N : Nat) (self90 : Tree → LT → Option (LS)) (k2_e5 : LS → Option R) : Nat → Int → LS → LS → LS → Option R
  | 0, _, _, _, _ => none
  | n + 1, s27, s28, s29, s30 => f90.s2 L N self90 k2_e5 (f90.l2 L N self90 k2_e5 n) s27 s28 s29 s30
def f90.T2 (s27 : Int) (s28 : LS) (s29 : LS) (s30 : LS) : T := mkT 217 [(5, (.row 1014)), (6, (.row 1051)), (7, (.row 1057)), (10, (.tv i64 s27))]
def f90.H2 (s27 : Int) (s28 : LS) (s29 : LS) (s30 : LS) : H := [(1014, (.row 120 (.st 3) s28)), (1051, (.row 120 (.st 3) s29)), (1057, (.row 120 (.st 3) s30))]
def f90.T2_e5 (z31 : LS) : T := mkT 217 [(5, (.row 1014))]
def f90.H2_e5 (z31 : LS) : H := [(1014, (.row 120 (.st 3) z31))]
def f90.p2_e5' {R : Type} (L N : Nat) (self90 : Tree → LT → Option (LS)) (k : LS → Option R) (z31 : LS) : Option R :=
  k z31
def f90.p2_e5 {R : Type} (L N : Nat) (self90 : Tree → LT → Option (LS)) (k : LS → Option R) (z31 : LS) : Option R :=
  f90.p2_e5' L N self90 k z31
def f90.p1_e3' {R : Type} (L N : Nat) (self90 : Tree → LT → Option (LS)) (k : LS → Option R) (w2 : Int → LS → LS → LS → Option R) (z24 : LS) (z25 : LS) (z26 : LS) : Option R :=
  w2 (0 : Int) z24 z25 z26
def f90.p1_e3 {R : Type} (L N : Nat) (self90 : Tree → LT → Option (LS)) (k : LS → Option R) (z24 : LS) (z25 : LS) (z26 : LS) : Option R :=
  f90.p1_e3' L N self90 k (fun s27 s28 s29 s30 => f90.l2 L N self90 (fun z31 => f90.p2_e5 L N self90 k z31) L s27 s28 s29 s30) z24 z25 z26
def f90.p0_e1' {R : Type} (L N : Nat) (self90 : Tree → LT → Option (LS)) (k : LS → Option R) (w1 : Int → Int → Int → LT → LS → LS → LS → Option R) (z11 : Int) (z12 : Int) (z13 : LT) (z14 : LS) (z15 : LS) (z16 : LS) : Option R :=
  w1 (0 : Int) z11 z12 z13 z14 z15 z16
def f90.p0_e1 {R : Type} (L N : Nat) (self90 : Tree → LT → Option (LS)) (k : LS → Option R) (z11 : Int) (z12 : Int) (z13 : LT) (z14 : LS) (z15 : LS) (z16 : LS) : Option R :=
  f90.p0_e1' L N self90 k (fun s17 s18 s19 s20 s21 s22 s23 => f90.l1 L N self90 (fun z24 z25 z26 => f90.p1_e3 L N self90 k z24 z25 z26) L s17 s18 s19 s20 s21 s22 s23) z11 z12 z13 z14 z15 z16
def f90.j1' {R : Type} (L N : Nat) (self90 : Tree → LT → Option (LS)) (k4_e9 : LS → Option R) (rec4 : Int → Int → Int → LT → LS → LS → Option R) (v61 : Int) (v62 : Bool) (v63 : Int) (v64 : Int) (v65 : LT) (v66 : LS) (v67 : LS) : Option R :=
  bif v62 then
    bif (decide (0 ≤ v61) && decide (v61 < (v67.length : Int))) then
      bif (decide (0 ≤ v61) && decide (v61 < (v67.length : Int))) then
        bif (decide (v66.length + ([(Step.mk ((listAt v67 (Ty.dflt (.st 3)) v61.toNat).act) (Tree.mk (4 : Int) v64 ([(Tree.mk ((listAt v67 (Ty.dflt (.st 3)) v61.toNat).thn.op) ((listAt v67 (Ty.dflt (.st 3)) v61.toNat).thn.n) ((listAt v67 (Ty.dflt (.st 3)) v61.toNat).thn.parts))] : LT)))] : LS).length ≤ lim)) then
          rec4 (wi (v61 + (1 : Int))) v63 v64 v65 (v66 ++ ([(Step.mk ((listAt v67 (Ty.dflt (.st 3)) v61.toNat).act) (Tree.mk (4 : Int) v64 ([(Tree.mk ((listAt v67 (Ty.dflt (.st 3)) v61.toNat).thn.op) ((listAt v67 (Ty.dflt (.st 3)) v61.toNat).thn.n) ((listAt v67 (Ty.dflt (.st 3)) v61.toNat).thn.parts))] : LT)))] : LS)) v67
        else none
      else none
    else none
  else rec4 (wi (v61 + (1 : Int))) v63 v64 v65 v66 v67
def f90.s4' {R : Type} (L N : Nat) (self90 : Tree → LT → Option (LS)) (k4_e9 : LS → Option R) (rec4 : Int → Int → Int → LT → LS → LS → Option R) (s53 : Int) (s54 : Int) (s55 : Int) (s56 : LT) (s57 : LS) (s58 : LS) : Option R :=
  bif (decide (s53 < (s58.length : Int))) then
    bif (decide (0 ≤ s53) && decide (s53 < (s58.length : Int))) then
      bif ((listAt s58 (Ty.dflt (.st 3)) s53.toNat).act == (0 : Int)) then
        f90.j1' L N self90 k4_e9 rec4 s53 true s54 s55 s56 s57 s58
      else bif (decide (0 ≤ s53) && decide (s53 < (s58.length : Int))) then
        (f107 L N ((listAt s58 (Ty.dflt (.st 3)) s53.toNat).act)).bind fun y60 =>
        f90.j1' L N self90 k4_e9 rec4 s53 (y60 != s55) s54 s55 s56 s57 s58
      else none
    else none
  else k4_e9 s57
def f90.s4 {R : Type} (L N : Nat) (self90 : Tree → LT → Option (LS)) (k4_e9 : LS → Option R) (rec4 : Int → Int → Int → LT → LS → LS → Option R) (s53 : Int) (s54 : Int) (s55 : Int) (s56 : LT) (s57 : LS) (s58 : LS) : Option R :=
  f90.s4' L N self90 k4_e9 rec4 s53 s54 s55 s56 s57 s58
def f90.l4 {R : Type} (L N : Nat) (self90 : Tree → LT → Option (LS)) (k4_e9 : LS → Option R) : Nat → Int → Int → Int → LT → LS → LS → Option R
  | 0, _, _, _, _, _, _ => none
  | n + 1, s53, s54, s55, s56, s57, s58 => f90.s4 L N self90 k4_e9 (f90.l4 L N self90 k4_e9 n) s53 s54 s55 s56 s57 s58
def f90.T4 (s53 : Int) (s54 : Int) (s55 : Int) (s56 : LT) (s57 : LS) (s58 : LS) : T := mkT 217 [(2, (.ptr 1002 0)), (5, (.row 1014)), (12, (.row 1165)), (13, (.tv i64 s53))]
def f90.H4 (s53 : Int) (s54 : Int) (s55 : Int) (s56 : LT) (s57 : LS) (s58 : LS) : H := [(1002, (.box [(.tv i64 s54), (.tv i64 s55), (.tv (.sl (.st 1)) s56)])), (1014, (.row 120 (.st 3) s57)), (1165, (.row 120 (.st 3) s58))]
def f90.T4_e9 (z59 : LS) : T := mkT 217 [(5, (.row 1014))]
def f90.H4_e9 (z59 : LS) : H := [(1014, (.row 120 (.st 3) z59))]
def f90.p4_e9' {R : Type} (L N : Nat) (self90 : Tree → LT → Option (LS)) (k : LS → Option R) (z59 : LS) : Option R :=
  k z59
def f90.p4_e9 {R : Type} (L N : Nat) (self90 : Tree → LT → Option (LS)) (k : LS → Option R) (z59 : LS) : Option R :=
  f90.p4_e9' L N self90 k z59
def f90.b' {R : Type} (L N : Nat) (self90 : Tree → LT → Option (LS)) (k : LS → Option R) (w0 : Int → Int → Int → LT → LS → LS → LS → Option R) (w4 : Int → Int → Int → LT → LS → LS → Option R) (x0 : Tree) (x1 : LT) : Option R :=
  bif (x0.op == (1 : Int)) then
    bif (decide (0 ≤ (0 : Int)) && decide ((0 : Int) < (x0.parts.length : Int))) then
      bif (decide (([] : LS).length + ([(Step.mk x0.n (Tree.mk ((listAt x0.parts (Ty.dflt (.st 1)) (0 : Int).toNat).op) ((listAt x0.parts (Ty.dflt (.st 1)) (0 : Int).toNat).n) ((listAt x0.parts (Ty.dflt (.st 1)) (0 : Int).toNat).parts)))] : LS).length ≤ lim)) then
        k (([] : LS) ++ ([(Step.mk x0.n (Tree.mk ((listAt x0.parts (Ty.dflt (.st 1)) (0 : Int).toNat).op) ((listAt x0.parts (Ty.dflt (.st 1)) (0 : Int).toNat).n) ((listAt x0.parts (Ty.dflt (.st 1)) (0 : Int).toNat).parts)))] : LS))
      else none
    else none
  else bif (x0.op == (2 : Int)) then
    bif (decide (0 ≤ (0 : Int)) && decide ((0 : Int) < (x0.parts.length : Int))) then
      (self90 (listAt x0.parts (Ty.dflt (.st 1)) (0 : Int).toNat) x1).bind fun y0 =>
      bif (decide (0 ≤ (1 : Int)) && decide ((1 : Int) < (x0.parts.length : Int))) then
        (self90 (listAt x0.parts (Ty.dflt (.st 1)) (1 : Int).toNat) x1).bind fun y1 =>
        bif (decide (y0.length + y1.length ≤ lim)) then
          k (y0 ++ y1)
        else none
      else none
    else none
  else bif (x0.op == (3 : Int)) then
    bif (decide (0 ≤ (0 : Int)) && decide ((0 : Int) < (x0.parts.length : Int))) then
      (self90 (listAt x0.parts (Ty.dflt (.st 1)) (0 : Int).toNat) x1).bind fun y2 =>
      bif (decide (0 ≤ (1 : Int)) && decide ((1 : Int) < (x0.parts.length : Int))) then
        (self90 (listAt x0.parts (Ty.dflt (.st 1)) (1 : Int).toNat) x1).bind fun y3 =>
        w0 (0 : Int) x0.op x0.n x0.parts ([] : LS) y2 y3
      else none
    else none
  else bif (x0.op == (4 : Int)) then
    bif (decide (0 ≤ (0 : Int)) && decide ((0 : Int) < (x0.parts.length : Int))) then
      (self90 (listAt x0.parts (Ty.dflt (.st 1)) (0 : Int).toNat) x1).bind fun y52 =>
      w4 (0 : Int) x0.op x0.n x0.parts ([] : LS) y52
    else none
  else bif (x0.op == (5 : Int)) then
    bif (decide (0 ≤ x0.n) && decide (x0.n < (x1.length : Int))) then
      (self90 (listAt x1 (Ty.dflt (.st 1)) x0.n.toNat) x1).bind fun y74 =>
      k y74
    else none
  else k ([] : LS)
def f90.b {R : Type} (L N : Nat) (self90 : Tree → LT → Option (LS)) (k : LS → Option R) (x0 : Tree) (x1 : LT) : Option R :=
  f90.b' L N self90 k (fun s4 s5 s6 s7 s8 s9 s10 => f90.l0 L N self90 (fun z11 z12 z13 z14 z15 z16 => f90.p0_e1 L N self90 k z11 z12 z13 z14 z15 z16) L s4 s5 s6 s7 s8 s9 s10) (fun s53 s54 s55 s56 s57 s58 => f90.l4 L N self90 (fun z59 => f90.p4_e9 L N self90 k z59) L s53 s54 s55 s56 s57 s58) x0 x1
def f90 (L N : Nat) : Nat → Tree → LT → Option (LS)
  | 0, _, _ => none
  | n + 1, x0, x1 => f90.b L N (f90 L N n) some x0 x1
def f90.ent (L N m : Nat) (args : List AV) (vw : View) (site : Nat) : Ans := match coeD [(.st 1), (.sl (.st 1))] vw args with
  | some (d, u) => ⟨LS, f90 L N m d.1 d.2.1, fun y => (.row site, u ++ [(site, some (.row 120 (.st 3) y))], [])⟩
  | none => Ans.no
def Φ90s (L N m : Nat) : Tells := (addT (Φ89 L N) 90 (f90.ent L N m))
noncomputable def E90 (L N m : Nat) : Env := { P := Try.prog, ty := tyOf, Φ := Φ90s L N m, inl := inlT, live := lives, liveX := livesX, L := L, dp := none, prom := promT, heal := healT, ren := renT }
noncomputable def f90.c0 : Code := loopAt 1 (codeOf Try.f90)
def f90.X0_e1 {R : Type} (κ : KX R) := fun z11 z12 z13 z14 z15 z16 => κ (.exit 1) (f90.T0_e1 z11 z12 z13 z14 z15 z16) (f90.H0_e1 z11 z12 z13 z14 z15 z16)
def f90.R0 {R : Type} (rec : KT R) := fun s4 s5 s6 s7 s8 s9 s10 => rec (f90.T0 s4 s5 s6 s7 s8 s9 s10) (f90.H0 s4 s5 s6 s7 s8 s9 s10)
theorem f90.s0_eq {R : Type} (L N m : Nat) (κ : KX R) (rec : KT R) (s4 : Int) (s5 : Int) (s6 : Int) (s7 : LT) (s8 : LS) (s9 : LS) (s10 : LS) :
    evRd (E90 L N m) (evCallI (E90 L N m) 1 2000) 1000 90 217 1 f90.c0 κ rec (f90.T0 s4 s5 s6 s7 s8 s9 s10) (f90.H0 s4 s5 s6 s7 s8 s9 s10)
    = f90.s0 L N (f90 L N m) (f90.X0_e1 κ) (f90.R0 rec) s4 s5 s6 s7 s8 s9 s10 := by kernel_rfl
theorem f90.l0_eq {R : Type} (L N m : Nat) (κ : KX R) : ∀ (n : Nat) (s4 : Int) (s5 : Int) (s6 : Int) (s7 : LT) (s8 : LS) (s9 : LS) (s10 : LS),
    evLp (E90 L N m) (evCallI (E90 L N m) 1 2000) 1000 90 217 1 f90.c0 κ n (f90.T0 s4 s5 s6 s7 s8 s9 s10) (f90.H0 s4 s5 s6 s7 s8 s9 s10)
    = f90.l0 L N (f90 L N m) (f90.X0_e1 κ) n s4 s5 s6 s7 s8 s9 s10 := by
  intro n
  induction n with
  | zero => intros; rfl
  | succ n ih =>
    intro s4 s5 s6 s7 s8 s9 s10
    rw [evLp_succ, f90.s0_eq]
    delta f90.R0
    simp only [ih]
    rfl
noncomputable def f90.c1 : Code := loopAt 3 (codeOf Try.f90)
def f90.X1_e3 {R : Type} (κ : KX R) := fun z24 z25 z26 => κ (.exit 3) (f90.T1_e3 z24 z25 z26) (f90.H1_e3 z24 z25 z26)
def f90.R1 {R : Type} (rec : KT R) := fun s17 s18 s19 s20 s21 s22 s23 => rec (f90.T1 s17 s18 s19 s20 s21 s22 s23) (f90.H1 s17 s18 s19 s20 s21 s22 s23)
theorem f90.s1_eq {R : Type} (L N m : Nat) (κ : KX R) (rec : KT R) (s17 : Int) (s18 : Int) (s19 : Int) (s20 : LT) (s21 : LS) (s22 : LS) (s23 : LS) :
    evRd (E90 L N m) (evCallI (E90 L N m) 1 2000) 1000 90 217 3 f90.c1 κ rec (f90.T1 s17 s18 s19 s20 s21 s22 s23) (f90.H1 s17 s18 s19 s20 s21 s22 s23)
    = f90.s1 L N (f90 L N m) (f90.X1_e3 κ) (f90.R1 rec) s17 s18 s19 s20 s21 s22 s23 := by kernel_rfl
theorem f90.l1_eq {R : Type} (L N m : Nat) (κ : KX R) : ∀ (n : Nat) (s17 : Int) (s18 : Int) (s19 : Int) (s20 : LT) (s21 : LS) (s22 : LS) (s23 : LS),
    evLp (E90 L N m) (evCallI (E90 L N m) 1 2000) 1000 90 217 3 f90.c1 κ n (f90.T1 s17 s18 s19 s20 s21 s22 s23) (f90.H1 s17 s18 s19 s20 s21 s22 s23)
    = f90.l1 L N (f90 L N m) (f90.X1_e3 κ) n s17 s18 s19 s20 s21 s22 s23 := by
  intro n
  induction n with
  | zero => intros; rfl
  | succ n ih =>
    intro s17 s18 s19 s20 s21 s22 s23
    rw [evLp_succ, f90.s1_eq]
    delta f90.R1
    simp only [ih]
    rfl
noncomputable def f90.c2 : Code := loopAt 5 (codeOf Try.f90)
noncomputable def f90.c3 : Code := loopAt 7 f90.c2
def f90.X3_e7 {R : Type} (κ : KX R) := fun z37 z38 z39 z40 => κ (.exit 7) (f90.T3_e7 z37 z38 z39 z40) (f90.H3_e7 z37 z38 z39 z40)
def f90.R3 {R : Type} (rec : KT R) := fun s32 s33 s34 s35 s36 => rec (f90.T3 s32 s33 s34 s35 s36) (f90.H3 s32 s33 s34 s35 s36)
theorem f90.s3_eq {R : Type} (L N m : Nat) (κ : KX R) (rec : KT R) (s32 : Int) (s33 : Int) (s34 : LS) (s35 : LS) (s36 : LS) :
    evRd (E90 L N m) (evCallI (E90 L N m) 1 2000) 1000 90 217 7 f90.c3 κ rec (f90.T3 s32 s33 s34 s35 s36) (f90.H3 s32 s33 s34 s35 s36)
    = f90.s3 L N (f90 L N m) (f90.X3_e7 κ) (f90.R3 rec) s32 s33 s34 s35 s36 := by kernel_rfl
theorem f90.l3_eq {R : Type} (L N m : Nat) (κ : KX R) : ∀ (n : Nat) (s32 : Int) (s33 : Int) (s34 : LS) (s35 : LS) (s36 : LS),
    evLp (E90 L N m) (evCallI (E90 L N m) 1 2000) 1000 90 217 7 f90.c3 κ n (f90.T3 s32 s33 s34 s35 s36) (f90.H3 s32 s33 s34 s35 s36)
    = f90.l3 L N (f90 L N m) (f90.X3_e7 κ) n s32 s33 s34 s35 s36 := by
  intro n
  induction n with
  | zero => intros; rfl
  | succ n ih =>
    intro s32 s33 s34 s35 s36
    rw [evLp_succ, f90.s3_eq]
    delta f90.R3
    simp only [ih]
    rfl
def f90.X2_e5 {R : Type} (κ : KX R) := fun z31 => κ (.exit 5) (f90.T2_e5 z31) (f90.H2_e5 z31)
def f90.R2 {R : Type} (rec : KT R) := fun s27 s28 s29 s30 => rec (f90.T2 s27 s28 s29 s30) (f90.H2 s27 s28 s29 s30)
theorem f90.p3_e7_eq {R : Type} (L N m : Nat) (κ : KX R) (rec : KT R) (z37 : Int) (z38 : LS) (z39 : LS) (z40 : LS) :
    (contAt (E90 L N m) (evCallI (E90 L N m) 1 2000) 1000 90 217 7 f90.c2 (rdK (E90 L N m) 1000 90 217 5 κ rec)) (.exit 7) (f90.T3_e7 z37 z38 z39 z40) (f90.H3_e7 z37 z38 z39 z40)
    = f90.p3_e7 L N (f90 L N m) (f90.X2_e5 κ) (f90.R2 rec) z37 z38 z39 z40 := by kernel_rfl
theorem f90.s2_eq {R : Type} (L N m : Nat) (κ : KX R) (rec : KT R) (s27 : Int) (s28 : LS) (s29 : LS) (s30 : LS) :
    evRd (E90 L N m) (evCallI (E90 L N m) 1 2000) 1000 90 217 5 f90.c2 κ rec (f90.T2 s27 s28 s29 s30) (f90.H2 s27 s28 s29 s30)
    = f90.s2 L N (f90 L N m) (f90.X2_e5 κ) (f90.R2 rec) s27 s28 s29 s30 := by
  refine Eq.trans (b := f90.s2' L N (f90 L N m) (f90.X2_e5 κ) (f90.R2 rec) (fun s32 s33 s34 s35 s36 => evLp (E90 L N m) (evCallI (E90 L N m) 1 2000) 1000 90 217 7 f90.c3 (contAt (E90 L N m) (evCallI (E90 L N m) 1 2000) 1000 90 217 7 f90.c2 (rdK (E90 L N m) 1000 90 217 5 κ rec)) L (f90.T3 s32 s33 s34 s35 s36) (f90.H3 s32 s33 s34 s35 s36)) s27 s28 s29 s30) (by kernel_rfl) ?_
  unfold f90.s2
  simp only [f90.l3_eq]
  delta f90.X3_e7
  simp only [f90.p3_e7_eq]
theorem f90.l2_eq {R : Type} (L N m : Nat) (κ : KX R) : ∀ (n : Nat) (s27 : Int) (s28 : LS) (s29 : LS) (s30 : LS),
    evLp (E90 L N m) (evCallI (E90 L N m) 1 2000) 1000 90 217 5 f90.c2 κ n (f90.T2 s27 s28 s29 s30) (f90.H2 s27 s28 s29 s30)
    = f90.l2 L N (f90 L N m) (f90.X2_e5 κ) n s27 s28 s29 s30 := by
  intro n
  induction n with
  | zero => intros; rfl
  | succ n ih =>
    intro s27 s28 s29 s30
    rw [evLp_succ, f90.s2_eq]
    delta f90.R2
    simp only [ih]
    rfl
theorem f90.p2_e5_eq {R : Type} (L N m : Nat) (κ : List Step → Option R) (z31 : LS) :
    (contAt (E90 L N m) (evCallI (E90 L N m) 1 2000) 1000 90 217 5 (codeOf Try.f90) (finK (E90 L N m) 1000 Try.f90 (finRow 120 (.st 3) κ))) (.exit 5) (f90.T2_e5 z31) (f90.H2_e5 z31)
    = f90.p2_e5 L N (f90 L N m) κ z31 := by kernel_rfl
theorem f90.p1_e3_eq {R : Type} (L N m : Nat) (κ : List Step → Option R) (z24 : LS) (z25 : LS) (z26 : LS) :
    (contAt (E90 L N m) (evCallI (E90 L N m) 1 2000) 1000 90 217 3 (codeOf Try.f90) (finK (E90 L N m) 1000 Try.f90 (finRow 120 (.st 3) κ))) (.exit 3) (f90.T1_e3 z24 z25 z26) (f90.H1_e3 z24 z25 z26)
    = f90.p1_e3 L N (f90 L N m) κ z24 z25 z26 := by
  refine Eq.trans (b := f90.p1_e3' L N (f90 L N m) κ (fun s27 s28 s29 s30 => evLp (E90 L N m) (evCallI (E90 L N m) 1 2000) 1000 90 217 5 f90.c2 (contAt (E90 L N m) (evCallI (E90 L N m) 1 2000) 1000 90 217 5 (codeOf Try.f90) (finK (E90 L N m) 1000 Try.f90 (finRow 120 (.st 3) κ))) L (f90.T2 s27 s28 s29 s30) (f90.H2 s27 s28 s29 s30)) z24 z25 z26) (by kernel_rfl) ?_
  unfold f90.p1_e3
  simp only [f90.l2_eq]
  delta f90.X2_e5
  simp only [f90.p2_e5_eq]
theorem f90.p0_e1_eq {R : Type} (L N m : Nat) (κ : List Step → Option R) (z11 : Int) (z12 : Int) (z13 : LT) (z14 : LS) (z15 : LS) (z16 : LS) :
    (contAt (E90 L N m) (evCallI (E90 L N m) 1 2000) 1000 90 217 1 (codeOf Try.f90) (finK (E90 L N m) 1000 Try.f90 (finRow 120 (.st 3) κ))) (.exit 1) (f90.T0_e1 z11 z12 z13 z14 z15 z16) (f90.H0_e1 z11 z12 z13 z14 z15 z16)
    = f90.p0_e1 L N (f90 L N m) κ z11 z12 z13 z14 z15 z16 := by
  refine Eq.trans (b := f90.p0_e1' L N (f90 L N m) κ (fun s17 s18 s19 s20 s21 s22 s23 => evLp (E90 L N m) (evCallI (E90 L N m) 1 2000) 1000 90 217 3 f90.c1 (contAt (E90 L N m) (evCallI (E90 L N m) 1 2000) 1000 90 217 3 (codeOf Try.f90) (finK (E90 L N m) 1000 Try.f90 (finRow 120 (.st 3) κ))) L (f90.T1 s17 s18 s19 s20 s21 s22 s23) (f90.H1 s17 s18 s19 s20 s21 s22 s23)) z11 z12 z13 z14 z15 z16) (by kernel_rfl) ?_
  unfold f90.p0_e1
  simp only [f90.l1_eq]
  delta f90.X1_e3
  simp only [f90.p1_e3_eq]
noncomputable def f90.c4 : Code := loopAt 9 (codeOf Try.f90)
def f90.X4_e9 {R : Type} (κ : KX R) := fun z59 => κ (.exit 9) (f90.T4_e9 z59) (f90.H4_e9 z59)
def f90.R4 {R : Type} (rec : KT R) := fun s53 s54 s55 s56 s57 s58 => rec (f90.T4 s53 s54 s55 s56 s57 s58) (f90.H4 s53 s54 s55 s56 s57 s58)
theorem f90.s4_eq {R : Type} (L N m : Nat) (κ : KX R) (rec : KT R) (s53 : Int) (s54 : Int) (s55 : Int) (s56 : LT) (s57 : LS) (s58 : LS) :
    evRd (E90 L N m) (evCallI (E90 L N m) 1 2000) 1000 90 217 9 f90.c4 κ rec (f90.T4 s53 s54 s55 s56 s57 s58) (f90.H4 s53 s54 s55 s56 s57 s58)
    = f90.s4 L N (f90 L N m) (f90.X4_e9 κ) (f90.R4 rec) s53 s54 s55 s56 s57 s58 := by kernel_rfl
theorem f90.l4_eq {R : Type} (L N m : Nat) (κ : KX R) : ∀ (n : Nat) (s53 : Int) (s54 : Int) (s55 : Int) (s56 : LT) (s57 : LS) (s58 : LS),
    evLp (E90 L N m) (evCallI (E90 L N m) 1 2000) 1000 90 217 9 f90.c4 κ n (f90.T4 s53 s54 s55 s56 s57 s58) (f90.H4 s53 s54 s55 s56 s57 s58)
    = f90.l4 L N (f90 L N m) (f90.X4_e9 κ) n s53 s54 s55 s56 s57 s58 := by
  intro n
  induction n with
  | zero => intros; rfl
  | succ n ih =>
    intro s53 s54 s55 s56 s57 s58
    rw [evLp_succ, f90.s4_eq]
    delta f90.R4
    simp only [ih]
    rfl
theorem f90.p4_e9_eq {R : Type} (L N m : Nat) (κ : List Step → Option R) (z59 : LS) :
    (contAt (E90 L N m) (evCallI (E90 L N m) 1 2000) 1000 90 217 9 (codeOf Try.f90) (finK (E90 L N m) 1000 Try.f90 (finRow 120 (.st 3) κ))) (.exit 9) (f90.T4_e9 z59) (f90.H4_e9 z59)
    = f90.p4_e9 L N (f90 L N m) κ z59 := by kernel_rfl
theorem f90.b_eq {R : Type} (L N m : Nat) (κ : List Step → Option R) (x0 : Tree) (x1 : LT) :
    evBody (E90 L N m) (evCallI (E90 L N m) 1 2000) 1000 90 Try.f90 [(.tv (.st 1) x0), (.tv (.sl (.st 1)) x1)] [] [] (finRow 120 (.st 3) κ)
    = f90.b L N (f90 L N m) κ x0 x1 := by
  refine Eq.trans (b := f90.b' L N (f90 L N m) κ (fun s4 s5 s6 s7 s8 s9 s10 => evLp (E90 L N m) (evCallI (E90 L N m) 1 2000) 1000 90 217 1 f90.c0 (contAt (E90 L N m) (evCallI (E90 L N m) 1 2000) 1000 90 217 1 (codeOf Try.f90) (finK (E90 L N m) 1000 Try.f90 (finRow 120 (.st 3) κ))) L (f90.T0 s4 s5 s6 s7 s8 s9 s10) (f90.H0 s4 s5 s6 s7 s8 s9 s10)) (fun s53 s54 s55 s56 s57 s58 => evLp (E90 L N m) (evCallI (E90 L N m) 1 2000) 1000 90 217 9 f90.c4 (contAt (E90 L N m) (evCallI (E90 L N m) 1 2000) 1000 90 217 9 (codeOf Try.f90) (finK (E90 L N m) 1000 Try.f90 (finRow 120 (.st 3) κ))) L (f90.T4 s53 s54 s55 s56 s57 s58) (f90.H4 s53 s54 s55 s56 s57 s58)) x0 x1) (by kernel_rfl) ?_
  unfold f90.b
  simp only [f90.l0_eq, f90.l4_eq]
  delta f90.X0_e1 f90.X4_e9
  simp only [f90.p0_e1_eq, f90.p4_e9_eq]
theorem f90.ok (L N m : Nat) (hΦ : TellsOk Try.prog (Φ90s L N m)) : EntOk Try.prog 90 (f90.ent L N (m + 1)) := by
  intro args vw site h
  unfold f90.ent
  split
  · rename_i d u ha
    intro y hy hs
    refine call_row (dep := 1000) (E := (E90 L N m)) (sound_of hΦ) okP (callI_sound (sound_of hΦ) okP 1 2000) (f := Try.f90) rfl hs ha ?_ site
    exact (f90.b_eq L N m some d.1 d.2.1).trans hy
  · intro y hy
    cases hy
theorem Φ90s_ok (L N : Nat) : ∀ m, TellsOk Try.prog (Φ90s L N m) := by
  intro m
  induction m with
  | zero => exact (addT_ok (Φ89_ok L N) (fun args vw site h => by unfold f90.ent; split <;> (intro y hy; cases hy)))
  | succ m ih => exact (addT_ok (Φ89_ok L N) (f90.ok L N m ih))
def Φ90 (L N : Nat) : Tells := (addT (Φ89 L N) 90 (f90.ent L N N))
theorem Φ90_ok (L N : Nat) : TellsOk Try.prog (Φ90 L N) := Φ90s_ok L N N
def f79.s2' {R : Type} (L N : Nat) (k2_e4 : LT → Int → Int → ByteArray → Int → LT → LY → LS → LM → LLM → Option R) (rec2 : LT → Int → Int → ByteArray → Int → LT → LY → LS → LM → LLM → Option R) (s23 : LT) (s24 : Int) (s25 : Int) (s26 : ByteArray) (s27 : Int) (s28 : LT) (s29 : LY) (s30 : LS) (s31 : LM) (s32 : LLM) : Option R :=
  bif (decide (s27 < (s29.length : Int))) then
    bif (decide (0 ≤ s27) && decide (s27 < (s29.length : Int))) then
      bif (!((listAt s29 ByteArray.empty s27.toNat).toList == s26.toList)) then
        rec2 s23 s24 s25 s26 (wi (s27 + (1 : Int))) s28 s29 s30 s31 s32
      else k2_e4 s23 s24 s25 s26 s27 s28 s29 s30 s31 s32
    else none
  else k2_e4 s23 s24 s25 s26 s27 s28 s29 s30 s31 s32
def f79.s2 {R : Type} (L N : Nat) (k2_e4 : LT → Int → Int → ByteArray → Int → LT → LY → LS → LM → LLM → Option R) (rec2 : LT → Int → Int → ByteArray → Int → LT → LY → LS → LM → LLM → Option R) (s23 : LT) (s24 : Int) (s25 : Int) (s26 : ByteArray) (s27 : Int) (s28 : LT) (s29 : LY) (s30 : LS) (s31 : LM) (s32 : LLM) : Option R :=
  f79.s2' L N k2_e4 rec2 s23 s24 s25 s26 s27 s28 s29 s30 s31 s32
def f79.l2 {R : Type} (L N : Nat) (k2_e4 : LT → Int → Int → ByteArray → Int → LT → LY → LS → LM → LLM → Option R) : Nat → LT → Int → Int → ByteArray → Int → LT → LY → LS → LM → LLM → Option R
  | 0, _, _, _, _, _, _, _, _, _, _ => none
  | n + 1, s23, s24, s25, s26, s27, s28, s29, s30, s31, s32 => f79.s2 L N k2_e4 (f79.l2 L N k2_e4 n) s23 s24 s25 s26 s27 s28 s29 s30 s31 s32
def f79.T2 (s23 : LT) (s24 : Int) (s25 : Int) (s26 : ByteArray) (s27 : Int) (s28 : LT) (s29 : LY) (s30 : LS) (s31 : LM) (s32 : LLM) : T := mkT 106 [(1, (.tv (.sl (.st 1)) s23)), (4, (.ptr 1004 0)), (6, (.row 1016)), (7, (.row 1019)), (8, (.ptr 1008 0)), (9, (.tv i64 s24)), (10, (.row 1032)), (11, (.row 1033)), (12, (.tv i64 s25)), (13, (.tv .str s26)), (14, (.tv i64 s27))]
def f79.H2 (s23 : LT) (s24 : Int) (s25 : Int) (s26 : ByteArray) (s27 : Int) (s28 : LT) (s29 : LY) (s30 : LS) (s31 : LM) (s32 : LLM) : H := [(1004, (.box [.nil])), (1008, (.box [(.row 1900)])), (1016, (.row 90 (.st 1) s28)), (1019, (.row 9 .str s29)), (1032, (.row 120 (.st 3) s30)), (1033, (.row 72 (.st 0) s31)), (1900, (.row 70 (.sl (.st 0)) s32))]
def f79.T2_e4 (z44 : LT) (z45 : Int) (z46 : Int) (z47 : ByteArray) (z48 : Int) (z49 : LT) (z50 : LY) (z51 : LS) (z52 : LM) (z53 : LLM) : T := mkT 106 [(1, (.tv (.sl (.st 1)) z44)), (4, (.ptr 1004 0)), (6, (.row 1016)), (7, (.row 1019)), (8, (.ptr 1008 0)), (9, (.tv i64 z45)), (10, (.row 1032)), (11, (.row 1033)), (12, (.tv i64 z46)), (13, (.tv .str z47)), (14, (.tv i64 z48))]
def f79.H2_e4 (z44 : LT) (z45 : Int) (z46 : Int) (z47 : ByteArray) (z48 : Int) (z49 : LT) (z50 : LY) (z51 : LS) (z52 : LM) (z53 : LLM) : H := [(1004, (.box [.nil])), (1008, (.box [(.row 1900)])), (1016, (.row 90 (.st 1) z49)), (1019, (.row 9 .str z50)), (1032, (.row 120 (.st 3) z51)), (1033, (.row 72 (.st 0) z52)), (1900, (.row 70 (.sl (.st 0)) z53))]
def f79.j1' {R : Type} (L N : Nat) (k1_e2 : LT → Int → LT → LY → LM → LLM → Option R) (k1_r : LT → Bool → Int → LT → LY → LM → LLM → Option R) (rec1 : LT → Int → Int → LT → LY → LS → LM → LLM → Option R) (v93 : LT) (v94 : Int) (v95 : Int) (v96 : Int) (v97 : LT) (v98 : LY) (v99 : LS) (v100 : LM) (v101 : LLM) : Option R :=
  bif (decide (0 ≤ v95) && decide (v95 < (v99.length : Int))) then
    bif (decide (v100.length + ([(Move.mk ((listAt v99 (Ty.dflt (.st 3)) v95.toNat).act) v96)] : LM).length ≤ lim)) then
      rec1 v93 v94 (wi (v95 + (1 : Int))) v97 v98 v99 (v100 ++ ([(Move.mk ((listAt v99 (Ty.dflt (.st 3)) v95.toNat).act) v96)] : LM)) v101
    else none
  else none
def f79.j0' {R : Type} (L N : Nat) (k1_e2 : LT → Int → LT → LY → LM → LLM → Option R) (k1_r : LT → Bool → Int → LT → LY → LM → LLM → Option R) (rec1 : LT → Int → Int → LT → LY → LS → LM → LLM → Option R) (v83 : LT) (v84 : Int) (v85 : Int) (v86 : ByteArray) (v87 : Int) (v88 : LT) (v89 : LY) (v90 : LS) (v91 : LM) (v92 : LLM) : Option R :=
  bif (decide (0 ≤ v85) && decide (v85 < (v90.length : Int))) then
    bif (decide (v88.length + ([(Tree.mk ((listAt v90 (Ty.dflt (.st 3)) v85.toNat).thn.op) ((listAt v90 (Ty.dflt (.st 3)) v85.toNat).thn.n) ((listAt v90 (Ty.dflt (.st 3)) v85.toNat).thn.parts))] : LT).length ≤ lim)) then
      bif (decide (v89.length + ([v86] : LY).length ≤ lim)) then
        f79.j1' L N k1_e2 k1_r rec1 v83 v84 v85 v87 (v88 ++ ([(Tree.mk ((listAt v90 (Ty.dflt (.st 3)) v85.toNat).thn.op) ((listAt v90 (Ty.dflt (.st 3)) v85.toNat).thn.n) ((listAt v90 (Ty.dflt (.st 3)) v85.toNat).thn.parts))] : LT)) (v89 ++ ([v86] : LY)) v90 v91 v92
      else none
    else none
  else none
def f79.p2_e4' {R : Type} (L N : Nat) (k1_e2 : LT → Int → LT → LY → LM → LLM → Option R) (k1_r : LT → Bool → Int → LT → LY → LM → LLM → Option R) (rec1 : LT → Int → Int → LT → LY → LS → LM → LLM → Option R) (z44 : LT) (z45 : Int) (z46 : Int) (z47 : ByteArray) (z48 : Int) (z49 : LT) (z50 : LY) (z51 : LS) (z52 : LM) (z53 : LLM) : Option R :=
  bif (z48 == (z50.length : Int)) then
    bif (z48 == (60 : Int)) then
      k1_r z44 false z45 z49 z50 z52 z53
    else bif (decide (0 ≤ z46) && decide (z46 < (z51.length : Int))) then
      (f91 L N N (Tree.mk ((listAt z51 (Ty.dflt (.st 3)) z46.toNat).thn.op) ((listAt z51 (Ty.dflt (.st 3)) z46.toNat).thn.n) ((listAt z51 (Ty.dflt (.st 3)) z46.toNat).thn.parts))).bind fun y64 =>
      bif (decide (y64 > (24 : Int))) then
        k1_r z44 false z45 z49 z50 z52 z53
      else f79.j0' L N k1_e2 k1_r rec1 z44 z45 z46 z47 z48 z49 z50 z51 z52 z53
    else none
  else f79.j1' L N k1_e2 k1_r rec1 z44 z45 z46 z48 z49 z50 z51 z52 z53
def f79.p2_e4 {R : Type} (L N : Nat) (k1_e2 : LT → Int → LT → LY → LM → LLM → Option R) (k1_r : LT → Bool → Int → LT → LY → LM → LLM → Option R) (rec1 : LT → Int → Int → LT → LY → LS → LM → LLM → Option R) (z44 : LT) (z45 : Int) (z46 : Int) (z47 : ByteArray) (z48 : Int) (z49 : LT) (z50 : LY) (z51 : LS) (z52 : LM) (z53 : LLM) : Option R :=
  f79.p2_e4' L N k1_e2 k1_r rec1 z44 z45 z46 z47 z48 z49 z50 z51 z52 z53
def f79.s1' {R : Type} (L N : Nat) (k1_e2 : LT → Int → LT → LY → LM → LLM → Option R) (k1_r : LT → Bool → Int → LT → LY → LM → LLM → Option R) (rec1 : LT → Int → Int → LT → LY → LS → LM → LLM → Option R) (w2 : LT → Int → Int → ByteArray → Int → LT → LY → LS → LM → LLM → Option R) (s8 : LT) (s9 : Int) (s10 : Int) (s11 : LT) (s12 : LY) (s13 : LS) (s14 : LM) (s15 : LLM) : Option R :=
  bif (decide (s10 < (s13.length : Int))) then
    bif (decide (0 ≤ s10) && decide (s10 < (s13.length : Int))) then
      (f89 L N N (Tree.mk ((listAt s13 (Ty.dflt (.st 3)) s10.toNat).thn.op) ((listAt s13 (Ty.dflt (.st 3)) s10.toNat).thn.n) ((listAt s13 (Ty.dflt (.st 3)) s10.toNat).thn.parts))).bind fun y22 =>
      w2 s8 s9 s10 y22 (0 : Int) s11 s12 s13 s14 s15
    else none
  else k1_e2 s8 s9 s11 s12 s14 s15
def f79.s1 {R : Type} (L N : Nat) (k1_e2 : LT → Int → LT → LY → LM → LLM → Option R) (k1_r : LT → Bool → Int → LT → LY → LM → LLM → Option R) (rec1 : LT → Int → Int → LT → LY → LS → LM → LLM → Option R) (s8 : LT) (s9 : Int) (s10 : Int) (s11 : LT) (s12 : LY) (s13 : LS) (s14 : LM) (s15 : LLM) : Option R :=
  f79.s1' L N k1_e2 k1_r rec1 (fun s23 s24 s25 s26 s27 s28 s29 s30 s31 s32 => f79.l2 L N (fun z44 z45 z46 z47 z48 z49 z50 z51 z52 z53 => f79.p2_e4 L N k1_e2 k1_r rec1 z44 z45 z46 z47 z48 z49 z50 z51 z52 z53) L s23 s24 s25 s26 s27 s28 s29 s30 s31 s32) s8 s9 s10 s11 s12 s13 s14 s15
def f79.l1 {R : Type} (L N : Nat) (k1_e2 : LT → Int → LT → LY → LM → LLM → Option R) (k1_r : LT → Bool → Int → LT → LY → LM → LLM → Option R) : Nat → LT → Int → Int → LT → LY → LS → LM → LLM → Option R
  | 0, _, _, _, _, _, _, _, _ => none
  | n + 1, s8, s9, s10, s11, s12, s13, s14, s15 => f79.s1 L N k1_e2 k1_r (f79.l1 L N k1_e2 k1_r n) s8 s9 s10 s11 s12 s13 s14 s15
def f79.T1 (s8 : LT) (s9 : Int) (s10 : Int) (s11 : LT) (s12 : LY) (s13 : LS) (s14 : LM) (s15 : LLM) : T := mkT 106 [(1, (.tv (.sl (.st 1)) s8)), (4, (.ptr 1004 0)), (6, (.row 1016)), (7, (.row 1019)), (8, (.ptr 1008 0)), (9, (.tv i64 s9)), (10, (.row 1032)), (11, (.row 1033)), (12, (.tv i64 s10))]
def f79.H1 (s8 : LT) (s9 : Int) (s10 : Int) (s11 : LT) (s12 : LY) (s13 : LS) (s14 : LM) (s15 : LLM) : H := [(1004, (.box [.nil])), (1008, (.box [(.row 1900)])), (1016, (.row 90 (.st 1) s11)), (1019, (.row 9 .str s12)), (1032, (.row 120 (.st 3) s13)), (1033, (.row 72 (.st 0) s14)), (1900, (.row 70 (.sl (.st 0)) s15))]
def f79.T1_e2 (z16 : LT) (z17 : Int) (z18 : LT) (z19 : LY) (z20 : LM) (z21 : LLM) : T := mkT 106 [(1, (.tv (.sl (.st 1)) z16)), (4, (.ptr 1004 0)), (6, (.row 1016)), (7, (.row 1019)), (8, (.ptr 1008 0)), (9, (.tv i64 z17)), (11, (.row 1033))]
def f79.H1_e2 (z16 : LT) (z17 : Int) (z18 : LT) (z19 : LY) (z20 : LM) (z21 : LLM) : H := [(1004, (.box [.nil])), (1008, (.box [(.row 1900)])), (1016, (.row 90 (.st 1) z18)), (1019, (.row 9 .str z19)), (1033, (.row 72 (.st 0) z20)), (1900, (.row 70 (.sl (.st 0)) z21))]
def f79.T1_r (z76 : LT) (z77 : Bool) (z78 : Int) (z79 : LT) (z80 : LY) (z81 : LM) (z82 : LLM) : T := mkT 106 [(1, (.tv (.sl (.st 1)) z76)), (4, (.ptr 1004 0)), (5, (.tv .bool z77)), (6, (.row 1016)), (7, (.row 1019)), (8, (.ptr 1008 0)), (9, (.tv i64 z78)), (11, (.row 1033))]
def f79.H1_r (z76 : LT) (z77 : Bool) (z78 : Int) (z79 : LT) (z80 : LY) (z81 : LM) (z82 : LLM) : H := [(1004, (.box [.nil])), (1008, (.box [(.row 1900)])), (1016, (.row 90 (.st 1) z79)), (1019, (.row 9 .str z80)), (1033, (.row 72 (.st 0) z81)), (1900, (.row 70 (.sl (.st 0)) z82))]
def f79.p1_e2' {R : Type} (L N : Nat) (k0_e0 : LLM → Option R) (k0_r : Bool → LLM → Option R) (rec0 : LT → Int → LT → LY → LLM → Option R) (z16 : LT) (z17 : Int) (z18 : LT) (z19 : LY) (z20 : LM) (z21 : LLM) : Option R :=
  (f81 L N z20).bind fun y104 =>
  bif (decide (z21.length + ([y104] : LLM).length ≤ lim)) then
    rec0 z16 (wi (z17 + (1 : Int))) z18 z19 (z21 ++ ([y104] : LLM))
  else none
def f79.p1_e2 {R : Type} (L N : Nat) (k0_e0 : LLM → Option R) (k0_r : Bool → LLM → Option R) (rec0 : LT → Int → LT → LY → LLM → Option R) (z16 : LT) (z17 : Int) (z18 : LT) (z19 : LY) (z20 : LM) (z21 : LLM) : Option R :=
  f79.p1_e2' L N k0_e0 k0_r rec0 z16 z17 z18 z19 z20 z21
def f79.p1_r' {R : Type} (L N : Nat) (k0_e0 : LLM → Option R) (k0_r : Bool → LLM → Option R) (rec0 : LT → Int → LT → LY → LLM → Option R) (z76 : LT) (z77 : Bool) (z78 : Int) (z79 : LT) (z80 : LY) (z81 : LM) (z82 : LLM) : Option R :=
  k0_r z77 z82
def f79.p1_r {R : Type} (L N : Nat) (k0_e0 : LLM → Option R) (k0_r : Bool → LLM → Option R) (rec0 : LT → Int → LT → LY → LLM → Option R) (z76 : LT) (z77 : Bool) (z78 : Int) (z79 : LT) (z80 : LY) (z81 : LM) (z82 : LLM) : Option R :=
  f79.p1_r' L N k0_e0 k0_r rec0 z76 z77 z78 z79 z80 z81 z82
def f79.s0' {R : Type} (L N : Nat) (k0_e0 : LLM → Option R) (k0_r : Bool → LLM → Option R) (rec0 : LT → Int → LT → LY → LLM → Option R) (w1 : LT → Int → Int → LT → LY → LS → LM → LLM → Option R) (s1 : LT) (s2 : Int) (s3 : LT) (s4 : LY) (s5 : LLM) : Option R :=
  bif (decide (s2 < (s3.length : Int))) then
    bif (decide (0 ≤ s2) && decide (s2 < (s3.length : Int))) then
      (f90 L N N (listAt s3 (Ty.dflt (.st 1)) s2.toNat) s1).bind fun y7 =>
      w1 s1 s2 (0 : Int) s3 s4 y7 ([] : LM) s5
    else none
  else k0_e0 s5
def f79.s0 {R : Type} (L N : Nat) (k0_e0 : LLM → Option R) (k0_r : Bool → LLM → Option R) (rec0 : LT → Int → LT → LY → LLM → Option R) (s1 : LT) (s2 : Int) (s3 : LT) (s4 : LY) (s5 : LLM) : Option R :=
  f79.s0' L N k0_e0 k0_r rec0 (fun s8 s9 s10 s11 s12 s13 s14 s15 => f79.l1 L N (fun z16 z17 z18 z19 z20 z21 => f79.p1_e2 L N k0_e0 k0_r rec0 z16 z17 z18 z19 z20 z21) (fun z76 z77 z78 z79 z80 z81 z82 => f79.p1_r L N k0_e0 k0_r rec0 z76 z77 z78 z79 z80 z81 z82) L s8 s9 s10 s11 s12 s13 s14 s15) s1 s2 s3 s4 s5
def f79.l0 {R : Type} (L N : Nat) (k0_e0 : LLM → Option R) (k0_r : Bool → LLM → Option R) : Nat → LT → Int → LT → LY → LLM → Option R
  | 0, _, _, _, _, _ => none
  | n + 1, s1, s2, s3, s4, s5 => f79.s0 L N k0_e0 k0_r (f79.l0 L N k0_e0 k0_r n) s1 s2 s3 s4 s5
def f79.T0 (s1 : LT) (s2 : Int) (s3 : LT) (s4 : LY) (s5 : LLM) : T := mkT 106 [(1, (.tv (.sl (.st 1)) s1)), (4, (.ptr 1004 0)), (6, (.row 1016)), (7, (.row 1019)), (8, (.ptr 1008 0)), (9, (.tv i64 s2))]
def f79.H0 (s1 : LT) (s2 : Int) (s3 : LT) (s4 : LY) (s5 : LLM) : H := [(1004, (.box [.nil])), (1008, (.box [(.row 1900)])), (1016, (.row 90 (.st 1) s3)), (1019, (.row 9 .str s4)), (1900, (.row 70 (.sl (.st 0)) s5))]
def f79.T0_e0 (z6 : LLM) : T := mkT 106 [(4, (.ptr 1004 0)), (8, (.ptr 1008 0))]
def f79.H0_e0 (z6 : LLM) : H := [(1004, (.box [.nil])), (1008, (.box [(.row 1900)])), (1900, (.row 70 (.sl (.st 0)) z6))]
def f79.T0_r (z102 : Bool) (z103 : LLM) : T := mkT 106 [(4, (.ptr 1004 0)), (5, (.tv .bool z102)), (8, (.ptr 1008 0))]
def f79.H0_r (z102 : Bool) (z103 : LLM) : H := [(1004, (.box [.nil])), (1008, (.box [(.row 1900)])), (1900, (.row 70 (.sl (.st 0)) z103))]
def f79.p0_e0' {R : Type} (L N : Nat) (k : Graph → Bool → Option R) (z6 : LLM) : Option R :=
  k (Graph.mk z6) true
def f79.p0_e0 {R : Type} (L N : Nat) (k : Graph → Bool → Option R) (z6 : LLM) : Option R :=
  f79.p0_e0' L N k z6
def f79.p0_r' {R : Type} (L N : Nat) (k : Graph → Bool → Option R) (z102 : Bool) (z103 : LLM) : Option R :=
  k (Graph.mk []) z102
def f79.p0_r {R : Type} (L N : Nat) (k : Graph → Bool → Option R) (z102 : Bool) (z103 : LLM) : Option R :=
  f79.p0_r' L N k z102 z103
def f79.b' {R : Type} (L N : Nat) (k : Graph → Bool → Option R) (w0 : LT → Int → LT → LY → LLM → Option R) (x0 : Tree) (x1 : LT) : Option R :=
  (f89 L N N (Tree.mk x0.op x0.n x0.parts)).bind fun y0 =>
  w0 x1 (0 : Int) ([(Tree.mk x0.op x0.n x0.parts)] : LT) ([y0] : LY) ([] : LLM)
def f79.b {R : Type} (L N : Nat) (k : Graph → Bool → Option R) (x0 : Tree) (x1 : LT) : Option R :=
  f79.b' L N k (fun s1 s2 s3 s4 s5 => f79.l0 L N (fun z6 => f79.p0_e0 L N k z6) (fun z102 z103 => f79.p0_r L N k z102 z103) L s1 s2 s3 s4 s5) x0 x1
def f79 (L N : Nat) (x0 : Tree) (x1 : LT) : Option (Graph × Bool) := f79.b L N (fun a0 a1 => some (a0, a1)) x0 x1
def f79.ent (L N : Nat) := entDa [(.st 1), (.sl (.st 1))] (.many [(.st 2), .bool]) fun d => f79 L N d.1 d.2.1
noncomputable def E79 (L N : Nat) : Env := { P := Try.prog, ty := tyOf, Φ := (Φ90 L N), inl := inlT, live := lives, liveX := livesX, L := L, dp := none, prom := promT, heal := healT, ren := renT }
noncomputable def f79.c0 : Code := loopAt 0 (codeOf Try.f79)
noncomputable def f79.c1 : Code := loopAt 2 f79.c0
noncomputable def f79.c2 : Code := loopAt 4 f79.c1
def f79.X2_e4 {R : Type} (κ : KX R) := fun z44 z45 z46 z47 z48 z49 z50 z51 z52 z53 => κ (.exit 4) (f79.T2_e4 z44 z45 z46 z47 z48 z49 z50 z51 z52 z53) (f79.H2_e4 z44 z45 z46 z47 z48 z49 z50 z51 z52 z53)
def f79.R2 {R : Type} (rec : KT R) := fun s23 s24 s25 s26 s27 s28 s29 s30 s31 s32 => rec (f79.T2 s23 s24 s25 s26 s27 s28 s29 s30 s31 s32) (f79.H2 s23 s24 s25 s26 s27 s28 s29 s30 s31 s32)
theorem f79.s2_eq {R : Type} (L N : Nat) (κ : KX R) (rec : KT R) (s23 : LT) (s24 : Int) (s25 : Int) (s26 : ByteArray) (s27 : Int) (s28 : LT) (s29 : LY) (s30 : LS) (s31 : LM) (s32 : LLM) :
    evRd (E79 L N) (evCallI (E79 L N) 1 2000) 1000 79 106 4 f79.c2 κ rec (f79.T2 s23 s24 s25 s26 s27 s28 s29 s30 s31 s32) (f79.H2 s23 s24 s25 s26 s27 s28 s29 s30 s31 s32)
    = f79.s2 L N (f79.X2_e4 κ) (f79.R2 rec) s23 s24 s25 s26 s27 s28 s29 s30 s31 s32 := by kernel_rfl
theorem f79.l2_eq {R : Type} (L N : Nat) (κ : KX R) : ∀ (n : Nat) (s23 : LT) (s24 : Int) (s25 : Int) (s26 : ByteArray) (s27 : Int) (s28 : LT) (s29 : LY) (s30 : LS) (s31 : LM) (s32 : LLM),
    evLp (E79 L N) (evCallI (E79 L N) 1 2000) 1000 79 106 4 f79.c2 κ n (f79.T2 s23 s24 s25 s26 s27 s28 s29 s30 s31 s32) (f79.H2 s23 s24 s25 s26 s27 s28 s29 s30 s31 s32)
    = f79.l2 L N (f79.X2_e4 κ) n s23 s24 s25 s26 s27 s28 s29 s30 s31 s32 := by
  intro n
  induction n with
  | zero => intros; rfl
  | succ n ih =>
    intro s23 s24 s25 s26 s27 s28 s29 s30 s31 s32
    rw [evLp_succ, f79.s2_eq]
    delta f79.R2
    simp only [ih]
    rfl
def f79.X1_e2 {R : Type} (κ : KX R) := fun z16 z17 z18 z19 z20 z21 => κ (.exit 2) (f79.T1_e2 z16 z17 z18 z19 z20 z21) (f79.H1_e2 z16 z17 z18 z19 z20 z21)
def f79.X1_r {R : Type} (κ : KX R) := fun z76 z77 z78 z79 z80 z81 z82 => κ .ret (f79.T1_r z76 z77 z78 z79 z80 z81 z82) (f79.H1_r z76 z77 z78 z79 z80 z81 z82)
def f79.R1 {R : Type} (rec : KT R) := fun s8 s9 s10 s11 s12 s13 s14 s15 => rec (f79.T1 s8 s9 s10 s11 s12 s13 s14 s15) (f79.H1 s8 s9 s10 s11 s12 s13 s14 s15)
theorem f79.p2_e4_eq {R : Type} (L N : Nat) (κ : KX R) (rec : KT R) (z44 : LT) (z45 : Int) (z46 : Int) (z47 : ByteArray) (z48 : Int) (z49 : LT) (z50 : LY) (z51 : LS) (z52 : LM) (z53 : LLM) :
    (contAt (E79 L N) (evCallI (E79 L N) 1 2000) 1000 79 106 4 f79.c1 (rdK (E79 L N) 1000 79 106 2 κ rec)) (.exit 4) (f79.T2_e4 z44 z45 z46 z47 z48 z49 z50 z51 z52 z53) (f79.H2_e4 z44 z45 z46 z47 z48 z49 z50 z51 z52 z53)
    = f79.p2_e4 L N (f79.X1_e2 κ) (f79.X1_r κ) (f79.R1 rec) z44 z45 z46 z47 z48 z49 z50 z51 z52 z53 := by kernel_rfl
theorem f79.s1_eq {R : Type} (L N : Nat) (κ : KX R) (rec : KT R) (s8 : LT) (s9 : Int) (s10 : Int) (s11 : LT) (s12 : LY) (s13 : LS) (s14 : LM) (s15 : LLM) :
    evRd (E79 L N) (evCallI (E79 L N) 1 2000) 1000 79 106 2 f79.c1 κ rec (f79.T1 s8 s9 s10 s11 s12 s13 s14 s15) (f79.H1 s8 s9 s10 s11 s12 s13 s14 s15)
    = f79.s1 L N (f79.X1_e2 κ) (f79.X1_r κ) (f79.R1 rec) s8 s9 s10 s11 s12 s13 s14 s15 := by
  refine Eq.trans (b := f79.s1' L N (f79.X1_e2 κ) (f79.X1_r κ) (f79.R1 rec) (fun s23 s24 s25 s26 s27 s28 s29 s30 s31 s32 => evLp (E79 L N) (evCallI (E79 L N) 1 2000) 1000 79 106 4 f79.c2 (contAt (E79 L N) (evCallI (E79 L N) 1 2000) 1000 79 106 4 f79.c1 (rdK (E79 L N) 1000 79 106 2 κ rec)) L (f79.T2 s23 s24 s25 s26 s27 s28 s29 s30 s31 s32) (f79.H2 s23 s24 s25 s26 s27 s28 s29 s30 s31 s32)) s8 s9 s10 s11 s12 s13 s14 s15) (by kernel_rfl) ?_
  unfold f79.s1
  simp only [f79.l2_eq]
  delta f79.X2_e4
  simp only [f79.p2_e4_eq]
theorem f79.l1_eq {R : Type} (L N : Nat) (κ : KX R) : ∀ (n : Nat) (s8 : LT) (s9 : Int) (s10 : Int) (s11 : LT) (s12 : LY) (s13 : LS) (s14 : LM) (s15 : LLM),
    evLp (E79 L N) (evCallI (E79 L N) 1 2000) 1000 79 106 2 f79.c1 κ n (f79.T1 s8 s9 s10 s11 s12 s13 s14 s15) (f79.H1 s8 s9 s10 s11 s12 s13 s14 s15)
    = f79.l1 L N (f79.X1_e2 κ) (f79.X1_r κ) n s8 s9 s10 s11 s12 s13 s14 s15 := by
  intro n
  induction n with
  | zero => intros; rfl
  | succ n ih =>
    intro s8 s9 s10 s11 s12 s13 s14 s15
    rw [evLp_succ, f79.s1_eq]
    delta f79.R1
    simp only [ih]
    rfl
def f79.X0_e0 {R : Type} (κ : KX R) := fun z6 => κ (.exit 0) (f79.T0_e0 z6) (f79.H0_e0 z6)
def f79.X0_r {R : Type} (κ : KX R) := fun z102 z103 => κ .ret (f79.T0_r z102 z103) (f79.H0_r z102 z103)
def f79.R0 {R : Type} (rec : KT R) := fun s1 s2 s3 s4 s5 => rec (f79.T0 s1 s2 s3 s4 s5) (f79.H0 s1 s2 s3 s4 s5)
theorem f79.p1_e2_eq {R : Type} (L N : Nat) (κ : KX R) (rec : KT R) (z16 : LT) (z17 : Int) (z18 : LT) (z19 : LY) (z20 : LM) (z21 : LLM) :
    (contAt (E79 L N) (evCallI (E79 L N) 1 2000) 1000 79 106 2 f79.c0 (rdK (E79 L N) 1000 79 106 0 κ rec)) (.exit 2) (f79.T1_e2 z16 z17 z18 z19 z20 z21) (f79.H1_e2 z16 z17 z18 z19 z20 z21)
    = f79.p1_e2 L N (f79.X0_e0 κ) (f79.X0_r κ) (f79.R0 rec) z16 z17 z18 z19 z20 z21 := by kernel_rfl
theorem f79.p1_r_eq {R : Type} (L N : Nat) (κ : KX R) (rec : KT R) (z76 : LT) (z77 : Bool) (z78 : Int) (z79 : LT) (z80 : LY) (z81 : LM) (z82 : LLM) :
    (contAt (E79 L N) (evCallI (E79 L N) 1 2000) 1000 79 106 2 f79.c0 (rdK (E79 L N) 1000 79 106 0 κ rec)) .ret (f79.T1_r z76 z77 z78 z79 z80 z81 z82) (f79.H1_r z76 z77 z78 z79 z80 z81 z82)
    = f79.p1_r L N (f79.X0_e0 κ) (f79.X0_r κ) (f79.R0 rec) z76 z77 z78 z79 z80 z81 z82 := by kernel_rfl
theorem f79.s0_eq {R : Type} (L N : Nat) (κ : KX R) (rec : KT R) (s1 : LT) (s2 : Int) (s3 : LT) (s4 : LY) (s5 : LLM) :
    evRd (E79 L N) (evCallI (E79 L N) 1 2000) 1000 79 106 0 f79.c0 κ rec (f79.T0 s1 s2 s3 s4 s5) (f79.H0 s1 s2 s3 s4 s5)
    = f79.s0 L N (f79.X0_e0 κ) (f79.X0_r κ) (f79.R0 rec) s1 s2 s3 s4 s5 := by
  refine Eq.trans (b := f79.s0' L N (f79.X0_e0 κ) (f79.X0_r κ) (f79.R0 rec) (fun s8 s9 s10 s11 s12 s13 s14 s15 => evLp (E79 L N) (evCallI (E79 L N) 1 2000) 1000 79 106 2 f79.c1 (contAt (E79 L N) (evCallI (E79 L N) 1 2000) 1000 79 106 2 f79.c0 (rdK (E79 L N) 1000 79 106 0 κ rec)) L (f79.T1 s8 s9 s10 s11 s12 s13 s14 s15) (f79.H1 s8 s9 s10 s11 s12 s13 s14 s15)) s1 s2 s3 s4 s5) (by kernel_rfl) ?_
  unfold f79.s0
  simp only [f79.l1_eq]
  delta f79.X1_e2 f79.X1_r
  simp only [f79.p1_e2_eq, f79.p1_r_eq]
theorem f79.l0_eq {R : Type} (L N : Nat) (κ : KX R) : ∀ (n : Nat) (s1 : LT) (s2 : Int) (s3 : LT) (s4 : LY) (s5 : LLM),
    evLp (E79 L N) (evCallI (E79 L N) 1 2000) 1000 79 106 0 f79.c0 κ n (f79.T0 s1 s2 s3 s4 s5) (f79.H0 s1 s2 s3 s4 s5)
    = f79.l0 L N (f79.X0_e0 κ) (f79.X0_r κ) n s1 s2 s3 s4 s5 := by
  intro n
  induction n with
  | zero => intros; rfl
  | succ n ih =>
    intro s1 s2 s3 s4 s5
    rw [evLp_succ, f79.s0_eq]
    delta f79.R0
    simp only [ih]
    rfl
theorem f79.p0_e0_eq {R : Type} (L N : Nat) (κ : AV → Option R) (z6 : LLM) :
    (contAt (E79 L N) (evCallI (E79 L N) 1 2000) 1000 79 106 0 (codeOf Try.f79) (finK (E79 L N) 1000 Try.f79 (finC (.many [(.st 2), .bool]) κ))) (.exit 0) (f79.T0_e0 z6) (f79.H0_e0 z6)
    = f79.p0_e0 L N (fun a0 a1 => κ (.tup [(.tv (.st 2) a0), (.tv .bool a1)])) z6 := by kernel_rfl
theorem f79.p0_r_eq {R : Type} (L N : Nat) (κ : AV → Option R) (z102 : Bool) (z103 : LLM) :
    (contAt (E79 L N) (evCallI (E79 L N) 1 2000) 1000 79 106 0 (codeOf Try.f79) (finK (E79 L N) 1000 Try.f79 (finC (.many [(.st 2), .bool]) κ))) .ret (f79.T0_r z102 z103) (f79.H0_r z102 z103)
    = f79.p0_r L N (fun a0 a1 => κ (.tup [(.tv (.st 2) a0), (.tv .bool a1)])) z102 z103 := by kernel_rfl
theorem f79.b_eq {R : Type} (L N : Nat) (κ : AV → Option R) (x0 : Tree) (x1 : LT) :
    evBody (E79 L N) (evCallI (E79 L N) 1 2000) 1000 79 Try.f79 [(.tv (.st 1) x0), (.tv (.sl (.st 1)) x1)] [] [] (finC (.many [(.st 2), .bool]) κ)
    = f79.b L N (fun a0 a1 => κ (.tup [(.tv (.st 2) a0), (.tv .bool a1)])) x0 x1 := by
  refine Eq.trans (b := f79.b' L N (fun a0 a1 => κ (.tup [(.tv (.st 2) a0), (.tv .bool a1)])) (fun s1 s2 s3 s4 s5 => evLp (E79 L N) (evCallI (E79 L N) 1 2000) 1000 79 106 0 f79.c0 (contAt (E79 L N) (evCallI (E79 L N) 1 2000) 1000 79 106 0 (codeOf Try.f79) (finK (E79 L N) 1000 Try.f79 (finC (.many [(.st 2), .bool]) κ))) L (f79.T0 s1 s2 s3 s4 s5) (f79.H0 s1 s2 s3 s4 s5)) x0 x1) (by kernel_rfl) ?_
  unfold f79.b
  simp only [f79.l0_eq]
  delta f79.X0_e0 f79.X0_r
  simp only [f79.p0_e0_eq, f79.p0_r_eq]
theorem f79.ok (L N : Nat) (hΦ : TellsOk Try.prog ((Φ90 L N))) : EntOk Try.prog 79 (f79.ent L N) := entDa_ok (E := (E79 L N)) (dep := 1000) (f := Try.f79) (sound_of hΦ) okP (callI_sound (sound_of hΦ) okP 1 2000) rfl fun d _ hy => (f79.b_eq L N (unR (.many [(.st 2), .bool])) d.1 d.2.1).trans (Eq.trans (b := f79.b L N (fun a0 a1 => some (a0, a1)) d.1 d.2.1) (by kernel_rfl) hy)
def Φ79 (L N : Nat) : Tells := (addT (Φ90 L N) 79 (f79.ent L N))
theorem Φ79_ok (L N : Nat) : TellsOk Try.prog (Φ79 L N) := addT_ok (Φ90_ok L N) (f79.ok L N (Φ90_ok L N))
def f64.b' {R : Type} (L N : Nat) (k : Graph → Bool → Option R) (x0 : Tree) (x1 : LT) : Option R :=
  (f78 L N (Tree.mk x0.op x0.n x0.parts) x1).bind fun y0 =>
  bif (!y0) then
    k (Graph.mk []) false
  else (f79 L N (Tree.mk x0.op x0.n x0.parts) x1).bind fun y1 =>
  k (Graph.mk y1.1.moves) y1.2
def f64.b {R : Type} (L N : Nat) (k : Graph → Bool → Option R) (x0 : Tree) (x1 : LT) : Option R :=
  f64.b' L N k x0 x1
def f64 (L N : Nat) (x0 : Tree) (x1 : LT) : Option (Graph × Bool) := f64.b L N (fun a0 a1 => some (a0, a1)) x0 x1
def f64.ent (L N : Nat) := entDa [(.st 1), (.sl (.st 1))] (.many [(.st 2), .bool]) fun d => f64 L N d.1 d.2.1
noncomputable def E64 (L N : Nat) : Env := { P := Try.prog, ty := tyOf, Φ := (Φ79 L N), inl := inlT, live := lives, liveX := livesX, L := L, dp := none, prom := promT, heal := healT, ren := renT }
theorem f64.b_eq {R : Type} (L N : Nat) (κ : AV → Option R) (x0 : Tree) (x1 : LT) :
    evBody (E64 L N) (evCallI (E64 L N) 1 2000) 1000 64 Try.f64 [(.tv (.st 1) x0), (.tv (.sl (.st 1)) x1)] [] [] (finC (.many [(.st 2), .bool]) κ)
    = f64.b L N (fun a0 a1 => κ (.tup [(.tv (.st 2) a0), (.tv .bool a1)])) x0 x1 := by kernel_rfl
theorem f64.ok (L N : Nat) (hΦ : TellsOk Try.prog ((Φ79 L N))) : EntOk Try.prog 64 (f64.ent L N) := entDa_ok (E := (E64 L N)) (dep := 1000) (f := Try.f64) (sound_of hΦ) okP (callI_sound (sound_of hΦ) okP 1 2000) rfl fun d _ hy => (f64.b_eq L N (unR (.many [(.st 2), .bool])) d.1 d.2.1).trans (Eq.trans (b := f64.b L N (fun a0 a1 => some (a0, a1)) d.1 d.2.1) (by kernel_rfl) hy)
def Φ64 (L N : Nat) : Tells := (addT (Φ79 L N) 64 (f64.ent L N))
theorem Φ64_ok (L N : Nat) : TellsOk Try.prog (Φ64 L N) := addT_ok (Φ79_ok L N) (f64.ok L N (Φ79_ok L N))
def f65.j0' {R : Type} (L N : Nat) (k1_e2 : Int → Bool → Int → LI → Int → LM → LLM → LLM → Option R) (rec1 : Int → Bool → Int → Int → LI → Int → LM → LLM → LLM → Option R) (v34 : Int) (v35 : Bool) (v36 : Int) (v37 : Int) (v38 : Int) (v39 : LI) (v40 : Int) (v41 : LM) (v42 : LLM) (v43 : LLM) : Option R :=
  (f62 L N v39 v40 v34).bind fun y44 =>
  bif (decide (v41.length + ([(Move.mk v38 y44.1)] : LM).length ≤ lim)) then
    rec1 v34 v35 v36 (wi (v37 - (1 : Int))) y44.2.1 y44.2.2 (v41 ++ ([(Move.mk v38 y44.1)] : LM)) v42 v43
  else none
def f65.s1' {R : Type} (L N : Nat) (k1_e2 : Int → Bool → Int → LI → Int → LM → LLM → LLM → Option R) (rec1 : Int → Bool → Int → Int → LI → Int → LM → LLM → LLM → Option R) (s15 : Int) (s16 : Bool) (s17 : Int) (s18 : Int) (s19 : LI) (s20 : Int) (s21 : LM) (s22 : LLM) (s23 : LLM) : Option R :=
  bif (decide (s18 > (0 : Int))) then
    (f62 L N s19 s20 (3 : Int)).bind fun y32 =>
    bif (!s16) then
      (f80 L N y32.2.1 y32.2.2).bind fun y33 =>
      f65.j0' L N k1_e2 rec1 s15 s16 s17 s18 y33.1 y33.2.1 y33.2.2 s21 s22 s23
    else f65.j0' L N k1_e2 rec1 s15 s16 s17 s18 y32.1 y32.2.1 y32.2.2 s21 s22 s23
  else k1_e2 s15 s16 s17 s19 s20 s21 s22 s23
def f65.s1 {R : Type} (L N : Nat) (k1_e2 : Int → Bool → Int → LI → Int → LM → LLM → LLM → Option R) (rec1 : Int → Bool → Int → Int → LI → Int → LM → LLM → LLM → Option R) (s15 : Int) (s16 : Bool) (s17 : Int) (s18 : Int) (s19 : LI) (s20 : Int) (s21 : LM) (s22 : LLM) (s23 : LLM) : Option R :=
  f65.s1' L N k1_e2 rec1 s15 s16 s17 s18 s19 s20 s21 s22 s23
def f65.l1 {R : Type} (L N : Nat) (k1_e2 : Int → Bool → Int → LI → Int → LM → LLM → LLM → Option R) : Nat → Int → Bool → Int → Int → LI → Int → LM → LLM → LLM → Option R
  | 0, _, _, _, _, _, _, _, _, _ => none
  | n + 1, s15, s16, s17, s18, s19, s20, s21, s22, s23 => f65.s1 L N k1_e2 (f65.l1 L N k1_e2 n) s15 s16 s17 s18 s19 s20 s21 s22 s23
def f65.T1 (s15 : Int) (s16 : Bool) (s17 : Int) (s18 : Int) (s19 : LI) (s20 : Int) (s21 : LM) (s22 : LLM) (s23 : LLM) : T := mkT 84 [(0, (.ptr 0 0)), (4, (.ptr 1004 0)), (5, (.ptr 1005 0)), (6, (.tv i64 s15)), (7, (.tv .bool s16)), (8, (.tv i64 s17)), (9, (.row 1025)), (10, (.tv i64 s18))] ++ [.ptr 0 0]
def f65.H1 (s15 : Int) (s16 : Bool) (s17 : Int) (s18 : Int) (s19 : LI) (s20 : Int) (s21 : LM) (s22 : LLM) (s23 : LLM) : H := [(0, (.box [(.tv (.sl (.int .u8)) s19), (.tv i64 s20)])), (1004, (.box [(.row 1900)])), (1005, (.box [(.row 1901)])), (1025, (.row 72 (.st 0) s21)), (1900, (.deep 0 (.sl (.st 0)) s22 none)), (1901, (.deep 0 (.sl (.st 0)) s23 none))]
def f65.T1_e2 (z24 : Int) (z25 : Bool) (z26 : Int) (z27 : LI) (z28 : Int) (z29 : LM) (z30 : LLM) (z31 : LLM) : T := mkT 84 [(0, (.ptr 0 0)), (4, (.ptr 1004 0)), (5, (.ptr 1005 0)), (6, (.tv i64 z24)), (7, (.tv .bool z25)), (8, (.tv i64 z26)), (9, (.row 1025))] ++ [.ptr 0 0]
def f65.H1_e2 (z24 : Int) (z25 : Bool) (z26 : Int) (z27 : LI) (z28 : Int) (z29 : LM) (z30 : LLM) (z31 : LLM) : H := [(0, (.box [(.tv (.sl (.int .u8)) z27), (.tv i64 z28)])), (1004, (.box [(.row 1900)])), (1005, (.box [(.row 1901)])), (1025, (.row 72 (.st 0) z29)), (1900, (.deep 0 (.sl (.st 0)) z30 none)), (1901, (.deep 0 (.sl (.st 0)) z31 none))]
def f65.p1_e2' {R : Type} (L N : Nat) (k0_e0 : Int → LI → Int → LLM → LLM → Option R) (rec0 : Int → Bool → Int → LI → Int → LLM → LLM → Option R) (z24 : Int) (z25 : Bool) (z26 : Int) (z27 : LI) (z28 : Int) (z29 : LM) (z30 : LLM) (z31 : LLM) : Option R :=
  (f81 L N z29).bind fun y45 =>
  bif (decide (z31.length + ([y45] : LLM).length ≤ lim)) then
    rec0 z24 z25 (wi (z26 + (1 : Int))) z27 z28 z30 (z31 ++ ([y45] : LLM))
  else none
def f65.p1_e2 {R : Type} (L N : Nat) (k0_e0 : Int → LI → Int → LLM → LLM → Option R) (rec0 : Int → Bool → Int → LI → Int → LLM → LLM → Option R) (z24 : Int) (z25 : Bool) (z26 : Int) (z27 : LI) (z28 : Int) (z29 : LM) (z30 : LLM) (z31 : LLM) : Option R :=
  f65.p1_e2' L N k0_e0 rec0 z24 z25 z26 z27 z28 z29 z30 z31
def f65.s0' {R : Type} (L N : Nat) (k0_e0 : Int → LI → Int → LLM → LLM → Option R) (rec0 : Int → Bool → Int → LI → Int → LLM → LLM → Option R) (w1 : Int → Bool → Int → Int → LI → Int → LM → LLM → LLM → Option R) (s2 : Int) (s3 : Bool) (s4 : Int) (s5 : LI) (s6 : Int) (s7 : LLM) (s8 : LLM) : Option R :=
  bif (decide (s4 < s2)) then
    (f62 L N s5 s6 (4 : Int)).bind fun y14 =>
    w1 s2 s3 s4 y14.1 y14.2.1 y14.2.2 ([] : LM) s7 s8
  else k0_e0 s2 s5 s6 s7 s8
def f65.s0 {R : Type} (L N : Nat) (k0_e0 : Int → LI → Int → LLM → LLM → Option R) (rec0 : Int → Bool → Int → LI → Int → LLM → LLM → Option R) (s2 : Int) (s3 : Bool) (s4 : Int) (s5 : LI) (s6 : Int) (s7 : LLM) (s8 : LLM) : Option R :=
  f65.s0' L N k0_e0 rec0 (fun s15 s16 s17 s18 s19 s20 s21 s22 s23 => f65.l1 L N (fun z24 z25 z26 z27 z28 z29 z30 z31 => f65.p1_e2 L N k0_e0 rec0 z24 z25 z26 z27 z28 z29 z30 z31) L s15 s16 s17 s18 s19 s20 s21 s22 s23) s2 s3 s4 s5 s6 s7 s8
def f65.l0 {R : Type} (L N : Nat) (k0_e0 : Int → LI → Int → LLM → LLM → Option R) : Nat → Int → Bool → Int → LI → Int → LLM → LLM → Option R
  | 0, _, _, _, _, _, _, _ => none
  | n + 1, s2, s3, s4, s5, s6, s7, s8 => f65.s0 L N k0_e0 (f65.l0 L N k0_e0 n) s2 s3 s4 s5 s6 s7 s8
def f65.T0 (s2 : Int) (s3 : Bool) (s4 : Int) (s5 : LI) (s6 : Int) (s7 : LLM) (s8 : LLM) : T := mkT 84 [(0, (.ptr 0 0)), (4, (.ptr 1004 0)), (5, (.ptr 1005 0)), (6, (.tv i64 s2)), (7, (.tv .bool s3)), (8, (.tv i64 s4))] ++ [.ptr 0 0]
def f65.H0 (s2 : Int) (s3 : Bool) (s4 : Int) (s5 : LI) (s6 : Int) (s7 : LLM) (s8 : LLM) : H := [(0, (.box [(.tv (.sl (.int .u8)) s5), (.tv i64 s6)])), (1004, (.box [(.row 1900)])), (1005, (.box [(.row 1901)])), (1900, (.deep 0 (.sl (.st 0)) s7 none)), (1901, (.deep 0 (.sl (.st 0)) s8 none))]
def f65.T0_e0 (z9 : Int) (z10 : LI) (z11 : Int) (z12 : LLM) (z13 : LLM) : T := mkT 84 [(0, (.ptr 0 0)), (4, (.ptr 1004 0)), (5, (.ptr 1005 0)), (6, (.tv i64 z9))] ++ [.ptr 0 0]
def f65.H0_e0 (z9 : Int) (z10 : LI) (z11 : Int) (z12 : LLM) (z13 : LLM) : H := [(0, (.box [(.tv (.sl (.int .u8)) z10), (.tv i64 z11)])), (1004, (.box [(.row 1900)])), (1005, (.box [(.row 1901)])), (1900, (.deep 0 (.sl (.st 0)) z12 none)), (1901, (.deep 0 (.sl (.st 0)) z13 none))]
def f65.p0_e0' {R : Type} (L N : Nat) (k : Graph → LI → Int → Option R) (z9 : Int) (z10 : LI) (z11 : Int) (z12 : LLM) (z13 : LLM) : Option R :=
  (f62 L N z10 z11 (30 : Int)).bind fun y46 =>
  bif (y46.1 == (0 : Int)) then
    bif (decide (0 ≤ (0 : Int)) && decide ((0 : Int) < (z13.length : Int))) then
      bif (decide ((listAt z13 [] (0 : Int).toNat).length + ([(Move.mk (9 : Int) (0 : Int))] : LM).length ≤ lim)) then
        bif (decide (0 ≤ (0 : Int)) && decide ((0 : Int) < (z13.length : Int))) then
          k (Graph.mk (z13.set ((0 : Int).toNat) ((listAt z13 [] (0 : Int).toNat) ++ ([(Move.mk (9 : Int) (0 : Int))] : LM)))) y46.2.1 y46.2.2
        else none
      else none
    else none
  else bif (y46.1 == (1 : Int)) then
    bif (decide (0 ≤ (0 : Int)) && decide ((0 : Int) < (z13.length : Int))) then
      bif (decide ((listAt z13 [] (0 : Int).toNat).length + ([(Move.mk (0 : Int) z9)] : LM).length ≤ lim)) then
        bif (decide (0 ≤ (0 : Int)) && decide ((0 : Int) < (z13.length : Int))) then
          k (Graph.mk (z13.set ((0 : Int).toNat) ((listAt z13 [] (0 : Int).toNat) ++ ([(Move.mk (0 : Int) z9)] : LM)))) y46.2.1 y46.2.2
        else none
      else none
    else none
  else bif (y46.1 == (2 : Int)) then
    k (Graph.mk []) y46.2.1 y46.2.2
  else k (Graph.mk z13) y46.2.1 y46.2.2
def f65.p0_e0 {R : Type} (L N : Nat) (k : Graph → LI → Int → Option R) (z9 : Int) (z10 : LI) (z11 : Int) (z12 : LLM) (z13 : LLM) : Option R :=
  f65.p0_e0' L N k z9 z10 z11 z12 z13
def f65.b' {R : Type} (L N : Nat) (k : Graph → LI → Int → Option R) (w0 : Int → Bool → Int → LI → Int → LLM → LLM → Option R) (c0 : LI) (c1 : Int) (x0 : Int) : Option R :=
  (f62 L N c0 c1 x0).bind fun y0 =>
  (f62 L N y0.2.1 y0.2.2 (2 : Int)).bind fun y1 =>
  w0 (wi ((1 : Int) + y0.1)) (y1.1 == (0 : Int)) (0 : Int) y1.2.1 y1.2.2 ([] : LLM) ([] : LLM)
def f65.b {R : Type} (L N : Nat) (k : Graph → LI → Int → Option R) (c0 : LI) (c1 : Int) (x0 : Int) : Option R :=
  f65.b' L N k (fun s2 s3 s4 s5 s6 s7 s8 => f65.l0 L N (fun z9 z10 z11 z12 z13 => f65.p0_e0 L N k z9 z10 z11 z12 z13) L s2 s3 s4 s5 s6 s7 s8) c0 c1 x0
def f65 (L N : Nat) (c0 : LI) (c1 : Int) (x0 : Int) : Option (Graph × LI × Int) := f65.b L N (fun a0 a1 a2 => some (a0, a1, a2)) c0 c1 x0
def f65.ent (L N : Nat) (args : List AV) (vw : View) (site : Nat) : Ans := match boxD [(.sl (.int .u8)), i64] [i64] vw args with
  | some (o, d0, d, u) => ⟨Graph × LI × Int, f65 L N d0.1 d0.2.1 d.1, fun y => ((.tv (.st 2) y.1), u ++ [(o, some (.box [(.tv (.sl (.int .u8)) y.2.1), (.tv i64 y.2.2)]))], [])⟩
  | none => Ans.no
noncomputable def E65 (L N : Nat) : Env := { P := Try.prog, ty := tyOf, Φ := (Φ64 L N), inl := inlT, live := lives, liveX := livesX, L := L, dp := (some 0), prom := promT, heal := healT, ren := renT, fresh := fun s => Nat.beq s 1065 || Nat.beq s 1078 }
noncomputable def f65.c0 : Code := loopAt 0 (codeOf Try.f65)
noncomputable def f65.c1 : Code := loopAt 2 f65.c0
def f65.X1_e2 {R : Type} (κ : KX R) := fun z24 z25 z26 z27 z28 z29 z30 z31 => κ (.exit 2) (f65.T1_e2 z24 z25 z26 z27 z28 z29 z30 z31) (f65.H1_e2 z24 z25 z26 z27 z28 z29 z30 z31)
def f65.R1 {R : Type} (rec : KT R) := fun s15 s16 s17 s18 s19 s20 s21 s22 s23 => rec (f65.T1 s15 s16 s17 s18 s19 s20 s21 s22 s23) (f65.H1 s15 s16 s17 s18 s19 s20 s21 s22 s23)
theorem f65.s1_eq {R : Type} (L N : Nat) (κ : KX R) (rec : KT R) (s15 : Int) (s16 : Bool) (s17 : Int) (s18 : Int) (s19 : LI) (s20 : Int) (s21 : LM) (s22 : LLM) (s23 : LLM) :
    evRd (E65 L N) (evCallI (E65 L N) 1 2000) 1000 65 84 2 f65.c1 κ rec (f65.T1 s15 s16 s17 s18 s19 s20 s21 s22 s23) (f65.H1 s15 s16 s17 s18 s19 s20 s21 s22 s23)
    = f65.s1 L N (f65.X1_e2 κ) (f65.R1 rec) s15 s16 s17 s18 s19 s20 s21 s22 s23 := by kernel_rfl
theorem f65.l1_eq {R : Type} (L N : Nat) (κ : KX R) : ∀ (n : Nat) (s15 : Int) (s16 : Bool) (s17 : Int) (s18 : Int) (s19 : LI) (s20 : Int) (s21 : LM) (s22 : LLM) (s23 : LLM),
    evLp (E65 L N) (evCallI (E65 L N) 1 2000) 1000 65 84 2 f65.c1 κ n (f65.T1 s15 s16 s17 s18 s19 s20 s21 s22 s23) (f65.H1 s15 s16 s17 s18 s19 s20 s21 s22 s23)
    = f65.l1 L N (f65.X1_e2 κ) n s15 s16 s17 s18 s19 s20 s21 s22 s23 := by
  intro n
  induction n with
  | zero => intros; rfl
  | succ n ih =>
    intro s15 s16 s17 s18 s19 s20 s21 s22 s23
    rw [evLp_succ, f65.s1_eq]
    delta f65.R1
    simp only [ih]
    rfl
def f65.X0_e0 {R : Type} (κ : KX R) := fun z9 z10 z11 z12 z13 => κ (.exit 0) (f65.T0_e0 z9 z10 z11 z12 z13) (f65.H0_e0 z9 z10 z11 z12 z13)
def f65.R0 {R : Type} (rec : KT R) := fun s2 s3 s4 s5 s6 s7 s8 => rec (f65.T0 s2 s3 s4 s5 s6 s7 s8) (f65.H0 s2 s3 s4 s5 s6 s7 s8)
theorem f65.p1_e2_eq {R : Type} (L N : Nat) (κ : KX R) (rec : KT R) (z24 : Int) (z25 : Bool) (z26 : Int) (z27 : LI) (z28 : Int) (z29 : LM) (z30 : LLM) (z31 : LLM) :
    (contAt (E65 L N) (evCallI (E65 L N) 1 2000) 1000 65 84 2 f65.c0 (rdK (E65 L N) 1000 65 84 0 κ rec)) (.exit 2) (f65.T1_e2 z24 z25 z26 z27 z28 z29 z30 z31) (f65.H1_e2 z24 z25 z26 z27 z28 z29 z30 z31)
    = f65.p1_e2 L N (f65.X0_e0 κ) (f65.R0 rec) z24 z25 z26 z27 z28 z29 z30 z31 := by kernel_rfl
theorem f65.s0_eq {R : Type} (L N : Nat) (κ : KX R) (rec : KT R) (s2 : Int) (s3 : Bool) (s4 : Int) (s5 : LI) (s6 : Int) (s7 : LLM) (s8 : LLM) :
    evRd (E65 L N) (evCallI (E65 L N) 1 2000) 1000 65 84 0 f65.c0 κ rec (f65.T0 s2 s3 s4 s5 s6 s7 s8) (f65.H0 s2 s3 s4 s5 s6 s7 s8)
    = f65.s0 L N (f65.X0_e0 κ) (f65.R0 rec) s2 s3 s4 s5 s6 s7 s8 := by
  refine Eq.trans (b := f65.s0' L N (f65.X0_e0 κ) (f65.R0 rec) (fun s15 s16 s17 s18 s19 s20 s21 s22 s23 => evLp (E65 L N) (evCallI (E65 L N) 1 2000) 1000 65 84 2 f65.c1 (contAt (E65 L N) (evCallI (E65 L N) 1 2000) 1000 65 84 2 f65.c0 (rdK (E65 L N) 1000 65 84 0 κ rec)) L (f65.T1 s15 s16 s17 s18 s19 s20 s21 s22 s23) (f65.H1 s15 s16 s17 s18 s19 s20 s21 s22 s23)) s2 s3 s4 s5 s6 s7 s8) (by kernel_rfl) ?_
  unfold f65.s0
  simp only [f65.l1_eq]
  delta f65.X1_e2
  simp only [f65.p1_e2_eq]
theorem f65.l0_eq {R : Type} (L N : Nat) (κ : KX R) : ∀ (n : Nat) (s2 : Int) (s3 : Bool) (s4 : Int) (s5 : LI) (s6 : Int) (s7 : LLM) (s8 : LLM),
    evLp (E65 L N) (evCallI (E65 L N) 1 2000) 1000 65 84 0 f65.c0 κ n (f65.T0 s2 s3 s4 s5 s6 s7 s8) (f65.H0 s2 s3 s4 s5 s6 s7 s8)
    = f65.l0 L N (f65.X0_e0 κ) n s2 s3 s4 s5 s6 s7 s8 := by
  intro n
  induction n with
  | zero => intros; rfl
  | succ n ih =>
    intro s2 s3 s4 s5 s6 s7 s8
    rw [evLp_succ, f65.s0_eq]
    delta f65.R0
    simp only [ih]
    rfl
theorem f65.p0_e0_eq {R : Type} (L N : Nat) (κ : AV → Dens [(.sl (.int .u8)), i64] → Option R) (z9 : Int) (z10 : LI) (z11 : Int) (z12 : LLM) (z13 : LLM) :
    (contAt (E65 L N) (evCallI (E65 L N) 1 2000) 1000 65 84 0 (codeOf Try.f65) (finK (E65 L N) 1000 Try.f65 (finM (.one (.st 2)) [(.sl (.int .u8)), i64] κ))) (.exit 0) (f65.T0_e0 z9 z10 z11 z12 z13) (f65.H0_e0 z9 z10 z11 z12 z13)
    = f65.p0_e0 L N (fun a0 a1 a2 => κ (.tv (.st 2) a0) (a1, a2, ())) z9 z10 z11 z12 z13 := by kernel_rfl
theorem f65.b_eq {R : Type} (L N : Nat) (κ : AV → Dens [(.sl (.int .u8)), i64] → Option R) (c0 : LI) (c1 : Int) (x0 : Int) :
    evBody (E65 L N) (evCallI (E65 L N) 1 2000) 1000 65 Try.f65 [(.ptr 0 0), (.tv i64 x0)] [.ptr 0 0] [(0, (.box [(.tv (.sl (.int .u8)) c0), (.tv i64 c1)]))] (finM (.one (.st 2)) [(.sl (.int .u8)), i64] κ)
    = f65.b L N (fun a0 a1 a2 => κ (.tv (.st 2) a0) (a1, a2, ())) c0 c1 x0 := by
  refine Eq.trans (b := f65.b' L N (fun a0 a1 a2 => κ (.tv (.st 2) a0) (a1, a2, ())) (fun s2 s3 s4 s5 s6 s7 s8 => evLp (E65 L N) (evCallI (E65 L N) 1 2000) 1000 65 84 0 f65.c0 (contAt (E65 L N) (evCallI (E65 L N) 1 2000) 1000 65 84 0 (codeOf Try.f65) (finK (E65 L N) 1000 Try.f65 (finM (.one (.st 2)) [(.sl (.int .u8)), i64] κ))) L (f65.T0 s2 s3 s4 s5 s6 s7 s8) (f65.H0 s2 s3 s4 s5 s6 s7 s8)) c0 c1 x0) (by kernel_rfl) ?_
  unfold f65.b
  simp only [f65.l0_eq]
  delta f65.X0_e0
  simp only [f65.p0_e0_eq]
theorem f65.ok (L N : Nat) (hΦ : TellsOk Try.prog ((Φ64 L N))) : EntOk Try.prog 65 (f65.ent L N) := by
  intro args vw site h
  unfold f65.ent
  split
  · rename_i o d0 d u ha
    intro y hy hs
    obtain ⟨rest, cs, rfl, ho, hd0, hr, hu⟩ := boxD_some ha
    refine call_box (y := y) (dep := 1000) (v' := (.tv (.st 2) y.1)) (d1 := (y.2.1, y.2.2, ())) (E := (E65 L N)) (ts := [(.sl (.int .u8)), i64]) (tr := [i64]) (rs := (.one (.st 2))) (κ := (fun v d => (unR (.one (.st 2)) v).bind fun x => some (x, d.1, d.2.1))) (sound_of hΦ) okP (callI_sound (sound_of hΦ) okP 1 2000) (f := Try.f65) rfl hs ho hd0 hr hu ?_ (fun _ _ h => by obtain ⟨x, h1, h2⟩ := unR_bind h; obtain rfl := Option.some.inj h2; exact ⟨h1, rfl⟩) site
    exact (f65.b_eq L N (fun v d => (unR (.one (.st 2)) v).bind fun x => some (x, d.1, d.2.1)) d0.1 d0.2.1 d.1).trans (Eq.trans (b := f65.b L N (fun a0 a1 a2 => some (a0, a1, a2)) d0.1 d0.2.1 d.1) (by kernel_rfl) hy)
  · intro y hy
    cases hy
def Φ65 (L N : Nat) : Tells := (addT (Φ64 L N) 65 (f65.ent L N))
theorem Φ65_ok (L N : Nat) : TellsOk Try.prog (Φ65 L N) := addT_ok (Φ64_ok L N) (f65.ok L N (Φ64_ok L N))
def f40.b' {R : Type} (L N : Nat) (k : Graph → LI → Int → Option R) (c0 : LI) (c1 : Int) : Option R :=
  (f62 L N c0 c1 (2 : Int)).bind fun y0 =>
  bif (y0.1 == (0 : Int)) then
    (f63 L N y0.2.1 y0.2.2).bind fun y1 =>
    (f64 L N (Tree.mk y1.1.op y1.1.n y1.1.parts) y1.2.1).bind fun y2 =>
    bif y2.2 then
      k (Graph.mk ((Graph.mk y2.1.moves).moves)) y1.2.2.1 y1.2.2.2
    else (f65 L N y1.2.2.1 y1.2.2.2 (6 : Int)).bind fun y6 =>
    k (Graph.mk y6.1.moves) y6.2.1 y6.2.2
  else (f65 L N y0.2.1 y0.2.2 (6 : Int)).bind fun y7 =>
  k (Graph.mk y7.1.moves) y7.2.1 y7.2.2
def f40.b {R : Type} (L N : Nat) (k : Graph → LI → Int → Option R) (c0 : LI) (c1 : Int) : Option R :=
  f40.b' L N k c0 c1
def f40 (L N : Nat) (c0 : LI) (c1 : Int) : Option (Graph × LI × Int) := f40.b L N (fun a0 a1 a2 => some (a0, a1, a2)) c0 c1
def f40.ent (L N : Nat) (args : List AV) (vw : View) (site : Nat) : Ans := match boxD [(.sl (.int .u8)), i64] [] vw args with
  | some (o, d0, d, u) => ⟨Graph × LI × Int, f40 L N d0.1 d0.2.1, fun y => ((.tv (.st 2) y.1), u ++ [(o, some (.box [(.tv (.sl (.int .u8)) y.2.1), (.tv i64 y.2.2)]))], [])⟩
  | none => Ans.no
noncomputable def E40 (L N : Nat) : Env := { P := Try.prog, ty := tyOf, Φ := (Φ65 L N), inl := inlT, live := lives, liveX := livesX, L := L, dp := none, prom := promT, heal := healT, ren := renT }
theorem f40.b_eq {R : Type} (L N : Nat) (κ : AV → Dens [(.sl (.int .u8)), i64] → Option R) (c0 : LI) (c1 : Int) :
    evBody (E40 L N) (evCallI (E40 L N) 1 2000) 1000 40 Try.f40 [(.ptr 0 0)] [.ptr 0 0] [(0, (.box [(.tv (.sl (.int .u8)) c0), (.tv i64 c1)]))] (finM (.one (.st 2)) [(.sl (.int .u8)), i64] κ)
    = f40.b L N (fun a0 a1 a2 => κ (.tv (.st 2) a0) (a1, a2, ())) c0 c1 := by kernel_rfl
theorem f40.ok (L N : Nat) (hΦ : TellsOk Try.prog ((Φ65 L N))) : EntOk Try.prog 40 (f40.ent L N) := by
  intro args vw site h
  unfold f40.ent
  split
  · rename_i o d0 d u ha
    intro y hy hs
    obtain ⟨rest, cs, rfl, ho, hd0, hr, hu⟩ := boxD_some ha
    refine call_box (y := y) (dep := 1000) (v' := (.tv (.st 2) y.1)) (d1 := (y.2.1, y.2.2, ())) (E := (E40 L N)) (ts := [(.sl (.int .u8)), i64]) (tr := []) (rs := (.one (.st 2))) (κ := (fun v d => (unR (.one (.st 2)) v).bind fun x => some (x, d.1, d.2.1))) (sound_of hΦ) okP (callI_sound (sound_of hΦ) okP 1 2000) (f := Try.f40) rfl hs ho hd0 hr hu ?_ (fun _ _ h => by obtain ⟨x, h1, h2⟩ := unR_bind h; obtain rfl := Option.some.inj h2; exact ⟨h1, rfl⟩) site
    exact (f40.b_eq L N (fun v d => (unR (.one (.st 2)) v).bind fun x => some (x, d.1, d.2.1)) d0.1 d0.2.1).trans (Eq.trans (b := f40.b L N (fun a0 a1 a2 => some (a0, a1, a2)) d0.1 d0.2.1) (by kernel_rfl) hy)
  · intro y hy
    cases hy
def Φ40 (L N : Nat) : Tells := (addT (Φ65 L N) 40 (f40.ent L N))
theorem Φ40_ok (L N : Nat) : TellsOk Try.prog (Φ40 L N) := addT_ok (Φ65_ok L N) (f40.ok L N (Φ65_ok L N))
def f41.j0' {R : Type} (L N : Nat) (k : Int → LI → Int → Option R) (v1 : Bool) (v2 : LI) (v3 : Int) (v4 : LLM) : Option R :=
  bif v1 then
    (f62 L N v2 v3 (8 : Int)).bind fun y5 =>
    k (wi (y5.1 - (2 : Int))) y5.2.1 y5.2.2
  else (f62 L N v2 v3 (v4.length : Int)).bind fun y6 =>
  k y6.1 y6.2.1 y6.2.2
def f41.b' {R : Type} (L N : Nat) (k : Int → LI → Int → Option R) (c0 : LI) (c1 : Int) (x0 : Graph) : Option R :=
  (f62 L N c0 c1 (20 : Int)).bind fun y0 =>
  bif (y0.1 == (0 : Int)) then
    f41.j0' L N k true y0.2.1 y0.2.2 x0.moves
  else f41.j0' L N k ((x0.moves.length : Int) == (0 : Int)) y0.2.1 y0.2.2 x0.moves
def f41.b {R : Type} (L N : Nat) (k : Int → LI → Int → Option R) (c0 : LI) (c1 : Int) (x0 : Graph) : Option R :=
  f41.b' L N k c0 c1 x0
def f41 (L N : Nat) (c0 : LI) (c1 : Int) (x0 : Graph) : Option (Int × LI × Int) := f41.b L N (fun a0 a1 a2 => some (a0, a1, a2)) c0 c1 x0
def f41.ent (L N : Nat) (args : List AV) (vw : View) (site : Nat) : Ans := match boxD [(.sl (.int .u8)), i64] [(.st 2)] vw args with
  | some (o, d0, d, u) => ⟨Int × LI × Int, f41 L N d0.1 d0.2.1 d.1, fun y => ((.tv i64 y.1), u ++ [(o, some (.box [(.tv (.sl (.int .u8)) y.2.1), (.tv i64 y.2.2)]))], [])⟩
  | none => Ans.no
noncomputable def E41 (L N : Nat) : Env := { P := Try.prog, ty := tyOf, Φ := (Φ40 L N), inl := inlT, live := lives, liveX := livesX, L := L, dp := none, prom := promT, heal := healT, ren := renT }
theorem f41.b_eq {R : Type} (L N : Nat) (κ : AV → Dens [(.sl (.int .u8)), i64] → Option R) (c0 : LI) (c1 : Int) (x0 : Graph) :
    evBody (E41 L N) (evCallI (E41 L N) 1 2000) 1000 41 Try.f41 [(.ptr 0 0), (.tv (.st 2) x0)] [.ptr 0 0] [(0, (.box [(.tv (.sl (.int .u8)) c0), (.tv i64 c1)]))] (finM (.one i64) [(.sl (.int .u8)), i64] κ)
    = f41.b L N (fun a0 a1 a2 => κ (.tv i64 a0) (a1, a2, ())) c0 c1 x0 := by kernel_rfl
theorem f41.ok (L N : Nat) (hΦ : TellsOk Try.prog ((Φ40 L N))) : EntOk Try.prog 41 (f41.ent L N) := by
  intro args vw site h
  unfold f41.ent
  split
  · rename_i o d0 d u ha
    intro y hy hs
    obtain ⟨rest, cs, rfl, ho, hd0, hr, hu⟩ := boxD_some ha
    refine call_box (y := y) (dep := 1000) (v' := (.tv i64 y.1)) (d1 := (y.2.1, y.2.2, ())) (E := (E41 L N)) (ts := [(.sl (.int .u8)), i64]) (tr := [(.st 2)]) (rs := (.one i64)) (κ := (fun v d => (unR (.one i64) v).bind fun x => some (x, d.1, d.2.1))) (sound_of hΦ) okP (callI_sound (sound_of hΦ) okP 1 2000) (f := Try.f41) rfl hs ho hd0 hr hu ?_ (fun _ _ h => by obtain ⟨x, h1, h2⟩ := unR_bind h; obtain rfl := Option.some.inj h2; exact ⟨h1, rfl⟩) site
    exact (f41.b_eq L N (fun v d => (unR (.one i64) v).bind fun x => some (x, d.1, d.2.1)) d0.1 d0.2.1 d.1).trans (Eq.trans (b := f41.b L N (fun a0 a1 a2 => some (a0, a1, a2)) d0.1 d0.2.1 d.1) (by kernel_rfl) hy)
  · intro y hy
    cases hy
def Φ41 (L N : Nat) : Tells := (addT (Φ40 L N) 41 (f41.ent L N))
theorem Φ41_ok (L N : Nat) : TellsOk Try.prog (Φ41 L N) := addT_ok (Φ40_ok L N) (f41.ok L N (Φ40_ok L N))
def f15.b' {R : Type} (L N : Nat) (k : Graph → Int → Int → Option R) (x0 : LI) : Option R :=
  (f39 L N x0).bind fun y0 =>
  (f40 L N y0.1 y0.2).bind fun y1 =>
  (f41 L N y1.2.1 y1.2.2 (Graph.mk y1.1.moves)).bind fun y2 =>
  (f41 L N y2.2.1 y2.2.2 (Graph.mk y1.1.moves)).bind fun y3 =>
  k (Graph.mk ((Graph.mk y1.1.moves).moves)) y2.1 y3.1
def f15.b {R : Type} (L N : Nat) (k : Graph → Int → Int → Option R) (x0 : LI) : Option R :=
  f15.b' L N k x0
def f15 (L N : Nat) (x0 : LI) : Option (Graph × Int × Int) := f15.b L N (fun a0 a1 a2 => some (a0, a1, a2)) x0
def f15.ent (L N : Nat) := entDa [(.sl (.int .u8))] (.many [(.st 2), i64, i64]) fun d => f15 L N d.1
noncomputable def E15 (L N : Nat) : Env := { P := Try.prog, ty := tyOf, Φ := (Φ41 L N), inl := inlT, live := lives, liveX := livesX, L := L, dp := none, prom := promT, heal := healT, ren := renT }
theorem f15.b_eq {R : Type} (L N : Nat) (κ : AV → Option R) (x0 : LI) :
    evBody (E15 L N) (evCallI (E15 L N) 1 2000) 1000 15 Try.f15 [(.tv (.sl (.int .u8)) x0)] [] [] (finC (.many [(.st 2), i64, i64]) κ)
    = f15.b L N (fun a0 a1 a2 => κ (.tup [(.tv (.st 2) a0), (.tv i64 a1), (.tv i64 a2)])) x0 := by kernel_rfl
theorem f15.ok (L N : Nat) (hΦ : TellsOk Try.prog ((Φ41 L N))) : EntOk Try.prog 15 (f15.ent L N) := entDa_ok (E := (E15 L N)) (dep := 1000) (f := Try.f15) (sound_of hΦ) okP (callI_sound (sound_of hΦ) okP 1 2000) rfl fun d _ hy => (f15.b_eq L N (unR (.many [(.st 2), i64, i64])) d.1).trans (Eq.trans (b := f15.b L N (fun a0 a1 a2 => some (a0, a1, a2)) d.1) (by kernel_rfl) hy)
def Φ15 (L N : Nat) : Tells := (addT (Φ41 L N) 15 (f15.ent L N))
theorem Φ15_ok (L N : Nat) : TellsOk Try.prog (Φ15 L N) := addT_ok (Φ41_ok L N) (f15.ok L N (Φ41_ok L N))
def f16.s0' {R : Type} (L N : Nat) (self16 : Tree → Tree → Option (Bool)) (k0_e0 : Option R) (k0_r : Bool → Option R) (rec0 : Int → Int → Int → LT → Int → Int → LT → Option R) (s13 : Int) (s14 : Int) (s15 : Int) (s16 : LT) (s17 : Int) (s18 : Int) (s19 : LT) : Option R :=
  bif (decide (s13 < (s16.length : Int))) then
    bif (decide (0 ≤ s13) && decide (s13 < (s16.length : Int))) then
      bif (decide (0 ≤ s13) && decide (s13 < (s19.length : Int))) then
        (self16 (listAt s16 (Ty.dflt (.st 1)) s13.toNat) (listAt s19 (Ty.dflt (.st 1)) s13.toNat)).bind fun y20 =>
        bif (!y20) then
          k0_r false
        else rec0 (wi (s13 + (1 : Int))) s14 s15 s16 s17 s18 s19
      else none
    else none
  else k0_e0
def f16.s0 {R : Type} (L N : Nat) (self16 : Tree → Tree → Option (Bool)) (k0_e0 : Option R) (k0_r : Bool → Option R) (rec0 : Int → Int → Int → LT → Int → Int → LT → Option R) (s13 : Int) (s14 : Int) (s15 : Int) (s16 : LT) (s17 : Int) (s18 : Int) (s19 : LT) : Option R :=
  f16.s0' L N self16 k0_e0 k0_r rec0 s13 s14 s15 s16 s17 s18 s19
def f16.l0 {R : Type} (L N : Nat) (self16 : Tree → Tree → Option (Bool)) (k0_e0 : Option R) (k0_r : Bool → Option R) : Nat → Int → Int → Int → LT → Int → Int → LT → Option R
  | 0, _, _, _, _, _, _, _ => none
  | n + 1, s13, s14, s15, s16, s17, s18, s19 => f16.s0 L N self16 k0_e0 k0_r (f16.l0 L N self16 k0_e0 k0_r n) s13 s14 s15 s16 s17 s18 s19
def f16.T0 (s13 : Int) (s14 : Int) (s15 : Int) (s16 : LT) (s17 : Int) (s18 : Int) (s19 : LT) : T := mkT 46 [(2, (.ptr 1002 0)), (3, (.ptr 1003 0)), (5, (.tv i64 s13))]
def f16.H0 (s13 : Int) (s14 : Int) (s15 : Int) (s16 : LT) (s17 : Int) (s18 : Int) (s19 : LT) : H := [(1002, (.box [(.tv i64 s14), (.tv i64 s15), (.tv (.sl (.st 1)) s16)])), (1003, (.box [(.tv i64 s17), (.tv i64 s18), (.tv (.sl (.st 1)) s19)]))]
def f16.T0_e0 : T := mkT 46 []
def f16.H0_e0 : H := []
def f16.T0_r (z21 : Bool) : T := mkT 46 [(4, (.tv .bool z21))]
def f16.H0_r (z21 : Bool) : H := []
def f16.p0_e0' {R : Type} (L N : Nat) (self16 : Tree → Tree → Option (Bool)) (k : Bool → Option R) : Option R :=
  k true
def f16.p0_e0 {R : Type} (L N : Nat) (self16 : Tree → Tree → Option (Bool)) (k : Bool → Option R) : Option R :=
  f16.p0_e0' L N self16 k
def f16.p0_r' {R : Type} (L N : Nat) (self16 : Tree → Tree → Option (Bool)) (k : Bool → Option R) (z21 : Bool) : Option R :=
  k z21
def f16.p0_r {R : Type} (L N : Nat) (self16 : Tree → Tree → Option (Bool)) (k : Bool → Option R) (z21 : Bool) : Option R :=
  f16.p0_r' L N self16 k z21
def f16.j0' {R : Type} (L N : Nat) (self16 : Tree → Tree → Option (Bool)) (k : Bool → Option R) (w0 : Int → Int → Int → LT → Int → Int → LT → Option R) (v7 : Int) (v8 : Int) (v9 : LT) (v10 : Int) (v11 : Int) (v12 : LT) : Option R :=
  w0 (0 : Int) v7 v8 v9 v10 v11 v12
def f16.b' {R : Type} (L N : Nat) (self16 : Tree → Tree → Option (Bool)) (k : Bool → Option R) (w0 : Int → Int → Int → LT → Int → Int → LT → Option R) (x0 : Tree) (x1 : Tree) : Option R :=
  bif (x0.op != x1.op) then
    k false
  else bif (x0.n != x1.n) then
    k false
  else bif ((x0.parts.length : Int) != (x1.parts.length : Int)) then
    k false
  else f16.j0' L N self16 k w0 x0.op x0.n x0.parts x1.op x1.n x1.parts
def f16.b {R : Type} (L N : Nat) (self16 : Tree → Tree → Option (Bool)) (k : Bool → Option R) (x0 : Tree) (x1 : Tree) : Option R :=
  f16.b' L N self16 k (fun s13 s14 s15 s16 s17 s18 s19 => f16.l0 L N self16 (f16.p0_e0 L N self16 k) (fun z21 => f16.p0_r L N self16 k z21) L s13 s14 s15 s16 s17 s18 s19) x0 x1
def f16 (L N : Nat) : Nat → Tree → Tree → Option (Bool)
  | 0, _, _ => none
  | n + 1, x0, x1 => f16.b L N (f16 L N n) some x0 x1
def f16.ent (L N m : Nat) := entRo [(.st 1), (.st 1)] (.one .bool) fun d => f16 L N m d.1 d.2.1
def Φ16s (L N m : Nat) : Tells := (addT (Φ15 L N) 16 (f16.ent L N m))
noncomputable def E16 (L N m : Nat) : Env := { P := Try.prog, ty := tyOf, Φ := Φ16s L N m, inl := inlT, live := lives, liveX := livesX, L := L, dp := none, prom := promT, heal := healT, ren := renT }
noncomputable def f16.c0 : Code := loopAt 0 (codeOf Try.f16)
def f16.X0_e0 {R : Type} (κ : KX R) := κ (.exit 0) f16.T0_e0 f16.H0_e0
def f16.X0_r {R : Type} (κ : KX R) := fun z21 => κ .ret (f16.T0_r z21) (f16.H0_r z21)
def f16.R0 {R : Type} (rec : KT R) := fun s13 s14 s15 s16 s17 s18 s19 => rec (f16.T0 s13 s14 s15 s16 s17 s18 s19) (f16.H0 s13 s14 s15 s16 s17 s18 s19)
theorem f16.s0_eq {R : Type} (L N m : Nat) (κ : KX R) (rec : KT R) (s13 : Int) (s14 : Int) (s15 : Int) (s16 : LT) (s17 : Int) (s18 : Int) (s19 : LT) :
    evRd (E16 L N m) (evCallI (E16 L N m) 1 2000) 1000 16 46 0 f16.c0 κ rec (f16.T0 s13 s14 s15 s16 s17 s18 s19) (f16.H0 s13 s14 s15 s16 s17 s18 s19)
    = f16.s0 L N (f16 L N m) (f16.X0_e0 κ) (f16.X0_r κ) (f16.R0 rec) s13 s14 s15 s16 s17 s18 s19 := by kernel_rfl
theorem f16.l0_eq {R : Type} (L N m : Nat) (κ : KX R) : ∀ (n : Nat) (s13 : Int) (s14 : Int) (s15 : Int) (s16 : LT) (s17 : Int) (s18 : Int) (s19 : LT),
    evLp (E16 L N m) (evCallI (E16 L N m) 1 2000) 1000 16 46 0 f16.c0 κ n (f16.T0 s13 s14 s15 s16 s17 s18 s19) (f16.H0 s13 s14 s15 s16 s17 s18 s19)
    = f16.l0 L N (f16 L N m) (f16.X0_e0 κ) (f16.X0_r κ) n s13 s14 s15 s16 s17 s18 s19 := by
  intro n
  induction n with
  | zero => intros; rfl
  | succ n ih =>
    intro s13 s14 s15 s16 s17 s18 s19
    rw [evLp_succ, f16.s0_eq]
    delta f16.R0
    simp only [ih]
    rfl
theorem f16.p0_e0_eq {R : Type} (L N m : Nat) (κ : AV → Option R) :
    (contAt (E16 L N m) (evCallI (E16 L N m) 1 2000) 1000 16 46 0 (codeOf Try.f16) (finK (E16 L N m) 1000 Try.f16 (finC (.one .bool) κ))) (.exit 0) f16.T0_e0 f16.H0_e0
    = f16.p0_e0 L N (f16 L N m) (fun a0 => κ (.tv .bool a0)) := by kernel_rfl
theorem f16.p0_r_eq {R : Type} (L N m : Nat) (κ : AV → Option R) (z21 : Bool) :
    (contAt (E16 L N m) (evCallI (E16 L N m) 1 2000) 1000 16 46 0 (codeOf Try.f16) (finK (E16 L N m) 1000 Try.f16 (finC (.one .bool) κ))) .ret (f16.T0_r z21) (f16.H0_r z21)
    = f16.p0_r L N (f16 L N m) (fun a0 => κ (.tv .bool a0)) z21 := by kernel_rfl
theorem f16.b_eq {R : Type} (L N m : Nat) (κ : AV → Option R) (x0 : Tree) (x1 : Tree) :
    evBody (E16 L N m) (evCallI (E16 L N m) 1 2000) 1000 16 Try.f16 [(.tv (.st 1) x0), (.tv (.st 1) x1)] [] [] (finC (.one .bool) κ)
    = f16.b L N (f16 L N m) (fun a0 => κ (.tv .bool a0)) x0 x1 := by
  refine Eq.trans (b := f16.b' L N (f16 L N m) (fun a0 => κ (.tv .bool a0)) (fun s13 s14 s15 s16 s17 s18 s19 => evLp (E16 L N m) (evCallI (E16 L N m) 1 2000) 1000 16 46 0 f16.c0 (contAt (E16 L N m) (evCallI (E16 L N m) 1 2000) 1000 16 46 0 (codeOf Try.f16) (finK (E16 L N m) 1000 Try.f16 (finC (.one .bool) κ))) L (f16.T0 s13 s14 s15 s16 s17 s18 s19) (f16.H0 s13 s14 s15 s16 s17 s18 s19)) x0 x1) (by kernel_rfl) ?_
  unfold f16.b
  simp only [f16.l0_eq]
  delta f16.X0_e0 f16.X0_r
  simp only [f16.p0_e0_eq, f16.p0_r_eq]
theorem f16.ok (L N m : Nat) (hΦ : TellsOk Try.prog (Φ16s L N m)) : EntOk Try.prog 16 (f16.ent L N (m + 1)) := entRo_ok (E := (E16 L N m)) (dep := 1000) (f := Try.f16) (sound_of hΦ) okP (callI_sound (sound_of hΦ) okP 1 2000) rfl rfl fun d _ hy => (f16.b_eq L N m (unR (.one .bool)) d.1 d.2.1).trans (Eq.trans (b := f16.b L N (f16 L N m) some d.1 d.2.1) (by kernel_rfl) hy)
theorem Φ16s_ok (L N : Nat) : ∀ m, TellsOk Try.prog (Φ16s L N m) := by
  intro m
  induction m with
  | zero => exact (addT_ok (Φ15_ok L N) (entRo_no fun _ => rfl))
  | succ m ih => exact (addT_ok (Φ15_ok L N) (f16.ok L N m ih))
def Φ16 (L N : Nat) : Tells := (addT (Φ15 L N) 16 (f16.ent L N N))
theorem Φ16_ok (L N : Nat) : TellsOk Try.prog (Φ16 L N) := Φ16s_ok L N N
def f42.b' {R : Type} (L N : Nat) (k : LI → Option R) (x0 : Graph) : Option R :=
  (f32 L N (Graph.mk x0.moves)).bind fun y0 =>
  bif (decide (0 ≤ (wi ((y0.length : Int) - (1 : Int)))) && decide ((wi ((y0.length : Int) - (1 : Int))) < (y0.length : Int))) then
    ((fclone (listAt y0 [] (wi ((y0.length : Int) - (1 : Int))).toNat))).bind fun y1 =>
    k (listAt y0 [] (wi ((y0.length : Int) - (1 : Int))).toNat)
  else none
def f42.b {R : Type} (L N : Nat) (k : LI → Option R) (x0 : Graph) : Option R :=
  f42.b' L N k x0
def f42 (L N : Nat) (x0 : Graph) : Option (LI) := f42.b L N some x0
def f42.ent (L N : Nat) (args : List AV) (vw : View) (site : Nat) : Ans := match roD [(.st 2)] vw args with
  | some d => ⟨LI, f42 L N d.1, fun y => (RN.av site .row (), [(site, some (mkO none 3 i64 y))], [])⟩
  | none => Ans.no
noncomputable def E42 (L N : Nat) : Env := { P := Try.prog, ty := tyOf, Φ := (Φ16 L N), inl := inlT, live := lives, liveX := livesX, L := L, dp := none, prom := promT, heal := healT, ren := renT }
theorem f42.b_eq {R : Type} (L N : Nat) (κ : RN.Den .row → List Int → Option R) (x0 : Graph) :
    evBody (E42 L N) (evCallI (E42 L N) 1 2000) 1000 42 Try.f42 [(.tv (.st 2) x0)] [] [] (finN .row none 3 i64 κ)
    = f42.b L N (fun a0 => κ () a0) x0 := by kernel_rfl
theorem f42.ok (L N : Nat) (hΦ : TellsOk Try.prog ((Φ16 L N))) : EntOk Try.prog 42 (f42.ent L N) := by
  intro args vw site h
  unfold f42.ent
  split
  · rename_i d ha
    intro y hy hs
    refine call_ron (y := y) (dep := 1000) (E := (E42 L N)) (ts := [(.st 2)]) (rn := .row) (q := none) (el := 3) (ty := i64) (d1 := ()) (xs := y) (κ := (fun d xs => some xs)) (sound_of hΦ) okP (callI_sound (sound_of hΦ) okP 1 2000) (f := Try.f42) rfl hs ha ?_ (fun _ _ h => by obtain rfl := Option.some.inj h; exact ⟨rfl, rfl⟩) rfl site
    exact (f42.b_eq L N (fun d xs => some xs) d.1).trans (Eq.trans (b := f42.b L N some d.1) (by kernel_rfl) hy)
  · intro y hy
    cases hy
def Φ42 (L N : Nat) : Tells := (addT (Φ16 L N) 42 (f42.ent L N))
theorem Φ42_ok (L N : Nat) : TellsOk Try.prog (Φ42 L N) := addT_ok (Φ16_ok L N) (f42.ok L N (Φ16_ok L N))
def f17.b' {R : Type} (L N : Nat) (k : LI → Option R) (x0 : Graph) : Option R :=
  (f31 L N (Graph.mk x0.moves)).bind fun y0 =>
  bif (!y0) then
    k []
  else (f42 L N (Graph.mk x0.moves)).bind fun y1 =>
  k y1
def f17.b {R : Type} (L N : Nat) (k : LI → Option R) (x0 : Graph) : Option R :=
  f17.b' L N k x0
def f17 (L N : Nat) (x0 : Graph) : Option (LI) := f17.b L N some x0
def f17.ent (L N : Nat) (args : List AV) (vw : View) (site : Nat) : Ans := match roD [(.st 2)] vw args with
  | some d => ⟨LI, f17 L N d.1, fun y => (RN.av site .row (), [(site, some (mkO none 3 i64 y))], [])⟩
  | none => Ans.no
noncomputable def E17 (L N : Nat) : Env := { P := Try.prog, ty := tyOf, Φ := (Φ42 L N), inl := inlT, live := lives, liveX := livesX, L := L, dp := none, prom := promT, heal := healT, ren := renT }
theorem f17.b_eq {R : Type} (L N : Nat) (κ : RN.Den .row → List Int → Option R) (x0 : Graph) :
    evBody (E17 L N) (evCallI (E17 L N) 1 2000) 1000 17 Try.f17 [(.tv (.st 2) x0)] [] [] (finN .row none 3 i64 κ)
    = f17.b L N (fun a0 => κ () a0) x0 := by kernel_rfl
theorem f17.ok (L N : Nat) (hΦ : TellsOk Try.prog ((Φ42 L N))) : EntOk Try.prog 17 (f17.ent L N) := by
  intro args vw site h
  unfold f17.ent
  split
  · rename_i d ha
    intro y hy hs
    refine call_ron (y := y) (dep := 1000) (E := (E17 L N)) (ts := [(.st 2)]) (rn := .row) (q := none) (el := 3) (ty := i64) (d1 := ()) (xs := y) (κ := (fun d xs => some xs)) (sound_of hΦ) okP (callI_sound (sound_of hΦ) okP 1 2000) (f := Try.f17) rfl hs ha ?_ (fun _ _ h => by obtain rfl := Option.some.inj h; exact ⟨rfl, rfl⟩) rfl site
    exact (f17.b_eq L N (fun d xs => some xs) d.1).trans (Eq.trans (b := f17.b L N some d.1) (by kernel_rfl) hy)
  · intro y hy
    cases hy
def Φ17 (L N : Nat) : Tells := (addT (Φ42 L N) 17 (f17.ent L N))
theorem Φ17_ok (L N : Nat) : TellsOk Try.prog (Φ17 L N) := addT_ok (Φ42_ok L N) (f17.ok L N (Φ42_ok L N))
def f4.j0' {R : Type} (L N : Nat) (k : Bool → Option R) (v9 : Int) (v10 : Int) (v11 : Bool) (v12 : LLM) : Option R :=
  (f17 L N (Graph.mk v12)).bind fun y13 =>
  bif (!v11) then
    k true
  else bif (decide (0 ≤ v9) && decide (v9 < (y13.length : Int))) then
    bif (decide (0 ≤ v10) && decide (v10 < (y13.length : Int))) then
      k ((listAt y13 (0 : Int) v9.toNat) != (listAt y13 (0 : Int) v10.toNat))
    else none
  else none
def f4.b' {R : Type} (L N : Nat) (k : Bool → Option R) (x0 : LI) : Option R :=
  bif (decide ((x0.length : Int) > (1048576 : Int))) then
    k true
  else (f15 L N x0).bind fun y0 =>
  (f9 L N (Graph.mk y0.1.moves) y0.2.1 y0.2.2).bind fun y1 =>
  (f7 L N (Graph.mk y0.1.moves) y0.2.1 y0.2.2).bind fun y2 =>
  (f16 L N N (Tree.mk y1.1.op y1.1.n y1.1.parts) (Tree.mk y2.1.op y2.1.n y2.1.parts)).bind fun y3 =>
  bif (!y3) then
    k false
  else bif (!(y1.2 == y2.2)) then
    k false
  else f4.j0' L N k y0.2.1 y0.2.2 y1.2 y0.1.moves
def f4.b {R : Type} (L N : Nat) (k : Bool → Option R) (x0 : LI) : Option R :=
  f4.b' L N k x0
def f4 (L N : Nat) (x0 : LI) : Option (Bool) := f4.b L N some x0
def f4.ent (L N : Nat) := entRo [(.sl (.int .u8))] (.one .bool) fun d => f4 L N d.1
noncomputable def E4 (L N : Nat) : Env := { P := Try.prog, ty := tyOf, Φ := (Φ17 L N), inl := inlT, live := lives, liveX := livesX, L := L, dp := none, prom := promT, heal := healT, ren := renT }
theorem f4.b_eq {R : Type} (L N : Nat) (κ : AV → Option R) (x0 : LI) :
    evBody (E4 L N) (evCallI (E4 L N) 1 2000) 1000 4 Try.f4 [(.tv (.sl (.int .u8)) x0)] [] [] (finC (.one .bool) κ)
    = f4.b L N (fun a0 => κ (.tv .bool a0)) x0 := by kernel_rfl
theorem f4.ok (L N : Nat) (hΦ : TellsOk Try.prog ((Φ17 L N))) : EntOk Try.prog 4 (f4.ent L N) := entRo_ok (E := (E4 L N)) (dep := 1000) (f := Try.f4) (sound_of hΦ) okP (callI_sound (sound_of hΦ) okP 1 2000) rfl rfl fun d _ hy => (f4.b_eq L N (unR (.one .bool)) d.1).trans (Eq.trans (b := f4.b L N some d.1) (by kernel_rfl) hy)
def Φ4 (L N : Nat) : Tells := (addT (Φ17 L N) 4 (f4.ent L N))
theorem Φ4_ok (L N : Nat) : TellsOk Try.prog (Φ4 L N) := addT_ok (Φ17_ok L N) (f4.ok L N (Φ17_ok L N))
end Go.Proofs.Ytffkhhblppfbfaa.Ev
